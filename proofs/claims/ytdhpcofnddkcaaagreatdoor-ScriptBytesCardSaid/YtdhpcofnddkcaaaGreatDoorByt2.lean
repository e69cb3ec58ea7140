/- polyglotlaw18.ScriptBytes: for every slice of steps the call returns true and leaves it unchanged. (Names shortened by a program.) (Text 3 of 10: what the law's proof rests on, joined; walks printed by the kit's print over given contracts, walks and plain laws by hand.) -/
import Derived.Test.YtdhpcofnddkcaaaGreatDoorByt0
import Derived.Test.YtdhpcofnddkcaaaGreatDoorByt1
namespace Go.Proofs.YtdhpcofnddkcaaaGreatDoor.S
open Go.RowKit Go.Proofs.YtdhpcofnddkcaaaGreatDoor.G Go.Proofs.YtdhpcofnddkcaaaGreatDoorW.PrintWords Go.Proofs.YtdhpcofnddkcaaaGreatDoorW.PrintLast Go.Proofs.YtdhpcofnddkcaaaGreatDoorW.PrintMore
set_option linter.unusedVariables false
set_option linter.unusedSimpArgs false
namespace Jsl
theorem Va {w : World} {g : Nat} {t : TypeId} {a0 a1 a2 : Value} (h : w.heap[g]? = some (.cells #[a0,a1,a2] t (0,0))) : w.cell? ⟨g,0,none⟩ = some a0 ∧ w.cell? ⟨g,1,none⟩ = some a1 ∧ w.cell? ⟨g,2,none⟩ = some a2 ∧ w.frozen? ⟨g,0,none⟩ = false ∧ w.frozen? ⟨g,1,none⟩ = false ∧ w.frozen? ⟨g,2,none⟩ = false := ⟨(Zd h 0).trans rfl,(Zd h 1).trans rfl,(Zd h 2).trans rfl,Zj h 0,Zj h 1,Zj h 2⟩
theorem Vh {p_ : Prop} (h_ : p_ := by repeat (first | (with_reducible first | exact HB.out | apply Z4 | apply Zr | apply Zz | refine Z8 ?_ Jsm.out) | exact HB.out)) : p_ := h_
theorem J5 {p_ : Prop} (h_ : p_ := by (with_reducible repeat (first | refine Zc ?_ _ | refine Zf ?_ | refine Zb ?_ _));refine Zo (cs := #[.bool false,.string (⟨#[]⟩ : ByteArray),.int .i64 Xr]) ?_ 2 _ rfl;(with_reducible repeat (first | refine Zc ?_ _ | refine Zf ?_ | refine Zb ?_ _));refine Zo (cs := #[.bool false,.string Qh,.int .i64 Xr]) ?_ 1 _ rfl;(with_reducible repeat (first | refine Zc ?_ _ | refine Zf ?_ | refine Zb ?_ _));refine Zo (cs := #[.bool Q9,.string Qh,.int .i64 Xr]) ?_ 0 _ rfl;(with_reducible repeat (first | refine Zc ?_ _ | refine Zf ?_ | refine Zb ?_ _));exact D9.out) : p_ := h_
theorem Vz {p_ : Prop} (h_ : p_ := by (with_reducible repeat (first | refine Zc ?_ _ | refine Zf ?_ | refine Zb ?_ _));exact D9.out) : p_ := h_
theorem Yb {p_ : Prop} (h_ : p_ := by first | (with_reducible assumption) | assumption) : p_ := h_
theorem Qw {p_ : Prop} (h_ : p_ := by first | rfl | (simp;done) | (simp [*];done)) : p_ := h_
theorem Xu {p_ : Prop} (h_ : p_ := by (try simp only [List.map_toArray,List.map_cons,List.map_nil]);first | done | rfl | (simp only [List.length_drop,List.length_take];rfl)) : p_ := h_
theorem Qg {p_ : Prop} (h_ : p_ := by (with_reducible repeat (first | refine Zc ?_ _ | refine Zf ?_ | refine Zb ?_ _));refine Zo (cs := #[.bool Yj,.string F7,.int .i64 Xr]) ?_ 2 _ rfl;(with_reducible repeat (first | refine Zc ?_ _ | refine Zf ?_ | refine Zb ?_ _));refine Zo (cs := #[.bool Yj,.string Qh,.int .i64 Xr]) ?_ 1 _ rfl;(with_reducible repeat (first | refine Zc ?_ _ | refine Zf ?_ | refine Zb ?_ _));refine Zo (cs := #[.bool Q9,.string Qh,.int .i64 Xr]) ?_ 0 _ rfl;(with_reducible repeat (first | refine Zc ?_ _ | refine Zf ?_ | refine Zb ?_ _));exact D9.out) : p_ := h_
theorem Dx {p_ : Prop} (h_ : p_ := by first | rfl | (simp [Vd,Ve] <;> rfl) | (simp [*,Vd,Ve] <;> rfl)) : p_ := h_
theorem Wp {p_ : Prop} (h_ : p_ := by repeat (first | (with_reducible first | exact HB.out | apply Z4 | apply Zr | apply Zz) | exact HB.out)) : p_ := h_
end Jsl
open Jsl
mutual
def Zi.j0 : Nat → ByteArray → Bool → Option (Bool × ByteArray × Int × Bool)
 | 0,_,_ => none
 | k + 1,x0,x4 => if x4 = true then (if 1 ≤ (x0.size : Int) then (Zi.j1 k (x0.extract 1 x0.size) x4) else (none)) else (Zi.j1 k x0 x4)
def Zi.j1 : Nat → ByteArray → Bool → Option (Bool × ByteArray × Int × Bool)
 | 0,_,_ => none
 | k + 1,x0,x4 => Zi.l0 k x0 x4 (⟨#[]⟩ : ByteArray) (-1) 0
def Zi.l0 : Nat → ByteArray → Bool → ByteArray → Int → Int → Option (Bool × ByteArray × Int × Bool)
 | 0,_,_,_,_,_ => none
 | k + 1,x0,x4,x5,x6,x7 => if x7 < (x0.size : Int) then (if 0 ≤ x7 then ((Vt.f (bt x0 x7)).bind fun t210 => (if t210 = true then (if x7 ≤ (wrap64 (x7 + 1)) then (if (wrap64 (x7 + 1)) ≤ (x0.size : Int) then (if x5.size + (x0.extract (x7 : Int).toNat ((wrap64 (x7 + 1)) : Int).toNat).size ≤ 9223372036854775807 then (Zi.l0 k x0 x4 (x5 ++ (x0.extract (x7 : Int).toNat ((wrap64 (x7 + 1)) : Int).toNat)) x6 (wrap64 (x7 + 1))) else (none)) else (none)) else (none)) else (if (bt x0 x7) = 46 then (if x6 < 0 then (if x7 > 0 then (if (wrap64 (x7 + 1)) < (x0.size : Int) then (Zi.l0 k x0 x4 x5 x7 (wrap64 (x7 + 1))) else (some (false,(⟨#[]⟩ : ByteArray),0,false))) else (some (false,(⟨#[]⟩ : ByteArray),0,false))) else (some (false,(⟨#[]⟩ : ByteArray),0,false))) else (some (false,(⟨#[]⟩ : ByteArray),0,false))))) else (none)) else (if (x5.size : Int) = 0 then (Zi.j3 k x0 x4 x5 x6 true) else (Zi.j3 k x0 x4 x5 x6 (decide ((x5.size : Int) > 40))))
def Zi.j3 : Nat → ByteArray → Bool → ByteArray → Int → Bool → Option (Bool × ByteArray × Int × Bool)
 | 0,_,_,_,_,_ => none
 | k + 1,x0,x4,x5,x6,x67 => if x67 = true then (some (false,(⟨#[]⟩ : ByteArray),0,false)) else (if x6 ≥ 0 then (Zi.j4 k x4 x5 (wrap64 ((wrap64 ((x0.size : Int) - 1)) - x6))) else (Zi.j4 k x4 x5 0))
def Zi.j4 : Nat → Bool → ByteArray → Int → Option (Bool × ByteArray × Int × Bool)
 | 0,_,_,_ => none
 | k + 1,x4,x5,x8 => Zi.l1 k x4 x5 x8
def Zi.l1 : Nat → Bool → ByteArray → Int → Option (Bool × ByteArray × Int × Bool)
 | 0,_,_,_ => none
 | k + 1,x4,x5,x8 => if (x5.size : Int) > (wrap64 (x8 + 1)) then (if 0 < (x5.size : Int) then (if (bt x5 0) = 48 then (if 1 ≤ (x5.size : Int) then (Zi.l1 k x4 (x5.extract 1 x5.size) x8) else (none)) else (some (x4,x5,x8,true))) else (none)) else (some (x4,x5,x8,true))
end
def Zi.f (k : Nat) (a0 : ByteArray) : Option (Bool × ByteArray × Int × Bool) := if (a0.size : Int) > 0 then (if 0 < (a0.size : Int) then (Zi.j0 k a0 ((bt a0 0) == 45)) else (none)) else (Zi.j0 k a0 false)
theorem Zi.Xy : ∀ k,(∀ y0 y1,Jz (Zi.j0 k y0 y1) (Zi.j0 (k + 1) y0 y1)) ∧ (∀ y0 y1,Jz (Zi.j1 k y0 y1) (Zi.j1 (k + 1) y0 y1)) ∧ (∀ y0 y1 y2 y3 y4,Jz (Zi.l0 k y0 y1 y2 y3 y4) (Zi.l0 (k + 1) y0 y1 y2 y3 y4)) ∧ (∀ y0 y1 y2 y3 y4,Jz (Zi.j3 k y0 y1 y2 y3 y4) (Zi.j3 (k + 1) y0 y1 y2 y3 y4)) ∧ (∀ y0 y1 y2,Jz (Zi.j4 k y0 y1 y2) (Zi.j4 (k + 1) y0 y1 y2)) ∧ (∀ y0 y1 y2,Jz (Zi.l1 k y0 y1 y2) (Zi.l1 (k + 1) y0 y1 y2))
 | 0 => ⟨fun _ _ r h => by simp [Zi.j0] at h,fun _ _ r h => by simp [Zi.j1] at h,fun _ _ _ _ _ r h => by simp [Zi.l0] at h,fun _ _ _ _ _ r h => by simp [Zi.j3] at h,fun _ _ _ r h => by simp [Zi.j4] at h,fun _ _ _ r h => by simp [Zi.l1] at h⟩
 | k + 1 => by
  obtain ⟨ih0,ih1,ih2,ih3,ih4,ih5⟩ := Zi.Xy k
  refine ⟨?_,?_,?_,?_,?_,?_⟩
  ·intro y0 y1
   unfold Zi.j0
   repeat' first
   | (with_reducible exact ih0 _ _)
   | (with_reducible exact ih1 _ _)
   | (with_reducible exact ih2 _ _ _ _ _)
   | (with_reducible exact ih3 _ _ _ _ _)
   | (with_reducible exact ih4 _ _ _)
   | (with_reducible exact ih5 _ _ _)
   | (with_reducible exact Jz.refl _)
   | (with_reducible exact Jz.none _)
   | (with_reducible refine Jz.ite ?_ ?_)
   | (with_reducible refine Jz.bind ?_ (fun _ => ?_))
   | exact ih0 _ _
   | exact ih1 _ _
   | exact ih2 _ _ _ _ _
   | exact ih3 _ _ _ _ _
   | exact ih4 _ _ _
   | exact ih5 _ _ _
   | exact Jz.none _
   | refine Jz.ite ?_ ?_
   | refine Jz.bind ?_ (fun _ => ?_)
  ·intro y0 y1
   unfold Zi.j1
   repeat' first
   | (with_reducible exact ih0 _ _)
   | (with_reducible exact ih1 _ _)
   | (with_reducible exact ih2 _ _ _ _ _)
   | (with_reducible exact ih3 _ _ _ _ _)
   | (with_reducible exact ih4 _ _ _)
   | (with_reducible exact ih5 _ _ _)
   | (with_reducible exact Jz.refl _)
   | (with_reducible exact Jz.none _)
   | (with_reducible refine Jz.ite ?_ ?_)
   | (with_reducible refine Jz.bind ?_ (fun _ => ?_))
   | exact ih0 _ _
   | exact ih1 _ _
   | exact ih2 _ _ _ _ _
   | exact ih3 _ _ _ _ _
   | exact ih4 _ _ _
   | exact ih5 _ _ _
   | exact Jz.none _
   | refine Jz.ite ?_ ?_
   | refine Jz.bind ?_ (fun _ => ?_)
  ·intro y0 y1 y2 y3 y4
   unfold Zi.l0
   repeat' first
   | (with_reducible exact ih0 _ _)
   | (with_reducible exact ih1 _ _)
   | (with_reducible exact ih2 _ _ _ _ _)
   | (with_reducible exact ih3 _ _ _ _ _)
   | (with_reducible exact ih4 _ _ _)
   | (with_reducible exact ih5 _ _ _)
   | (with_reducible exact Jz.refl _)
   | (with_reducible exact Jz.none _)
   | (with_reducible refine Jz.ite ?_ ?_)
   | (with_reducible refine Jz.bind ?_ (fun _ => ?_))
   | exact ih0 _ _
   | exact ih1 _ _
   | exact ih2 _ _ _ _ _
   | exact ih3 _ _ _ _ _
   | exact ih4 _ _ _
   | exact ih5 _ _ _
   | exact Jz.none _
   | refine Jz.ite ?_ ?_
   | refine Jz.bind ?_ (fun _ => ?_)
  ·intro y0 y1 y2 y3 y4
   unfold Zi.j3
   repeat' first
   | (with_reducible exact ih0 _ _)
   | (with_reducible exact ih1 _ _)
   | (with_reducible exact ih2 _ _ _ _ _)
   | (with_reducible exact ih3 _ _ _ _ _)
   | (with_reducible exact ih4 _ _ _)
   | (with_reducible exact ih5 _ _ _)
   | (with_reducible exact Jz.refl _)
   | (with_reducible exact Jz.none _)
   | (with_reducible refine Jz.ite ?_ ?_)
   | (with_reducible refine Jz.bind ?_ (fun _ => ?_))
   | exact ih0 _ _
   | exact ih1 _ _
   | exact ih2 _ _ _ _ _
   | exact ih3 _ _ _ _ _
   | exact ih4 _ _ _
   | exact ih5 _ _ _
   | exact Jz.none _
   | refine Jz.ite ?_ ?_
   | refine Jz.bind ?_ (fun _ => ?_)
  ·intro y0 y1 y2
   unfold Zi.j4
   repeat' first
   | (with_reducible exact ih0 _ _)
   | (with_reducible exact ih1 _ _)
   | (with_reducible exact ih2 _ _ _ _ _)
   | (with_reducible exact ih3 _ _ _ _ _)
   | (with_reducible exact ih4 _ _ _)
   | (with_reducible exact ih5 _ _ _)
   | (with_reducible exact Jz.refl _)
   | (with_reducible exact Jz.none _)
   | (with_reducible refine Jz.ite ?_ ?_)
   | (with_reducible refine Jz.bind ?_ (fun _ => ?_))
   | exact ih0 _ _
   | exact ih1 _ _
   | exact ih2 _ _ _ _ _
   | exact ih3 _ _ _ _ _
   | exact ih4 _ _ _
   | exact ih5 _ _ _
   | exact Jz.none _
   | refine Jz.ite ?_ ?_
   | refine Jz.bind ?_ (fun _ => ?_)
  ·intro y0 y1 y2
   unfold Zi.l1
   repeat' first
   | (with_reducible exact ih0 _ _)
   | (with_reducible exact ih1 _ _)
   | (with_reducible exact ih2 _ _ _ _ _)
   | (with_reducible exact ih3 _ _ _ _ _)
   | (with_reducible exact ih4 _ _ _)
   | (with_reducible exact ih5 _ _ _)
   | (with_reducible exact Jz.refl _)
   | (with_reducible exact Jz.none _)
   | (with_reducible refine Jz.ite ?_ ?_)
   | (with_reducible refine Jz.bind ?_ (fun _ => ?_))
   | exact ih0 _ _
   | exact ih1 _ _
   | exact ih2 _ _ _ _ _
   | exact ih3 _ _ _ _ _
   | exact ih4 _ _ _
   | exact ih5 _ _ _
   | exact Jz.none _
   | refine Jz.ite ?_ ?_
   | refine Jz.bind ?_ (fun _ => ?_)
theorem Zi.mono : ∀ a0 k,Jz (Zi.f k a0) (Zi.f (k + 1) a0) := by
 intro a0 k
 obtain ⟨ih0,ih1,ih2,ih3,ih4,ih5⟩ := Zi.Xy k
 unfold Zi.f
 repeat' first
   | (with_reducible exact ih0 _ _)
   | (with_reducible exact ih1 _ _)
   | (with_reducible exact ih2 _ _ _ _ _)
   | (with_reducible exact ih3 _ _ _ _ _)
   | (with_reducible exact ih4 _ _ _)
   | (with_reducible exact ih5 _ _ _)
   | (with_reducible exact Jz.refl _)
   | (with_reducible exact Jz.none _)
   | (with_reducible refine Jz.ite ?_ ?_)
   | (with_reducible refine Jz.bind ?_ (fun _ => ?_))
   | exact ih0 _ _
   | exact ih1 _ _
   | exact ih2 _ _ _ _ _
   | exact ih3 _ _ _ _ _
   | exact ih4 _ _ _
   | exact ih5 _ _ _
   | exact Jz.none _
   | refine Jz.ite ?_ ?_
   | refine Jz.bind ?_ (fun _ => ?_)
set_option maxHeartbeats 8000000 in
set_option maxRecDepth 100000 in
theorem Zi.calls (k : Nat) (a0 : ByteArray) (r1 : Bool) (r2 : ByteArray) (r3 : Int) (r4 : Bool) (w : World) (h : Zi.f k a0 = some (r1,r2,r3,r4)) :
  Calls Tryz.prog 31 #[.string a0] w fun e w' => e = .returned (.tuple #[.agg #[.bool r1,.string r2,.int .i64 r3],.bool r4]) ∧ Below w.heap.size w w' := by
 have Jec := Tryz.underlying46
 have HB := Za.mk (Below.refl w.heap.size w)
 have H : (if (a0.size : Int) > 0 then (if 0 < (a0.size : Int) then (Zi.j0 k a0 ((bt a0 0) == 45)) else (none)) else (Zi.j0 k a0 false)) = some (r1,r2,r3,r4) := h
 clear h
 have HC2 := Za.mk H
 clear H
 go_enter Tryz.func31,Tryz.ntmps31
 go_upto_region 1 with (first | ((with_reducible refine Jg (N := 2) rfl ?_);(try (refine Jr (by rfl) ?_;dsimp only));refine Je ?hg (N := 2) ?hd (cs := #[.bool false,.string (⟨#[]⟩ : ByteArray),.int .i64 0]) (t := 46) ?hr ?_;(case hd => rfl);(case hg => rfl);(case hr => first | (go_simp;done) | (go_simp;rfl));intro Li hg w3 hbox hb;have D9 := Za.mk (hbox);have Vft := Za.mk (((by rw [hg];exact (Jh Wp)) : w.heap.size ≤ Li));have Jsm := Za.mk (((by rw [hg];exact (Jh Wp)) : w.heap.size ≤ Li));replace HB := Za.mk (Zm Wp hb);clear hb hbox hg))
 (try simp only [Act.put,List.setIfInBounds_toArray,List.set_cons_zero,List.set_cons_succ])
 go_cut [4] (fun v4 wc => ∃ (kq : Nat) (Yj : Bool),v4 = .bool Yj ∧ Za (Zi.j0 kq a0 Yj = some (r1,r2,r3,r4)) ∧ Za (kq ≤ k) ∧ Za (wc.heap[Li]? = some (.cells #[.bool false,.string (⟨#[]⟩ : ByteArray),.int .i64 0] 46 (0,0))) ∧ Za (Below w.heap.size w wc))
 case first =>
  have H := HC2.out
  clear HC2
  by_cases c4 : (a0.size : Int) > 0
  ·rw [if_pos c4] at H
   have Sj : decide (0 < (a0.size : Int)) = true := decide_eq_true c4
   have Zgi : decide (0 < a0.size) = true := decide_eq_true (by omega)
   clear c4
   (first | rw [Sj] | (simp only [Jo,Jq];rw [Sj]) | skip)
   by_cases c5 : 0 < (a0.size : Int)
   ·rw [if_pos c5] at H
    have wo : decide (0 < (a0.size : Int)) = true := decide_eq_true c5
    have Zsu : decide (0 < a0.size) = true := decide_eq_true (by omega)
    clear c5
    have H' := Za.mk H
    clear H
    have p6 : 0 ≤ (0 : Int) := (by omega)
    have q6 : 0 < a0.size := (by have : (0 : Int) < (a0.size : Int) := of_decide_eq_true Yb;omega)
    have hx6 : ∀ h : 0 < a0.size,((a0[0]'h).toNat : Int) = bt a0 0 := Fz a0 0
    clear p6
    have qi6 : (0 < (a0.size : Int)) = True := eq_true (of_decide_eq_true Yb)
    replace q6 := eq_true q6
    go_wp2
    go_meet
    case rel => exact ⟨_,(((bt a0 0) == 45)),Qw,H',⟨(by first | omega | exact Nat.le_refl _)⟩,⟨Vz⟩,⟨Vh⟩⟩
   ·rw [if_neg c5] at H
    exact absurd H (by simp)
  ·rw [if_neg c4] at H
   have Sj : decide (0 < (a0.size : Int)) = false := decide_eq_false c4
   have Zgi : decide (0 < a0.size) = false := decide_eq_false (by omega)
   clear c4
   (first | rw [Sj] | (simp only [Jo,Jq];rw [Sj]) | skip)
   have H' := Za.mk H
   clear H
   go_wp2
   go_meet
   case rel => exact ⟨_,(false),Qw,H',⟨(by first | omega | exact Nat.le_refl _)⟩,⟨Vz⟩,⟨Vh⟩⟩
 case rest =>
  clear HC2
  try clear p2
  try clear c3
  try clear c4
  try clear Sj
  try clear Zgi
  try clear c5
  try clear wo
  try clear Zsu
  try clear p6 p6
  try clear q6 q6
  try clear hx6
  try clear qi6
  obtain ⟨kq,Yj,rfl,HA,HJ1,D9,HB⟩ := hcut
  cases kq with
  | zero => exact absurd HA.out (by simp [Zi.j0])
  | succ kj1 =>
   have H := HA.out
   clear HA
   simp only [Zi.j0] at H
   have HC7 := Za.mk H
   clear H
   go_upto_if 17 with (fail)
   go_cut [0] (fun v0 wc => ∃ (kq : Nat) (Y8 : ByteArray),v0 = .string Y8 ∧ Za (Zi.j1 kq Y8 Yj = some (r1,r2,r3,r4)) ∧ Za (kq ≤ kj1) ∧ Za (wc.heap[Li]? = some (.cells #[.bool false,.string (⟨#[]⟩ : ByteArray),.int .i64 0] 46 (0,0))) ∧ Za (Below w.heap.size w wc))
   case first =>
    have H := HC7.out
    clear HC7
    by_cases c8 : Yj = true
    ·subst c8
     have H1 : (if 1 ≤ (a0.size : Int) then (Zi.j1 kj1 (a0.extract 1 a0.size) true) else (none)) = some (r1,r2,r3,r4) := by rw [if_pos rfl] at H;exact H
     clear H
     have H := H1
     clear H1
     by_cases c9 : 1 ≤ (a0.size : Int)
     ·rw [if_pos c9] at H
      have Hl := eq_true c9
      have jv : decide (1 ≤ (a0.size : Int)) = true := decide_eq_true c9
      clear c9
      have H' := Za.mk H
      clear H
      go_wp2
      go_meet
      case rel => exact ⟨_,(a0.extract 1 a0.size),Qw,H',⟨(by have := HJ1.out;first | omega | exact Nat.le_refl _)⟩,⟨Vz⟩,⟨Vh⟩⟩
     ·rw [if_neg c9] at H
      exact absurd H (by simp)
    ·replace c8 := Bool.eq_false_iff.mpr c8
     subst c8
     have H1 : (Zi.j1 kj1 a0 false) = some (r1,r2,r3,r4) := by rw [if_neg (show ¬ (false = true) by decide)] at H;exact H
     clear H
     have H := H1
     clear H1
     have H' := Za.mk H
     clear H
     go_wp2
     go_meet
     case rel => exact ⟨_,(a0),Qw,H',⟨(by have := HJ1.out;first | omega | exact Nat.le_refl _)⟩,⟨Vz⟩,⟨Vh⟩⟩
   case rest =>
    clear HC7
    try clear p2 p2
    try clear c3
    try clear c4
    try clear Sj
    try clear Zgi
    try clear c5
    try clear wo
    try clear Zsu
    try clear p6 p6
    try clear q6 q6
    try clear hx6
    try clear qi6
    try clear c8
    try clear c9
    try clear Hl
    try clear jv
    obtain ⟨kq,Y8,rfl,HA,HJ6,D9,HB⟩ := hcut
    cases kq with
    | zero => exact absurd HA.out (by simp [Zi.j1])
    | succ kj6 =>
     have H := HA.out
     clear HA
     simp only [Zi.j1] at H
     have H' := Za.mk H
     clear H
     go_wp2
     go_loopg [5,6,7] kj6 (fun kq v5 v6 v7 w' => ∃ (Sk : ByteArray) (Zba : Int) (Vn : Int) (Q9 : Bool) (Qh : ByteArray) (Xr : Int),v5 = .string Sk ∧ v6 = .int .i64 Zba ∧ v7 = .int .i64 Vn ∧ Za (Zi.l0 kq Y8 Yj Sk Zba Vn = some (r1,r2,r3,r4)) ∧ Za (kq ≤ kj6) ∧ Za (w'.heap[Li]? = some (.cells #[.bool Q9,.string Qh,.int .i64 Xr] 46 (0,0))) ∧ Za (Below w.heap.size w w'))
     case atStart => exact ⟨((⟨#[]⟩ : ByteArray)),((-1)),(0),(false),((⟨#[]⟩ : ByteArray)),(0),Qw,Qw,Qw,H',⟨Nat.le_refl _⟩,⟨Vz⟩,⟨Vh⟩⟩
     case round =>
      clear H'
      try clear p2 p2
      try clear c3
      try clear c4
      try clear Sj
      try clear Zgi
      try clear c5
      try clear wo
      try clear Zsu
      try clear p6 p6
      try clear q6 q6
      try clear hx6
      try clear qi6
      try clear c8
      try clear c9
      try clear Hl
      try clear jv
      obtain ⟨Sk,Zba,Vn,Q9,Qh,Xr,rfl,rfl,rfl,HA,HK3,D9,HB⟩ := hrel
      cases gk with
      | zero => exact absurd HA.out (by simp [Zi.l0])
      | succ k3 =>
       have H := HA.out
       clear HA
       simp only [Zi.l0] at H
       by_cases c10 : Vn < (Y8.size : Int)
       ·rw [if_pos c10] at H
        have df : decide (Vn < (Y8.size : Int)) = true := decide_eq_true c10
        clear c10
        by_cases c11 : 0 ≤ Vn
        ·rw [if_pos c11] at H
         have Ny : decide (0 ≤ Vn) = true := decide_eq_true c11
         clear c11
         replace H := Option.bind_eq_some_iff.mp H
         obtain ⟨t210,Zqt,H⟩ := H
         replace H : (if t210 = true then (if Vn ≤ (wrap64 (Vn + 1)) then (if (wrap64 (Vn + 1)) ≤ (Y8.size : Int) then (if Sk.size + (Y8.extract (Vn : Int).toNat ((wrap64 (Vn + 1)) : Int).toNat).size ≤ 9223372036854775807 then (Zi.l0 k3 Y8 Yj (Sk ++ (Y8.extract (Vn : Int).toNat ((wrap64 (Vn + 1)) : Int).toNat)) Zba (wrap64 (Vn + 1))) else (none)) else (none)) else (none)) else (if (bt Y8 Vn) = 46 then (if Zba < 0 then (if Vn > 0 then (if (wrap64 (Vn + 1)) < (Y8.size : Int) then (Zi.l0 k3 Y8 Yj Sk Vn (wrap64 (Vn + 1))) else (some (false,(⟨#[]⟩ : ByteArray),0,false))) else (some (false,(⟨#[]⟩ : ByteArray),0,false))) else (some (false,(⟨#[]⟩ : ByteArray),0,false))) else (some (false,(⟨#[]⟩ : ByteArray),0,false)))) = some (r1,r2,r3,r4) := H
         have A13 := Za.mk Zqt
         clear Zqt
         by_cases c14 : t210 = true
         ·subst c14
          have H1 : (if Vn ≤ (wrap64 (Vn + 1)) then (if (wrap64 (Vn + 1)) ≤ (Y8.size : Int) then (if Sk.size + (Y8.extract (Vn : Int).toNat ((wrap64 (Vn + 1)) : Int).toNat).size ≤ 9223372036854775807 then (Zi.l0 k3 Y8 Yj (Sk ++ (Y8.extract (Vn : Int).toNat ((wrap64 (Vn + 1)) : Int).toNat)) Zba (wrap64 (Vn + 1))) else (none)) else (none)) else (none)) = some (r1,r2,r3,r4) := by rw [if_pos rfl] at H;exact H
          clear H
          have H := H1
          clear H1
          have Zlp := eq_true (of_decide_eq_true Yb : 0 ≤ Vn)
          by_cases c16 : Vn ≤ (wrap64 (Vn + 1))
          ·rw [if_pos c16] at H
           have Z5e := eq_true c16
           have Z5f : decide (Vn ≤ (wrap64 (Vn + 1))) = true := decide_eq_true c16
           by_cases c17 : (wrap64 (Vn + 1)) ≤ (Y8.size : Int)
           ·rw [if_pos c17] at H
            have Zqu := eq_true c17
            have Zz9 : decide ((wrap64 (Vn + 1)) ≤ (Y8.size : Int)) = true := decide_eq_true c17
            by_cases c18 : Sk.size + (Y8.extract (Vn : Int).toNat ((wrap64 (Vn + 1)) : Int).toNat).size ≤ 9223372036854775807
            ·rw [if_pos c18] at H
             have Zlq := eq_true c18
             have Zqv : decide (Sk.size + (Y8.extract (Vn : Int).toNat ((wrap64 (Vn + 1)) : Int).toNat).size ≤ 9223372036854775807) = true := decide_eq_true c18
             try have Jei : (9223372036854775807 < Sk.size + (Y8.extract (Vn : Int).toNat ((wrap64 (Vn + 1)) : Int).toNat).size) = False := eq_false (Nat.not_lt.2 c18)
             have H' := Za.mk H
             clear H
             have p12 : 0 ≤ (Vn : Int) := of_decide_eq_true Yb
             have q12 : Vn < (Y8.size : Int) := of_decide_eq_true Yb
             have Z0a := Fz Y8 Vn
             replace p12 := eq_true p12
             replace q12 := eq_true q12
             go_wp2_with (first | ((with_reducible refine Z7 (f := 45) rfl ?_);refine Ju (some 31) rfl rfl Tryz.func45 (by kernel_rfl) rfl #[.int .u8 (bt Y8 Vn)] rfl Xu ?_;(with_reducible refine (Vt.calls (bt Y8 Vn) true _ A13.out).mono ?_);rintro e w' ⟨rfl,⟨nd,rfl⟩⟩;refine ⟨_,rfl,?_⟩))
             go_roundg k3
             case measure => have := HJ1.out;have := HJ6.out;have := HK3.out;omega
             case rel => exact ⟨(Sk ++ (Y8.extract (Vn : Int).toNat ((wrap64 (Vn + 1)) : Int).toNat)),(Zba),(wrap64 (Vn + 1)),(Q9),(Qh),(Xr),Qw,Qw,Qw,H',⟨(by have := HJ1.out;have := HJ6.out;have := HK3.out;omega)⟩,⟨Vz⟩,⟨Vh⟩⟩
            ·rw [if_neg c18] at H
             exact absurd H (by simp)
           ·rw [if_neg c17] at H
            exact absurd H (by simp)
          ·rw [if_neg c16] at H
           exact absurd H (by simp)
         ·replace c14 := Bool.eq_false_iff.mpr c14
          subst c14
          have H1 : (if (bt Y8 Vn) = 46 then (if Zba < 0 then (if Vn > 0 then (if (wrap64 (Vn + 1)) < (Y8.size : Int) then (Zi.l0 k3 Y8 Yj Sk Vn (wrap64 (Vn + 1))) else (some (false,(⟨#[]⟩ : ByteArray),0,false))) else (some (false,(⟨#[]⟩ : ByteArray),0,false))) else (some (false,(⟨#[]⟩ : ByteArray),0,false))) else (some (false,(⟨#[]⟩ : ByteArray),0,false))) = some (r1,r2,r3,r4) := by rw [if_neg (show ¬ (false = true) by decide)] at H;exact H
          clear H
          have H := H1
          clear H1
          by_cases c20 : (bt Y8 Vn) = 46
          ·rw [if_pos c20] at H
           have Zff : ((bt Y8 Vn) == 46) = true := beq_iff_eq.mpr c20
           have Zlr : ((bt Y8 Vn) != 46) = false := bne_eq_false_iff_eq.mpr c20
           clear c20
           by_cases c21 : Zba < 0
           ·rw [if_pos c21] at H
            have Z5g : decide (Zba < 0) = true := decide_eq_true c21
            clear c21
            by_cases Pq : Vn > 0
            ·rw [if_pos Pq] at H
             have Sn : decide (0 < Vn) = true := decide_eq_true Pq
             clear Pq
             by_cases c23 : (wrap64 (Vn + 1)) < (Y8.size : Int)
             ·rw [if_pos c23] at H
              have Z5h : decide ((wrap64 (Vn + 1)) < (Y8.size : Int)) = true := decide_eq_true c23
              clear c23
              have H' := Za.mk H
              clear H
              have p12 : 0 ≤ (Vn : Int) := of_decide_eq_true Yb
              have q12 : Vn < (Y8.size : Int) := of_decide_eq_true Yb
              have Z0a := Fz Y8 Vn
              replace p12 := eq_true p12
              replace q12 := eq_true q12
              go_wp2_with (first | ((with_reducible refine Z7 (f := 45) rfl ?_);refine Ju (some 31) rfl rfl Tryz.func45 (by kernel_rfl) rfl #[.int .u8 (bt Y8 Vn)] rfl Xu ?_;(with_reducible refine (Vt.calls (bt Y8 Vn) false _ A13.out).mono ?_);rintro e w' ⟨rfl,⟨nd,rfl⟩⟩;refine ⟨_,rfl,?_⟩;have p19 : 0 ≤ (Vn : Int) := of_decide_eq_true Yb;have q19 : Vn < (Y8.size : Int) := of_decide_eq_true Yb;have Zsv := Fz Y8 Vn;replace p19 := eq_true p19;replace q19 := eq_true q19))
              go_roundg k3
              case measure => have := HJ1.out;have := HJ6.out;have := HK3.out;omega
              case rel => exact ⟨(Sk),(Vn),(wrap64 (Vn + 1)),(Q9),(Qh),(Xr),Qw,Qw,Qw,H',⟨(by have := HJ1.out;have := HJ6.out;have := HK3.out;omega)⟩,⟨Vz⟩,⟨Vh⟩⟩
             ·rw [if_neg c23] at H
              have Z5h : decide ((wrap64 (Vn + 1)) < (Y8.size : Int)) = false := decide_eq_false c23
              clear c23
              simp only [Option.some.injEq,Prod.mk.injEq] at H
              obtain ⟨rfl,rfl,rfl,rfl⟩ := H
              have p12 : 0 ≤ (Vn : Int) := of_decide_eq_true Yb
              have q12 : Vn < (Y8.size : Int) := of_decide_eq_true Yb
              have Z0a := Fz Y8 Vn
              replace p12 := eq_true p12
              replace q12 := eq_true q12
              go_wp2_with (first | ((with_reducible refine Z7 (f := 45) rfl ?_);refine Ju (some 31) rfl rfl Tryz.func45 (by kernel_rfl) rfl #[.int .u8 (bt Y8 Vn)] rfl Xu ?_;(with_reducible refine (Vt.calls (bt Y8 Vn) false _ A13.out).mono ?_);rintro e w' ⟨rfl,⟨nd,rfl⟩⟩;refine ⟨_,rfl,?_⟩;(try (rw [N7 wr];generalize hq_ : World.drewN wr _ = wr;have Gt : Za (wr.heap[Li]? = some (.cells #[.bool Q9,.string Qh,.int .i64 Xr] 46 (0,0))) := ⟨(by rw [← hq_];exact Vz)⟩;have Hy : Za (Below w.heap.size w wr) := ⟨(by rw [← hq_];exact Vh)⟩;clear D9 HB hq_;have D9 := Gt;have HB := Hy;clear Gt Hy));have p19 : 0 ≤ (Vn : Int) := of_decide_eq_true Yb;have q19 : Vn < (Y8.size : Int) := of_decide_eq_true Yb;have Zsv := Fz Y8 Vn;replace p19 := eq_true p19;replace q19 := eq_true q19;obtain ⟨Wq,Ws,Wt,Wu,Wv,Ww⟩ := Va D9.out))
              refine bodyPost_ret (Vr rfl _ _ Li 46 #[.bool false,.string (⟨#[]⟩ : ByteArray),.int .i64 0] (0,0) _ rfl J5 Tryz.underlying46 rfl (by kernel_rfl)) rfl ?_
              exact ⟨Dx,Vh⟩
            ·rw [if_neg Pq] at H
             have Sn : decide (0 < Vn) = false := decide_eq_false Pq
             clear Pq
             simp only [Option.some.injEq,Prod.mk.injEq] at H
             obtain ⟨rfl,rfl,rfl,rfl⟩ := H
             have p12 : 0 ≤ (Vn : Int) := of_decide_eq_true Yb
             have q12 : Vn < (Y8.size : Int) := of_decide_eq_true Yb
             have Z0a := Fz Y8 Vn
             replace p12 := eq_true p12
             replace q12 := eq_true q12
             go_wp2_with (first | ((with_reducible refine Z7 (f := 45) rfl ?_);refine Ju (some 31) rfl rfl Tryz.func45 (by kernel_rfl) rfl #[.int .u8 (bt Y8 Vn)] rfl Xu ?_;(with_reducible refine (Vt.calls (bt Y8 Vn) false _ A13.out).mono ?_);rintro e w' ⟨rfl,⟨nd,rfl⟩⟩;refine ⟨_,rfl,?_⟩;(try (rw [N7 wr];generalize hq_ : World.drewN wr _ = wr;have Gt : Za (wr.heap[Li]? = some (.cells #[.bool Q9,.string Qh,.int .i64 Xr] 46 (0,0))) := ⟨(by rw [← hq_];exact Vz)⟩;have Hy : Za (Below w.heap.size w wr) := ⟨(by rw [← hq_];exact Vh)⟩;clear D9 HB hq_;have D9 := Gt;have HB := Hy;clear Gt Hy));have p19 : 0 ≤ (Vn : Int) := of_decide_eq_true Yb;have q19 : Vn < (Y8.size : Int) := of_decide_eq_true Yb;have Zsv := Fz Y8 Vn;replace p19 := eq_true p19;replace q19 := eq_true q19;obtain ⟨Zb3,Zb4,Zb5,Zb6,Zb7,Zb8⟩ := Va D9.out))
             refine bodyPost_ret (Vr rfl _ _ Li 46 #[.bool false,.string (⟨#[]⟩ : ByteArray),.int .i64 0] (0,0) _ rfl J5 Tryz.underlying46 rfl (by kernel_rfl)) rfl ?_
             exact ⟨Dx,Vh⟩
           ·rw [if_neg c21] at H
            have Z5g : decide (Zba < 0) = false := decide_eq_false c21
            clear c21
            simp only [Option.some.injEq,Prod.mk.injEq] at H
            obtain ⟨rfl,rfl,rfl,rfl⟩ := H
            have p12 : 0 ≤ (Vn : Int) := of_decide_eq_true Yb
            have q12 : Vn < (Y8.size : Int) := of_decide_eq_true Yb
            have Z0a := Fz Y8 Vn
            replace p12 := eq_true p12
            replace q12 := eq_true q12
            go_wp2_with (first | ((with_reducible refine Z7 (f := 45) rfl ?_);refine Ju (some 31) rfl rfl Tryz.func45 (by kernel_rfl) rfl #[.int .u8 (bt Y8 Vn)] rfl Xu ?_;(with_reducible refine (Vt.calls (bt Y8 Vn) false _ A13.out).mono ?_);rintro e w' ⟨rfl,⟨nd,rfl⟩⟩;refine ⟨_,rfl,?_⟩;(try (rw [N7 wr];generalize hq_ : World.drewN wr _ = wr;have Gt : Za (wr.heap[Li]? = some (.cells #[.bool Q9,.string Qh,.int .i64 Xr] 46 (0,0))) := ⟨(by rw [← hq_];exact Vz)⟩;have Hy : Za (Below w.heap.size w wr) := ⟨(by rw [← hq_];exact Vh)⟩;clear D9 HB hq_;have D9 := Gt;have HB := Hy;clear Gt Hy));have p19 : 0 ≤ (Vn : Int) := of_decide_eq_true Yb;have q19 : Vn < (Y8.size : Int) := of_decide_eq_true Yb;have Zsv := Fz Y8 Vn;replace p19 := eq_true p19;replace q19 := eq_true q19;obtain ⟨Ps,Pt,Pv,Pw,Px,Py⟩ := Va D9.out))
            refine bodyPost_ret (Vr rfl _ _ Li 46 #[.bool false,.string (⟨#[]⟩ : ByteArray),.int .i64 0] (0,0) _ rfl J5 Tryz.underlying46 rfl (by kernel_rfl)) rfl ?_
            exact ⟨Dx,Vh⟩
          ·rw [if_neg c20] at H
           have Zff : ((bt Y8 Vn) == 46) = false := beq_eq_false_iff_ne.mpr c20
           have Zlr : ((bt Y8 Vn) != 46) = true := bne_iff_ne.mpr c20
           simp only [Option.some.injEq,Prod.mk.injEq] at H
           obtain ⟨rfl,rfl,rfl,rfl⟩ := H
           have p12 : 0 ≤ (Vn : Int) := of_decide_eq_true Yb
           have q12 : Vn < (Y8.size : Int) := of_decide_eq_true Yb
           have Z0a := Fz Y8 Vn
           replace p12 := eq_true p12
           replace q12 := eq_true q12
           go_wp2_with (first | ((with_reducible refine Z7 (f := 45) rfl ?_);refine Ju (some 31) rfl rfl Tryz.func45 (by kernel_rfl) rfl #[.int .u8 (bt Y8 Vn)] rfl Xu ?_;(with_reducible refine (Vt.calls (bt Y8 Vn) false _ A13.out).mono ?_);rintro e w' ⟨rfl,⟨nd,rfl⟩⟩;refine ⟨_,rfl,?_⟩;(try (rw [N7 wr];generalize hq_ : World.drewN wr _ = wr;have Gt : Za (wr.heap[Li]? = some (.cells #[.bool Q9,.string Qh,.int .i64 Xr] 46 (0,0))) := ⟨(by rw [← hq_];exact Vz)⟩;have Hy : Za (Below w.heap.size w wr) := ⟨(by rw [← hq_];exact Vh)⟩;clear D9 HB hq_;have D9 := Gt;have HB := Hy;clear Gt Hy));have p19 : 0 ≤ (Vn : Int) := of_decide_eq_true Yb;have q19 : Vn < (Y8.size : Int) := of_decide_eq_true Yb;have Zsv := Fz Y8 Vn;replace p19 := eq_true p19;replace q19 := eq_true q19;obtain ⟨Pz,P5,P6,P7,P8,P9⟩ := Va D9.out))
           refine bodyPost_ret (Vr rfl _ _ Li 46 #[.bool false,.string (⟨#[]⟩ : ByteArray),.int .i64 0] (0,0) _ rfl J5 Tryz.underlying46 rfl (by kernel_rfl)) rfl ?_
           exact ⟨Dx,Vh⟩
        ·rw [if_neg c11] at H
         exact absurd H (by simp)
       ·rw [if_neg c10] at H
        have df : decide (Vn < (Y8.size : Int)) = false := decide_eq_false c10
        clear c10
        have Joo := Za.mk H
        clear H
        go_upto_region 14 with (fail)
        go_cut [67] (fun v67 wc => ∃ (kq : Nat) (Zus : Bool),v67 = .bool Zus ∧ Za (Zi.j3 kq Y8 Yj Sk Zba Zus = some (r1,r2,r3,r4)) ∧ Za (kq ≤ k3) ∧ Za (wc.heap[Li]? = some (.cells #[.bool Q9,.string Qh,.int .i64 Xr] 46 (0,0))) ∧ Za (Below w.heap.size w wc))
        case first =>
         have H := Joo.out
         clear Joo
         by_cases c29 : (Sk.size : Int) = 0
         ·rw [if_pos c29] at H
          have Zls : ((Sk.size : Int) == 0) = true := beq_iff_eq.mpr c29
          have Z5i : ((Sk.size : Int) != 0) = false := bne_eq_false_iff_eq.mpr c29
          clear c29
          (first | rw [Zls] | (simp only [Jo,Jq];rw [Zls]) | skip)
          have H' := Za.mk H
          clear H
          go_wp2
          go_meet
          case rel => exact ⟨_,(true),Qw,H',⟨(by have := HJ1.out;have := HJ6.out;have := HK3.out;first | omega | exact Nat.le_refl _)⟩,⟨Vz⟩,⟨Vh⟩⟩
         ·rw [if_neg c29] at H
          have Zls : ((Sk.size : Int) == 0) = false := beq_eq_false_iff_ne.mpr c29
          have Z5i : ((Sk.size : Int) != 0) = true := bne_iff_ne.mpr c29
          (first | rw [Zls] | (simp only [Jo,Jq];rw [Zls]) | skip)
          have H' := Za.mk H
          clear H
          go_wp2
          go_meet
          case rel => exact ⟨_,(decide ((Sk.size : Int) > 40)),Qw,H',⟨(by have := HJ1.out;have := HJ6.out;have := HK3.out;first | omega | exact Nat.le_refl _)⟩,⟨Vz⟩,⟨Vh⟩⟩
        case rest =>
         clear Joo
         try clear c1
         try clear p1
         try clear q1
         try clear hx1
         try clear c2
         try clear p2 p2
         try clear c3
         try clear c4
         try clear Sj
         try clear Zgi
         try clear c5
         try clear wo
         try clear Zsu
         try clear p6 p6
         try clear q6 q6
         try clear hx6
         try clear qi6
         try clear c8
         try clear c9
         try clear Hl
         try clear jv
         try clear c10
         try clear df
         try clear c11
         try clear Ny
         try clear p12 p12
         try clear q12 q12
         try clear Z0a
         try clear c14
         try clear c15
         try clear Zlp
         try clear c16
         try clear Z5e
         try clear Z5f
         try clear c17
         try clear Zqu
         try clear Zz9
         try clear c18
         try clear Zlq
         try clear Zqv
         try clear Jei
         try clear p19 p19
         try clear q19 q19
         try clear Zsv
         try clear c20
         try clear Zff
         try clear Zlr
         try clear c21
         try clear Z5g
         try clear Pq
         try clear Sn
         try clear c23
         try clear Z5h
         try clear c29
         try clear Zls
         try clear Z5i
         try clear Wq Ws Wt
         try clear Zb3 Zb4 Zb5
         try clear Ps Pt Pv
         try clear Pz P5 P6
         try clear Wu Wv Ww
         try clear Zb6 Zb7 Zb8
         try clear Pw Px Py
         try clear P7 P8 P9
         obtain ⟨kq,Zus,rfl,HA,Jic,D9,HB⟩ := hcut
         cases kq with
         | zero => exact absurd HA.out (by simp [Zi.j3])
         | succ Jop =>
          have H := HA.out
          clear HA
          simp only [Zi.j3] at H
          by_cases c30 : Zus = true
          ·subst c30
           have H1 : (some (false,(⟨#[]⟩ : ByteArray),0,false)) = some (r1,r2,r3,r4) := by rw [if_pos rfl] at H;exact H
           clear H
           have H := H1
           clear H1
           simp only [Option.some.injEq,Prod.mk.injEq] at H
           obtain ⟨rfl,rfl,rfl,rfl⟩ := H
           obtain ⟨Zgl,Zgm,Zgn,Zgo,Zgp,Zgq⟩ := Va D9.out
           go_wp2
           refine bodyPost_ret (Vr rfl _ _ Li 46 #[.bool false,.string (⟨#[]⟩ : ByteArray),.int .i64 0] (0,0) _ rfl J5 Tryz.underlying46 rfl (by kernel_rfl)) rfl ?_
           exact ⟨Dx,Vh⟩
          ·replace c30 := Bool.eq_false_iff.mpr c30
           subst c30
           have H1 : (if Zba ≥ 0 then (Zi.j4 Jop Yj Sk (wrap64 ((wrap64 ((Y8.size : Int) - 1)) - Zba))) else (Zi.j4 Jop Yj Sk 0)) = some (r1,r2,r3,r4) := by rw [if_neg (show ¬ (false = true) by decide)] at H;exact H
           clear H
           have H := H1
           clear H1
           have Joq := Za.mk H
           clear H
           go_upto_if 70 with (fail)
           go_cut [8] (fun v8 wc => ∃ (kq : Nat) (Zgr : Int),v8 = .int .i64 Zgr ∧ Za (Zi.j4 kq Yj Sk Zgr = some (r1,r2,r3,r4)) ∧ Za (kq ≤ Jop) ∧ Za (wc.heap[Li]? = some (.cells #[.bool Q9,.string Qh,.int .i64 Xr] 46 (0,0))) ∧ Za (Below w.heap.size w wc))
           case first =>
            have H := Joq.out
            clear Joq
            by_cases c33 : Zba ≥ 0
            ·rw [if_pos c33] at H
             have Za3 : decide (0 ≤ Zba) = true := decide_eq_true c33
             clear c33
             (first | rw [Za3] | (simp only [Jo,Jq];rw [Za3]) | skip)
             have H' := Za.mk H
             clear H
             go_wp2
             go_meet
             case rel => exact ⟨_,(wrap64 ((wrap64 ((Y8.size : Int) - 1)) - Zba)),Qw,H',⟨(by have := HJ1.out;have := HJ6.out;have := HK3.out;have := Jic.out;first | omega | exact Nat.le_refl _)⟩,⟨Vz⟩,⟨Vh⟩⟩
            ·rw [if_neg c33] at H
             have Za3 : decide (0 ≤ Zba) = false := decide_eq_false c33
             clear c33
             (first | rw [Za3] | (simp only [Jo,Jq];rw [Za3]) | skip)
             have H' := Za.mk H
             clear H
             go_wp2
             go_meet
             case rel => exact ⟨_,(0),Qw,H',⟨(by have := HJ1.out;have := HJ6.out;have := HK3.out;have := Jic.out;first | omega | exact Nat.le_refl _)⟩,⟨Vz⟩,⟨Vh⟩⟩
           case rest =>
            clear Joq
            try clear c1
            try clear p1 p1
            try clear q1 q1
            try clear hx1
            try clear c2
            try clear p2 p2
            try clear c3
            try clear c4
            try clear Sj
            try clear Zgi
            try clear c5
            try clear wo
            try clear Zsu
            try clear p6 p6
            try clear q6 q6
            try clear hx6
            try clear qi6
            try clear c8
            try clear c9
            try clear Hl
            try clear jv
            try clear c10
            try clear df
            try clear c11
            try clear Ny
            try clear p12 p12
            try clear q12 q12
            try clear Z0a
            try clear c14
            try clear c15
            try clear Zlp
            try clear c16
            try clear Z5e
            try clear Z5f
            try clear c17
            try clear Zqu
            try clear Zz9
            try clear c18
            try clear Zlq
            try clear Zqv
            try clear Jei
            try clear p19 p19
            try clear q19 q19
            try clear Zsv
            try clear c20
            try clear Zff
            try clear Zlr
            try clear c21
            try clear Z5g
            try clear Pq
            try clear Sn
            try clear c23
            try clear Z5h
            try clear c29
            try clear Zls
            try clear Z5i
            try clear c30
            try clear c31
            try clear c33
            try clear Za3
            try clear Wq Ws Wt
            try clear Zb3 Zb4 Zb5
            try clear Ps Pt Pv
            try clear Pz P5 P6
            try clear Zgl Zgm Zgn
            try clear Wu Wv Ww
            try clear Zb6 Zb7 Zb8
            try clear Pw Px Py
            try clear P7 P8 P9
            try clear Zgo Zgp Zgq
            obtain ⟨kq,Zgr,rfl,HA,Jsn,D9,HB⟩ := hcut
            cases kq with
            | zero => exact absurd HA.out (by simp [Zi.j4])
            | succ Jso =>
             have H := HA.out
             clear HA
             simp only [Zi.j4] at H
             have H' := Za.mk H
             clear H
             go_wp2
             go_loopg [5] Jso (fun kq v5 w' => ∃ (F7 : ByteArray),v5 = .string F7 ∧ Za (Zi.l1 kq Yj F7 Zgr = some (r1,r2,r3,r4)) ∧ Za (kq ≤ Jso) ∧ Za (w'.heap[Li]? = some (.cells #[.bool Q9,.string Qh,.int .i64 Xr] 46 (0,0))) ∧ Za (Below w.heap.size w w'))
             case atStart => exact ⟨(Sk),Qw,H',⟨Nat.le_refl _⟩,⟨Vz⟩,⟨Vh⟩⟩
             case round =>
              clear H'
              try clear c1
              try clear p1 p1
              try clear q1 q1
              try clear hx1
              try clear c2
              try clear p2 p2
              try clear c3
              try clear c4
              try clear Sj
              try clear Zgi
              try clear c5
              try clear wo
              try clear Zsu
              try clear p6 p6
              try clear q6 q6
              try clear hx6
              try clear qi6
              try clear c8
              try clear c9
              try clear Hl
              try clear jv
              try clear c10
              try clear df
              try clear c11
              try clear Ny
              try clear p12 p12
              try clear q12 q12
              try clear Z0a
              try clear c14
              try clear c15
              try clear Zlp
              try clear c16
              try clear Z5e
              try clear Z5f
              try clear c17
              try clear Zqu
              try clear Zz9
              try clear c18
              try clear Zlq
              try clear Zqv
              try clear Jei
              try clear p19 p19
              try clear q19 q19
              try clear Zsv
              try clear c20
              try clear Zff
              try clear Zlr
              try clear c21
              try clear Z5g
              try clear Pq
              try clear Sn
              try clear c23
              try clear Z5h
              try clear c29
              try clear Zls
              try clear Z5i
              try clear c30
              try clear c31
              try clear c33
              try clear Za3
              try clear Wq Ws Wt
              try clear Zb3 Zb4 Zb5
              try clear Ps Pt Pv
              try clear Pz P5 P6
              try clear Zgl Zgm Zgn
              try clear Wu Wv Ww
              try clear Zb6 Zb7 Zb8
              try clear Pw Px Py
              try clear P7 P8 P9
              try clear Zgo Zgp Zgq
              obtain ⟨F7,rfl,HA,HK6,D9,HB⟩ := hrel
              cases gk with
              | zero => exact absurd HA.out (by simp [Zi.l1])
              | succ k6 =>
               have H := HA.out
               clear HA
               simp only [Zi.l1] at H
               by_cases c34 : (F7.size : Int) > (wrap64 (Zgr + 1))
               ·rw [if_pos c34] at H
                have Zgs : decide ((wrap64 (Zgr + 1)) < (F7.size : Int)) = true := decide_eq_true c34
                clear c34
                by_cases jc : 0 < (F7.size : Int)
                ·rw [if_pos jc] at H
                 have Za4 : decide (0 < (F7.size : Int)) = true := decide_eq_true jc
                 have Zfg : decide (0 < F7.size) = true := decide_eq_true (by omega)
                 clear jc
                 by_cases c37 : (bt F7 0) = 48
                 ·rw [if_pos c37] at H
                  have Jlu : ((bt F7 0) == 48) = true := beq_iff_eq.mpr c37
                  have Jlv : ((bt F7 0) != 48) = false := bne_eq_false_iff_eq.mpr c37
                  clear c37
                  by_cases c38 : 1 ≤ (F7.size : Int)
                  ·rw [if_pos c38] at H
                   have Ztv := eq_true c38
                   have Ztw : decide (1 ≤ (F7.size : Int)) = true := decide_eq_true c38
                   clear c38
                   have H' := Za.mk H
                   clear H
                   have p36 : 0 ≤ (0 : Int) := (by omega)
                   have q36 : 0 < F7.size := (by have : (0 : Int) < (F7.size : Int) := of_decide_eq_true Yb;omega)
                   have Vbj : ∀ h : 0 < F7.size,((F7[0]'h).toNat : Int) = bt F7 0 := Fz F7 0
                   clear p36
                   have Vbk : (0 < (F7.size : Int)) = True := eq_true (of_decide_eq_true Yb)
                   replace q36 := eq_true q36
                   go_wp2
                   go_roundg k6
                   case measure => have := HJ1.out;have := HJ6.out;have := HK3.out;have := Jic.out;have := Jsn.out;have := HK6.out;omega
                   case rel => exact ⟨(F7.extract 1 F7.size),Qw,H',⟨(by have := HJ1.out;have := HJ6.out;have := HK3.out;have := Jic.out;have := Jsn.out;have := HK6.out;omega)⟩,⟨Vz⟩,⟨Vh⟩⟩
                  ·rw [if_neg c38] at H
                   exact absurd H (by simp)
                 ·rw [if_neg c37] at H
                  have Jlu : ((bt F7 0) == 48) = false := beq_eq_false_iff_ne.mpr c37
                  have Jlv : ((bt F7 0) != 48) = true := bne_iff_ne.mpr c37
                  simp only [Option.some.injEq,Prod.mk.injEq] at H
                  obtain ⟨rfl,rfl,rfl,rfl⟩ := H
                  have p36 : 0 ≤ (0 : Int) := (by omega)
                  have q36 : 0 < F7.size := (by have : (0 : Int) < (F7.size : Int) := of_decide_eq_true Yb;omega)
                  have Vbj : ∀ h : 0 < F7.size,((F7[0]'h).toNat : Int) = bt F7 0 := Fz F7 0
                  clear p36
                  have Vbk : (0 < (F7.size : Int)) = True := eq_true (of_decide_eq_true Yb)
                  replace q36 := eq_true q36
                  obtain ⟨ll,lm,lq,lu,lv,lw⟩ := Va D9.out
                  go_wp2
                  refine bodyPost_ret (Vr rfl _ _ Li 46 #[.bool Yj,.string F7,.int .i64 Zgr] (0,0) _ rfl Qg Tryz.underlying46 rfl (by kernel_rfl)) rfl ?_
                  exact ⟨Dx,Vh⟩
                ·rw [if_neg jc] at H
                 exact absurd H (by simp)
               ·rw [if_neg c34] at H
                have Zgs : decide ((wrap64 (Zgr + 1)) < (F7.size : Int)) = false := decide_eq_false c34
                clear c34
                simp only [Option.some.injEq,Prod.mk.injEq] at H
                obtain ⟨rfl,rfl,rfl,rfl⟩ := H
                obtain ⟨Zut,Zuu,Zuv,Zuw,Zux,Zuy⟩ := Va D9.out
                go_wp2
                refine bodyPost_ret (Vr rfl _ _ Li 46 #[.bool Yj,.string F7,.int .i64 Zgr] (0,0) _ rfl Qg Tryz.underlying46 rfl (by kernel_rfl)) rfl ?_
                exact ⟨Dx,Vh⟩
end Go.Proofs.YtdhpcofnddkcaaaGreatDoor.S
namespace Go.Proofs.YtdhpcofnddkcaaaGreatDoor.S
open Go.RowKit Go.Proofs.YtdhpcofnddkcaaaGreatDoor.G Go.Proofs.YtdhpcofnddkcaaaGreatDoorW.PrintWords Go.Proofs.YtdhpcofnddkcaaaGreatDoorW.PrintLast Go.Proofs.YtdhpcofnddkcaaaGreatDoorW.PrintMore
set_option linter.unusedVariables false
set_option linter.unusedSimpArgs false
theorem repeatL_one (c : UInt8) : ∀ m,Lib.repeatL [c] m = List.replicate m c
  | 0 => rfl
  | m + 1 => by
    show [c] ++ Lib.repeatL [c] m = _
    rw [repeatL_one c m,List.replicate_succ]
    rfl
abbrev bl (s : ByteArray) : List UInt8 := s.data.toList
theorem tl (s : ByteArray) : s.toList = bl s := Lib.toList_data s
theorem sz (s : ByteArray) : s.size = (bl s).length := Lib.size_eq s
theorem jd {a b : ByteArray} (h : bl a = bl b) : a = b := by
  cases a;cases b;congr 1;exact Array.ext' h
theorem wu (a b : ByteArray) : bl (a ++ b) = bl a ++ bl b := by show (a ++ b).data.toList = _;rw [ByteArray.data_append,Array.toList_append]
theorem Zuz (s : ByteArray) (a b : Nat) : bl (s.extract a b) = ((bl s).drop a).take (b - a) := Lib.extract_data s a b
theorem Jej (l : List UInt8) : bl ⟨l.toArray⟩ = l := rfl
theorem Zfq (a b : ByteArray) : (a ++ b).size = a.size + b.size := ByteArray.size_append
theorem l5 (x : Int) (h0 : -9223372036854775808 ≤ x) (h1 : x ≤ 9223372036854775807) : wrap64 x = x := by unfold wrap64;omega
theorem Zkj (s : ByteArray) (i : Nat) (c : UInt8) (h : (bl s)[i]? = some c) : bt s (i : Int) = c.toNat := by
  obtain ⟨hl,e⟩ := List.getElem?_eq_some_iff.1 h
  have hl' : i < s.size := by rw [sz];exact hl
  unfold bt
  rw [Int.toNat_natCast,dif_pos hl']
  rw [← e]
  rfl
theorem Zu0 (c : UInt8) : Vt.f (c.toNat : Int) = some (Qt c) := by
  unfold Vt.f Qt
  by_cases h : 48 ≤ c.toNat
  · rw [if_pos (by omega)]
    simp [h]
    omega
  · rw [if_neg (by omega)]
    simp [h]
abbrev Kv (l : List UInt8) : Bool := l.all Qt
def Lj (m : Nat) : List UInt8 → List UInt8
  | [] => []
  | c :: t => if m < t.length + 1 ∧ c = 48 then Lj m t else c :: t
theorem Vbl (l : List UInt8) : l = List.replicate (l.length - (Lib.trimLeftS l [48]).length) 48 ++ Lib.trimLeftS l [48] := by
  induction l with
  | nil => rfl
  | cons c t ih =>
    unfold Lib.trimLeftS at ih ⊢
    rw [List.dropWhile_cons]
    by_cases h : ([48] : List UInt8).contains c = true
    · rw [if_pos h]
      have hc : c = 48 := by simpa using h
      have hl : (t.dropWhile fun x => ([48] : List UInt8).contains x).length ≤ t.length := (List.dropWhile_suffix _).length_le
      rw [List.length_cons,show t.length + 1 - (t.dropWhile fun x => ([48] : List UInt8).contains x).length = (t.length - (t.dropWhile fun x => ([48] : List UInt8).contains x).length) + 1 by omega,List.replicate_succ,List.cons_append,← ih,hc]
    · rw [if_neg h]
      simp
theorem Z0b (m : Nat) : ∀ L : List UInt8,m ≤ L.length → 1 ≤ m → (if (Lib.trimLeftS L [48]).length < m then List.replicate (m - (Lib.trimLeftS L [48]).length) 48 ++ Lib.trimLeftS L [48] else Lib.trimLeftS L [48]) = Lj m L
  | [],h,h1 => by simp at h;omega
  | c :: t,h,h1 => by
    rw [List.length_cons] at h
    by_cases hc : c = 48
    · have e : Lib.trimLeftS (c :: t) [48] = Lib.trimLeftS t [48] := by
        unfold Lib.trimLeftS
        rw [List.dropWhile_cons,if_pos (by simpa using hc)]
      rw [e]
      unfold Lj
      by_cases hm : m < t.length + 1
      · rw [if_pos (⟨hm,hc⟩ : m < t.length + 1 ∧ c = 48)]
        exact Z0b m t (by omega) h1
      · rw [if_neg (fun h => hm h.1 : ¬ (m < t.length + 1 ∧ c = 48))]
        have hd := Vbl (c :: t)
        rw [e,List.length_cons] at hd
        have hl : (Lib.trimLeftS t [48]).length ≤ t.length := (List.dropWhile_suffix _).length_le
        rw [if_pos (by omega),show m - (Lib.trimLeftS t [48]).length = t.length + 1 - (Lib.trimLeftS t [48]).length by omega]
        exact hd.symm
    · have e : Lib.trimLeftS (c :: t) [48] = c :: t := by
        unfold Lib.trimLeftS
        rw [List.dropWhile_cons,if_neg (by simpa using hc)]
      rw [e,if_neg (by rw [List.length_cons];omega)]
      unfold Lj
      rw [if_neg (fun h => hc h.2 : ¬ (m < t.length + 1 ∧ c = 48))]
theorem Z0c (n : Bool) (D : ByteArray) (sc : Nat) (h : sc + 1 ≤ (bl D).length) (hl : (bl D).length ≤ 1000000) : Yl.f n D sc = some (n,⟨(Lj (sc + 1) (bl D)).toArray⟩,(sc : Int)) := by
  have hT : Xd.f D ⟨#[48]⟩ = some ⟨(Lib.trimLeftS (bl D) [48]).toArray⟩ := by
    unfold Xd.f
    rw [if_pos ⟨by decide,by decide⟩]
  have hlt : (Lib.trimLeftS (bl D) [48]).length ≤ (bl D).length := (List.dropWhile_suffix _).length_le
  have hst := Z0b (sc + 1) (bl D) h (by omega)
  unfold Yl.f
  rw [hT,Option.bind_some,sz,Jej,l5 ((sc : Int) + 1) (by omega) (by omega),l5 _ (by omega) (by omega)]
  by_cases hc : (Lib.trimLeftS (bl D) [48]).length < sc + 1
  · rw [if_pos hc] at hst
    rw [if_pos (by omega)]
    have hR : strings_Repeat.f ⟨#[48]⟩ ((sc : Int) + 1 - ((Lib.trimLeftS (bl D) [48]).length : Int)) = some ⟨(List.replicate (sc + 1 - (Lib.trimLeftS (bl D) [48]).length) 48).toArray⟩ := by
      unfold strings_Repeat.f
      have e : ((sc : Int) + 1 - ((Lib.trimLeftS (bl D) [48]).length : Int)).toNat = sc + 1 - (Lib.trimLeftS (bl D) [48]).length := by omega
      rw [if_pos ⟨by omega,by omega,by rw [e];show 1 * _ ≤ _;omega⟩,e]
      rw [show (⟨#[48]⟩ : ByteArray).data.toList = [48] from rfl,repeatL_one]
    rw [hR,Option.bind_some,if_pos (by rw [sz,Jej,List.length_replicate];omega),← hst]
    congr 3
  · rw [if_neg hc] at hst
    rw [if_neg (by omega),← hst]
theorem Z2v {p : UInt8 → Bool} : ∀ {l : List UInt8},l.dropWhile p = [] ↔ ∀ x ∈ l,p x = true
  | [] => by simp
  | a :: l => by
    rw [List.dropWhile_cons]
    by_cases h : p a = true
    · rw [if_pos h,Z2v]
      simp [h]
    · rw [if_neg h]
      simp [h]
theorem Z0d (s : ByteArray) (hs : s.size ≤ 1000000) : Vb.f s = some (!(bl s).isEmpty && (bl s).all Qt) := by
  unfold Vb.f
  rw [tl]
  by_cases h0 : bl s = []
  · rw [if_pos h0,h0];rfl
  · rw [if_neg h0]
    have hT : Uw.f s ⟨#[48,49,50,51,52,53,54,55,56,57]⟩ = some ⟨(Lib.trimS (bl s) [48,49,50,51,52,53,54,55,56,57]).toArray⟩ := by
      unfold Uw.f
      rw [if_pos ⟨by omega,by decide,by decide⟩]
    rw [hT,Option.bind_some,tl,Jej]
    congr 1
    have hc : ∀ c : UInt8,([48,49,50,51,52,53,54,55,56,57] : List UInt8).contains c = Qt c := fun c => by
      have h : ∀ n : Nat,n < 256 → ([48,49,50,51,52,53,54,55,56,57] : List UInt8).contains (UInt8.ofNat n) = Qt (UInt8.ofNat n) := by decide +kernel
      have := h c.toNat c.toNat_lt
      rwa [show UInt8.ofNat c.toNat = c by simp] at this
    have h1 : (bl s).isEmpty = false := by simpa using h0
    rw [h1,Bool.not_false,Bool.true_and]
    unfold Lib.trimS Lib.trimLeftS Lib.trimRightS
    rw [show (fun x => ([48,49,50,51,52,53,54,55,56,57] : List UInt8).contains x) = Qt from funext hc]
    by_cases ha : (bl s).all Qt = true
    · rw [ha]
      have e : (bl s).reverse.dropWhile Qt = [] := by
        rw [Z2v]
        intro x hx
        exact List.all_eq_true.1 ha x (List.mem_reverse.1 hx)
      rw [e];rfl
    · have ha' : (bl s).all Qt = false := by simpa using ha
      rw [ha',beq_eq_false_iff_ne]
      intro e
      apply ha
      rw [List.all_eq_true]
      intro x hx
      have e2 := Z2v.1 e
      by_cases hxd : Qt x = true
      · exact hxd
      · exfalso
        have hm : x ∈ ((bl s).reverse.dropWhile Qt).reverse := by
          rw [List.mem_reverse]
          have hsp := List.takeWhile_append_dropWhile (p := Qt) (l := (bl s).reverse)
          have hx2 : x ∈ (bl s).reverse := List.mem_reverse.2 hx
          rw [← hsp] at hx2
          rcases List.mem_append.1 hx2 with h | h
          · exact absurd (List.all_eq_true.1 (List.all_takeWhile) x h) hxd
          · exact h
        exact hxd (e2 x hm)
def scan : List UInt8 → List UInt8 → Int → Nat → Option (List UInt8 × Int)
  | [],acc,pt,_ => some (acc,pt)
  | c :: t,acc,pt,i => if Qt c = true then scan t (acc ++ [c]) pt (i + 1) else if c = 46 ∧ pt < 0 ∧ 0 < i ∧ t ≠ [] then scan t acc i (i + 1) else none
theorem Zlt : ∀ (t acc : List UInt8) (pt : Int) (i : Nat),0 ≤ pt → scan t acc pt i = if Kv t = true then some (acc ++ t,pt) else none
  | [],acc,pt,i,h => by simp [scan,Kv]
  | c :: t,acc,pt,i,h => by
    unfold scan
    by_cases hc : Qt c = true
    · rw [if_pos hc,Zlt t _ pt _ h]
      simp [Kv,hc]
    · rw [if_neg hc,if_neg (by omega),if_neg (by simp [Kv,hc])]
theorem Jek {c : UInt8} (h : Qt c = true) : (c != 46) = true := by
  rw [bne_iff_ne]
  rintro rfl
  exact absurd h (by decide)
theorem Zq0 : ∀ (t acc : List UInt8) (i : Nat),scan t acc (-1) i = match behind t with
    | [] => if Kv t = true then some (acc ++ t,-1) else none
    | _ :: P => if Kv (ahead t) = true ∧ 0 < i + (ahead t).length ∧ P ≠ [] ∧ Kv P = true then some (acc ++ ahead t ++ P,((i + (ahead t).length : Nat) : Int)) else none
  | [],acc,i => by simp [scan,behind,Kv]
  | c :: t,acc,i => by
    unfold scan
    by_cases hc : Qt c = true
    · have h1 : behind (c :: t) = behind t := by unfold behind;rw [List.dropWhile_cons,if_pos (Jek hc)]
      have h2 : ahead (c :: t) = c :: ahead t := by unfold ahead;rw [List.takeWhile_cons,if_pos (Jek hc)]
      rw [if_pos hc,Zq0 t,h1,h2]
      cases hb : behind t with
      | nil => simp [Kv,hc]
      | cons z P =>
        have e : Kv (c :: ahead t) = Kv (ahead t) := by simp [Kv,hc]
        simp only [e,List.length_cons]
        by_cases hq : Kv (ahead t) = true ∧ 0 < i + 1 + (ahead t).length ∧ P ≠ [] ∧ Kv P = true
        · rw [if_pos hq,if_pos ⟨hq.1,by omega,hq.2.2⟩]
          simp
          omega
        · rw [if_neg hq,if_neg (fun h => hq ⟨h.1,by omega,h.2.2⟩)]
    · rw [if_neg hc]
      by_cases h46 : c = 46
      · subst h46
        have h1 : behind (46 :: t) = 46 :: t := by unfold behind;rw [List.dropWhile_cons,if_neg (by decide)]
        have h2 : ahead (46 :: t) = [] := by unfold ahead;rw [List.takeWhile_cons,if_neg (by decide)]
        rw [h1,h2]
        by_cases hq : 0 < i ∧ t ≠ []
        · rw [if_pos ⟨rfl,by decide,hq.1,hq.2⟩,Zlt _ _ _ _ (by omega)]
          by_cases hd : Kv t = true
          · rw [if_pos hd]
            show _ = if _ then _ else _
            rw [if_pos ⟨rfl,by simp;exact hq.1,hq.2,hd⟩]
            simp
          · rw [if_neg hd]
            show _ = if _ then _ else _
            rw [if_neg (fun h => hd h.2.2.2)]
        · rw [if_neg (fun h => hq ⟨h.2.2.1,h.2.2.2⟩)]
          show _ = if _ then _ else _
          rw [if_neg (fun h => hq ⟨by simpa using h.2.1,h.2.2.1⟩)]
      · rw [if_neg (fun h => h46 h.1)]
        have hne : (c != 46) = true := by rw [bne_iff_ne];exact h46
        have h1 : behind (c :: t) = behind t := by unfold behind;rw [List.dropWhile_cons,if_pos hne]
        have h2 : ahead (c :: t) = c :: ahead t := by unfold ahead;rw [List.takeWhile_cons,if_pos hne]
        rw [h1,h2]
        cases hb : behind t with
        | nil => rw [if_neg (by simp [Kv,hc])]
        | cons z P =>
          show _ = if _ then _ else _
          rw [if_neg (fun h => hc (by have := h.1;simp [Kv] at this;exact this.1))]
def Zkk (R : List UInt8) : Option (List UInt8 × Nat) := match behind R with
  | [] => if R ≠ [] ∧ Kv R = true ∧ R.length ≤ 40 then some (R,0) else none
  | _ :: P => if Kv (ahead R) = true ∧ ahead R ≠ [] ∧ P ≠ [] ∧ Kv P = true ∧ (ahead R ++ P).length ≤ 40 then some (ahead R ++ P,P.length) else none
def Ll (neg : Bool) (R : List UInt8) : Bool × ByteArray × Int × Bool := match Zkk R with
  | none => (false,⟨#[]⟩,0,false)
  | some (D,sc) => (neg,⟨(Lj (sc + 1) D).toArray⟩,(sc : Int),true)
theorem Sz (R : List UInt8) : R = ahead R ++ behind R := (List.takeWhile_append_dropWhile).symm
theorem Zbl {R P : List UInt8} {z : UInt8} (h : behind R = z :: P) : z = 46 := by
  have := List.head?_dropWhile_not (fun x : UInt8 => x != 46) R
  rw [show R.dropWhile (fun x => x != 46) = z :: P from h] at this
  simpa using this
theorem Ztx (R : List UInt8) : ∀ c ∈ ahead R,c ≠ 46 := fun c hc => by
  have := List.all_eq_true.1 (List.all_takeWhile (p := fun x : UInt8 => x != 46) (l := R)) c hc
  simpa using this
theorem Z0e (neg : Bool) (sc : Nat) (hsc : sc ≤ 1000000) : ∀ (n : Nat) (D : ByteArray),D.size ≤ n → D.size ≤ 1000000 → ∃ k,Zi.l1 k neg D (sc : Int) = some (neg,⟨(Lj (sc + 1) (bl D)).toArray⟩,(sc : Int),true) := by
  intro n
  induction n with
  | zero =>
    intro D hn hD
    have h0 : bl D = [] := List.eq_nil_of_length_eq_zero (by rw [← sz];omega)
    refine ⟨1,?_⟩
    rw [Zi.l1,l5 _ (by omega) (by omega),if_neg (by omega),h0]
    congr 2
    exact congrArg (fun x => (x,((sc : Int),true))) (jd (by rw [h0];rfl))
  | succ n ih =>
    intro D hn hD
    cases hb : bl D with
    | nil =>
      refine ⟨1,?_⟩
      have hz : D.size = 0 := by rw [sz,hb];rfl
      rw [Zi.l1,l5 _ (by omega) (by omega),if_neg (by omega)]
      congr 2
      exact congrArg (fun x => (x,((sc : Int),true))) (jd (by rw [hb];rfl))
    | cons c t =>
      have hz : D.size = t.length + 1 := by rw [sz,hb];rfl
      have hb0 : bt D 0 = c.toNat := Zkj D 0 c (by rw [hb];rfl)
      have hself : (⟨(c :: t).toArray⟩ : ByteArray) = D := jd (by rw [hb])
      unfold Lj
      by_cases h1 : sc + 1 < t.length + 1
      · by_cases h2 : c = 48
        · rw [if_pos ⟨h1,h2⟩]
          have e : bl (D.extract 1 D.size) = t := by rw [Zuz,hb,List.drop_one,List.tail_cons,List.take_of_length_le (by omega)]
          obtain ⟨k,hk⟩ := ih (D.extract 1 D.size) (by rw [sz,e];omega) (by rw [sz,e];omega)
          refine ⟨k + 1,?_⟩
          rw [Zi.l1,l5 _ (by omega) (by omega),if_pos (by omega),if_pos (by omega),hb0,if_pos (by rw [h2];rfl),if_pos (by omega),hk,e]
        · rw [if_neg (fun h => h2 h.2),hself]
          refine ⟨1,?_⟩
          rw [Zi.l1,l5 _ (by omega) (by omega),if_pos (by omega),if_pos (by omega),hb0,if_neg (fun h => h2 (UInt8.toNat_inj.1 (by show c.toNat = 48;omega)))]
      · rw [if_neg (fun h => h1 h.1),hself]
        refine ⟨1,?_⟩
        rw [Zi.l1,l5 _ (by omega) (by omega),if_neg (by omega)]
theorem Jid (R : ByteArray) (hR : R.size ≤ 100000) (neg : Bool) (acc : ByteArray) (ha : acc.size ≤ 100000) (pt : Int) (h0 : pt = -1 ∨ 0 ≤ pt ∧ pt < R.size) :
    ∃ k,Zi.l0 k R neg acc pt (R.size : Int) = some (if acc.size = 0 ∨ 40 < acc.size then (false,⟨#[]⟩,0,false) else (neg,⟨(Lj ((if pt < 0 then 0 else (R.size : Int) - 1 - pt).toNat + 1) (bl acc)).toArray⟩,(if pt < 0 then 0 else (R.size : Int) - 1 - pt),true)) := by
  by_cases hz : acc.size = 0
  · refine ⟨2,?_⟩
    rw [Zi.l0,if_neg (by omega),if_pos (by omega),Zi.j3,if_pos rfl,if_pos (Or.inl hz)]
  · by_cases h40 : 40 < acc.size
    · refine ⟨2,?_⟩
      rw [Zi.l0,if_neg (by omega),if_neg (by omega),Zi.j3,if_pos (by simp;omega),if_pos (Or.inr h40)]
    · rw [if_neg (by omega)]
      rcases h0 with rfl | ⟨h0,h1⟩
      · obtain ⟨k,hk⟩ := Z0e neg 0 (by omega) acc.size acc (Nat.le_refl _) (by omega)
        refine ⟨k + 3,?_⟩
        rw [Zi.l0,if_neg (by omega),if_neg (by omega),Zi.j3,if_neg (by simp;omega),if_neg (by decide),Zi.j4]
        exact hk
      · obtain ⟨sc,hsc⟩ := Int.eq_ofNat_of_zero_le (show 0 ≤ (R.size : Int) - 1 - pt by omega)
        rw [if_neg (by omega),hsc,Int.toNat_natCast]
        obtain ⟨k,hk⟩ := Z0e neg sc (by omega) acc.size acc (Nat.le_refl _) (by omega)
        refine ⟨k + 3,?_⟩
        rw [Zi.l0,if_neg (by omega),if_neg (by omega),Zi.j3,if_neg (by simp;omega),if_pos (by omega),Zi.j4,l5 ((R.size : Int) - 1) (by omega) (by omega),l5 _ (by omega) (by omega),hsc]
        exact hk
theorem Zq1 (R : ByteArray) (hR : R.size ≤ 100000) (neg : Bool) : ∀ (t : List UInt8) (acc : ByteArray) (pt : Int) (i : Nat),bl R = (bl R).take i ++ t → i + t.length = R.size → acc.size ≤ i → (pt = -1 ∨ 0 ≤ pt ∧ pt < i) →
    ∃ k,Zi.l0 k R neg acc pt (i : Int) = some (match scan t (bl acc) pt i with
      | none => (false,⟨#[]⟩,0,false)
      | some (a,p) => if a.length = 0 ∨ 40 < a.length then (false,⟨#[]⟩,0,false) else (neg,⟨(Lj ((if p < 0 then 0 else (R.size : Int) - 1 - p).toNat + 1) a).toArray⟩,(if p < 0 then 0 else (R.size : Int) - 1 - p),true))
  | [],acc,pt,i,hb,hi,ha,hp => by
    have e : i = R.size := by simpa using hi
    subst e
    obtain ⟨k,hk⟩ := Jid R hR neg acc (by omega) pt hp
    refine ⟨k,?_⟩
    rw [hk]
    unfold scan
    rw [sz acc]
  | c :: t,acc,pt,i,hb,hi,ha,hp => by
    rw [List.length_cons] at hi
    have hil : i < R.size := by omega
    have hc : (bl R)[i]? = some c := by
      rw [hb,List.getElem?_append_right (by rw [List.length_take];omega),List.length_take,← sz,Nat.min_eq_left (by omega),Nat.sub_self]
      rfl
    have hdr : (bl R).drop i = c :: t := by
      rw [hb,List.drop_append_of_le_length (by rw [List.length_take,← sz];omega),List.drop_eq_nil_of_le (by rw [List.length_take];omega)]
      rfl
    have htk : bl R = (bl R).take (i + 1) ++ t := by
      have h1 : (bl R).drop (i + 1) = t := by rw [show (bl R).drop (i + 1) = ((bl R).drop i).drop 1 by rw [List.drop_drop],hdr];rfl
      rw [← h1,List.take_append_drop]
    have hbt := Zkj R i c hc
    have hw : wrap64 ((i : Int) + 1) = ((i + 1 : Nat) : Int) := by rw [l5 _ (by omega) (by omega)];simp
    unfold scan
    by_cases hg : Qt c = true
    · rw [if_pos hg]
      have e : bl (R.extract i (i + 1)) = [c] := by rw [Zuz,hdr];simp
      obtain ⟨k,hk⟩ := Zq1 R hR neg t (acc ++ R.extract i (i + 1)) pt (i + 1) htk (by omega) (by rw [Zfq,sz (R.extract i (i + 1)),e];simp;omega) (by omega)
      refine ⟨k + 1,?_⟩
      rw [Zi.l0,if_pos (by omega),if_pos (by omega),hbt,Zu0,Option.bind_some,if_pos hg,hw,if_pos (by omega),if_pos (by omega),Int.toNat_natCast,Int.toNat_natCast,if_pos (by rw [sz (R.extract i (i + 1)),e];simp;omega),hk,wu,e]
    · rw [if_neg hg]
      by_cases hq : c = 46 ∧ pt < 0 ∧ 0 < i ∧ t ≠ []
      · rw [if_pos hq]
        have htl : 0 < t.length := List.length_pos_iff.2 hq.2.2.2
        obtain ⟨k,hk⟩ := Zq1 R hR neg t acc (i : Int) (i + 1) htk (by omega) (by omega) (Or.inr ⟨by omega,by omega⟩)
        refine ⟨k + 1,?_⟩
        rw [Zi.l0,if_pos (by omega),if_pos (by omega),hbt,Zu0,Option.bind_some,if_neg hg,if_pos (by rw [hq.1];rfl),if_pos hq.2.1,if_pos (by omega),hw,if_pos (by omega),hk]
      · rw [if_neg hq]
        refine ⟨1,?_⟩
        rw [Zi.l0,if_pos (by omega),if_pos (by omega),hbt,Zu0,Option.bind_some,if_neg hg]
        by_cases h46 : (c.toNat : Int) = 46
        · have Vbm : c = 46 := UInt8.toNat_inj.1 (by show c.toNat = 46;omega)
          rw [if_pos h46]
          by_cases hp0 : pt < 0
          · rw [if_pos hp0]
            by_cases hi0 : 0 < i
            · rw [if_pos (by omega),hw,if_neg]
              intro hlt
              apply hq
              refine ⟨Vbm,hp0,hi0,?_⟩
              rintro rfl
              simp at hi
              omega
            · rw [if_neg (by omega)]
          · rw [if_neg hp0]
        · rw [if_neg h46]
theorem Z2w (R : ByteArray) (neg : Bool) (hR : R.size ≤ 100000) : (match scan (bl R) [] (-1) 0 with
      | none => ((false,⟨#[]⟩,0,false) : Bool × ByteArray × Int × Bool)
      | some (a,p) => if a.length = 0 ∨ 40 < a.length then (false,⟨#[]⟩,0,false) else (neg,⟨(Lj ((if p < 0 then 0 else (R.size : Int) - 1 - p).toNat + 1) a).toArray⟩,(if p < 0 then 0 else (R.size : Int) - 1 - p),true)) = Ll neg (bl R) := by
  rw [Zq0]
  unfold Ll Zkk
  cases hb : behind (bl R) with
  | nil =>
    by_cases hd : Kv (bl R) = true
    · rw [if_pos hd]
      show (if _ then _ else _) = _
      rw [List.nil_append]
      by_cases hq : bl R ≠ [] ∧ Kv (bl R) = true ∧ (bl R).length ≤ 40
      · have := List.length_pos_iff.2 hq.1
        rw [if_pos hq,if_neg (by omega)]
        rfl
      · rw [if_neg hq,if_pos]
        by_cases h0 : (bl R).length = 0
        · exact Or.inl h0
        · right
          have h1 : bl R ≠ [] := by intro h;rw [h] at h0;exact h0 rfl
          have : ¬ (bl R).length ≤ 40 := fun h => hq ⟨h1,hd,h⟩
          omega
    · rw [if_neg hd,if_neg (fun h => hd h.2.1)]
  | cons z P =>
    simp only [List.nil_append,Nat.zero_add]
    have hz := Zbl hb
    subst hz
    have hsp := Sz (bl R)
    rw [hb] at hsp
    have hlen : R.size = (ahead (bl R)).length + 1 + P.length := by rw [sz];conv => lhs;rw [hsp]
                                                                    simp;omega
    by_cases hq : Kv (ahead (bl R)) = true ∧ 0 < (ahead (bl R)).length ∧ P ≠ [] ∧ Kv P = true
    · rw [if_pos hq]
      have hne : ahead (bl R) ≠ [] := List.length_pos_iff.1 hq.2.1
      have hsc : (R.size : Int) - 1 - ((ahead (bl R)).length : Int) = (P.length : Int) := by omega
      show (if _ then _ else _) = _
      by_cases h40 : (ahead (bl R) ++ P).length ≤ 40
      · rw [if_neg (show ¬ ((ahead (bl R) ++ P).length = 0 ∨ 40 < (ahead (bl R) ++ P).length) by rw [List.length_append] at h40 ⊢;omega),if_neg (show ¬ (((ahead (bl R)).length : Int) < 0) by omega),hsc]
        rw [if_pos (show Kv (ahead (bl R)) = true ∧ ahead (bl R) ≠ [] ∧ P ≠ [] ∧ Kv P = true ∧ (ahead (bl R) ++ P).length ≤ 40 from ⟨hq.1,hne,hq.2.2.1,hq.2.2.2,h40⟩)]
        rfl
      · rw [if_pos (show (ahead (bl R) ++ P).length = 0 ∨ 40 < (ahead (bl R) ++ P).length from Or.inr (by omega)),if_neg (fun h => h40 h.2.2.2.2)]
    · rw [if_neg hq,if_neg (fun h => hq ⟨h.1,List.length_pos_iff.2 h.2.1,h.2.2.1,h.2.2.2.1⟩)]
def dh (s : ByteArray) : Bool := Lib.hasPrefix (bl s) [45]
def Gx (s : ByteArray) : List UInt8 := Lib.trimPrefix (bl s) [45]
theorem Z0f (s : ByteArray) (hs : s.size ≤ 100000) : ∃ k,Zi.f k s = some (Ll (dh s) (Gx s)) := by
  have hfin : ∀ (R : ByteArray) (neg : Bool),R.size ≤ 100000 → ∃ k,Zi.j1 k R neg = some (Ll neg (bl R)) := fun R neg hR => by
    obtain ⟨k,hk⟩ := Zq1 R hR neg (bl R) ⟨#[]⟩ (-1) 0 (by simp) (by rw [← sz];omega) (by decide) (Or.inl rfl)
    refine ⟨k + 1,?_⟩
    rw [Zi.j1,← Z2w R neg hR]
    exact hk
  cases hb : bl s with
  | nil =>
    have hz : s.size = 0 := by rw [sz,hb];rfl
    obtain ⟨k,hk⟩ := hfin s false hs
    refine ⟨k + 1,?_⟩
    unfold Zi.f
    rw [if_neg (by omega),Zi.j0,if_neg (by decide),hk]
    unfold dh Gx
    rw [hb];rfl
  | cons c t =>
    have hz : s.size = t.length + 1 := by rw [sz,hb];rfl
    have hb0 : bt s 0 = c.toNat := Zkj s 0 c (by rw [hb];rfl)
    unfold Zi.f
    by_cases h45 : c = 45
    · have e : bl (s.extract 1 s.size) = t := by rw [Zuz,hb,List.drop_one,List.tail_cons,List.take_of_length_le (by omega)]
      obtain ⟨k,hk⟩ := hfin (s.extract 1 s.size) true (by rw [sz,e];omega)
      refine ⟨k + 1,?_⟩
      rw [if_pos (by omega),if_pos (by omega),hb0,h45]
      rw [show (((45 : UInt8).toNat : Int) == 45) = true from rfl,Zi.j0,if_pos rfl,if_pos (by omega),hk,e]
      unfold dh Gx
      rw [hb,h45];rfl
    · have hn : ((c.toNat : Int) == 45) = false := by
        rw [beq_eq_false_iff_ne]
        intro h
        exact h45 (UInt8.toNat_inj.1 (by show c.toNat = 45;omega))
      obtain ⟨k,hk⟩ := hfin s false hs
      refine ⟨k + 1,?_⟩
      have hp : Lib.hasPrefix (c :: t) [45] = false := by
        show ((45 == c) && List.isPrefixOf [] t) = false
        rw [show ((45 : UInt8) == c) = false by rw [beq_eq_false_iff_ne];exact fun h => h45 h.symm];rfl
      rw [if_pos (by omega),if_pos (by omega),hb0,hn,Zi.j0,if_neg (by decide),hk]
      unfold dh Gx Lib.trimPrefix
      rw [hb,hp];rfl
theorem Jel (R : List UInt8) (j : Nat) : Lib.occAt R [46] j = (R[j]? == some 46) := by
  unfold Lib.occAt
  have h : R[j]? = (R.drop j).head? := by rw [List.head?_drop]
  rw [h]
  cases R.drop j with
  | nil => rfl
  | cons c t =>
    show ((46 == c) && List.isPrefixOf [] t) = ((some c : Option UInt8) == some 46)
    by_cases e : c = 46
    · subst e;rfl
    · rw [show ((46 : UInt8) == c) = false by rw [beq_eq_false_iff_ne];exact fun h => e h.symm]
      rw [show ((some c : Option UInt8) == some 46) = false by rw [beq_eq_false_iff_ne];exact fun h => e (Option.some.inj h)]
      rfl
theorem Jsq (R : List UInt8) : Lib.cut R [46] = match behind R with | [] => (R,[],false) | _ :: P => (ahead R,P,true) := by
  have hsp := Sz R
  cases hb : behind R with
  | nil =>
    rw [hb,List.append_nil] at hsp
    have hn : Lib.index R [46] = -1 := Lib.index_none fun j hj => by
      rw [Jel,beq_eq_false_iff_ne]
      intro h
      have hm := List.mem_of_getElem? h
      rw [hsp] at hm
      exact Ztx R 46 hm rfl
    unfold Lib.cut
    rw [hn]
    rfl
  | cons z P =>
    have hz := Zbl hb
    subst hz
    rw [hb] at hsp
    have hne := Ztx R
    obtain ⟨W,hW⟩ : ∃ W,ahead R = W := ⟨_,rfl⟩
    rw [hW] at hne hsp ⊢
    subst hsp
    have hi : Lib.index (W ++ 46 :: P) [46] = (W.length : Nat) := Lib.index_hit (fun j hj => by
      rw [Jel,beq_eq_false_iff_ne]
      intro h
      rw [List.getElem?_append_left hj] at h
      exact hne 46 (List.mem_of_getElem? h) rfl) (by rw [List.length_append];omega) (by
      rw [Jel,List.getElem?_append_right (Nat.le_refl _),Nat.sub_self]
      rfl)
    unfold Lib.cut
    rw [hi,if_pos (by omega),Int.toNat_natCast]
    have h2 : (W ++ 46 :: P).drop (W.length + 1) = P := by
      rw [← List.drop_drop,List.drop_left];rfl
    rw [List.take_left]
    show (W,(W ++ 46 :: P).drop (W.length + 1),true) = (W,P,true)
    rw [h2]
theorem Jem (s : ByteArray) (hs : s.size ≤ 100000) : Hw.f s = some (Ll (dh s) (Gx s)) := by
  have hC : strings_CutPrefix.f s ⟨#[45]⟩ = some (⟨(Gx s).toArray⟩,dh s) := rfl
  have hrl : (Gx s).length ≤ 100000 := by
    unfold Gx Lib.trimPrefix
    split
    · rw [List.length_drop,← sz];omega
    · rw [← sz];exact hs
  obtain ⟨R,hR⟩ : ∃ R,Gx s = R := ⟨_,rfl⟩
  obtain ⟨neg,hneg⟩ : ∃ n,dh s = n := ⟨_,rfl⟩
  rw [hR] at hC hrl ⊢
  rw [hneg] at hC ⊢
  have hcut := Jsq R
  have hsp := Sz R
  have hD : ∀ l : List UInt8,l.length ≤ 100000 → Vb.f ⟨l.toArray⟩ = some (!l.isEmpty && Kv l) := fun l hl => Z0d ⟨l.toArray⟩ (by rw [sz];exact Nat.le_trans hl (by omega))
  unfold Hw.f
  rw [hC,Option.bind_some]
  have hK : strings_Cut.f ⟨R.toArray⟩ ⟨#[46]⟩ = some (⟨(Lib.cut R [46]).1.toArray⟩,⟨(Lib.cut R [46]).2.1.toArray⟩,(Lib.cut R [46]).2.2) := by
    unfold strings_Cut.f
    rw [if_pos (by rw [sz];show R.length < _;omega)]
  rw [hK,Option.bind_some,hcut]
  unfold Ll Zkk
  cases hb : behind R with
  | nil =>
    dsimp only
    rw [hD R (by omega),Option.bind_some]
    by_cases hq : (!R.isEmpty && Kv R) = true
    · have hq2 : R ≠ [] ∧ Kv R = true := by simpa using hq
      have hl0 := List.length_pos_iff.2 hq2.1
      have z1 : (⟨R.toArray⟩ : ByteArray).size = R.length := sz _
      have z2 : (⟨([] : List UInt8).toArray⟩ : ByteArray).size = 0 := rfl
      rw [if_pos hq,if_neg (by decide),z1,z2,l5 _ (by omega) (by omega)]
      by_cases h40 : R.length ≤ 40
      · rw [if_neg (by omega),if_pos (by omega),if_pos (show R ≠ [] ∧ Kv R = true ∧ R.length ≤ 40 from ⟨hq2.1,hq2.2,h40⟩)]
        have e : (⟨R.toArray⟩ : ByteArray) ++ ⟨([] : List UInt8).toArray⟩ = ⟨R.toArray⟩ := jd (by rw [wu];simp)
        have hm := Z0c neg ⟨R.toArray⟩ 0 (by show 0 + 1 ≤ R.length;omega) (by show R.length ≤ _;omega)
        rw [e,show ((0 : Nat) : Int) = (0 : Nat) from rfl,hm,Option.bind_some]
      · rw [if_pos (by omega),if_neg (fun h => h40 h.2.2)]
    · rw [if_neg hq,if_neg (fun h => hq (by simp [h.1,h.2.1]))]
  | cons z P =>
    dsimp only
    have hz := Zbl hb
    subst hz
    rw [hb] at hsp
    have hlen : R.length = (ahead R).length + 1 + P.length := by
      have := congrArg List.length hsp
      rw [List.length_append,List.length_cons] at this
      omega
    obtain ⟨W,hW⟩ : ∃ W,ahead R = W := ⟨_,rfl⟩
    rw [hW] at hlen ⊢
    rw [hD W (by omega),Option.bind_some]
    by_cases hq : (!W.isEmpty && Kv W) = true
    · have hq2 : W ≠ [] ∧ Kv W = true := by simpa using hq
      have hl0 := List.length_pos_iff.2 hq2.1
      rw [if_pos hq,if_pos rfl,hD P (by omega),Option.bind_some]
      by_cases hp : (!P.isEmpty && Kv P) = true
      · have hp2 : P ≠ [] ∧ Kv P = true := by simpa using hp
        have hp0 := List.length_pos_iff.2 hp2.1
        have z1 : (⟨W.toArray⟩ : ByteArray).size = W.length := sz _
        have z2 : (⟨P.toArray⟩ : ByteArray).size = P.length := sz _
        rw [if_pos hp,z1,z2,l5 _ (by omega) (by omega)]
        by_cases h40 : (W ++ P).length ≤ 40
        · have h41 := h40
          rw [List.length_append] at h41
          rw [if_neg (by omega),if_pos (by omega),if_pos (show Kv W = true ∧ W ≠ [] ∧ P ≠ [] ∧ Kv P = true ∧ (W ++ P).length ≤ 40 from ⟨hq2.2,hq2.1,hp2.1,hp2.2,h40⟩)]
          have e : (⟨W.toArray⟩ : ByteArray) ++ ⟨P.toArray⟩ = ⟨(W ++ P).toArray⟩ := jd (by rw [wu])
          have hm := Z0c neg ⟨(W ++ P).toArray⟩ P.length (by show _ ≤ (W ++ P).length;rw [List.length_append];omega) (by show (W ++ P).length ≤ _;omega)
          rw [e,hm,Option.bind_some]
        · have h41 := h40
          rw [List.length_append] at h41
          rw [if_pos (by omega),if_neg (fun h => h40 h.2.2.2.2)]
      · rw [if_neg hp,if_neg (fun h => hp (by simp [h.2.2.1,h.2.2.2.1]))]
    · rw [if_neg hq,if_neg (fun h => hq (by simp [h.1,h.2.1]))]
end Go.Proofs.YtdhpcofnddkcaaaGreatDoor.S
namespace Go.Proofs.YtdhpcofnddkcaaaGreatDoor.S
open Go.RowKit Go.Proofs.YtdhpcofnddkcaaaGreatDoor.G Go.Proofs.YtdhpcofnddkcaaaGreatDoorW.PrintWords Go.Proofs.YtdhpcofnddkcaaaGreatDoorW.PrintLast Go.Proofs.YtdhpcofnddkcaaaGreatDoorW.PrintMore
set_option linter.unusedVariables false
set_option linter.unusedSimpArgs false
namespace Sx7
theorem Va {w : World} {g : Nat} {t : TypeId} {a0 a1 a2 : Value} (h : w.heap[g]? = some (.cells #[a0,a1,a2] t (0,0))) : w.cell? ⟨g,0,none⟩ = some a0 ∧ w.cell? ⟨g,1,none⟩ = some a1 ∧ w.cell? ⟨g,2,none⟩ = some a2 ∧ w.frozen? ⟨g,0,none⟩ = false ∧ w.frozen? ⟨g,1,none⟩ = false ∧ w.frozen? ⟨g,2,none⟩ = false := ⟨(Zd h 0).trans rfl,(Zd h 1).trans rfl,(Zd h 2).trans rfl,Zj h 0,Zj h 1,Zj h 2⟩
theorem Xk {w : World} {g : Nat} {t : TypeId} {a0 a1 a2 a3 a4 a5 a6 a7 a8 a9 a10 a11 : Value} (h : w.heap[g]? = some (.cells #[a0,a1,a2,a3,a4,a5,a6,a7,a8,a9,a10,a11] t (0,0))) : w.cell? ⟨g,0,none⟩ = some a0 ∧ w.cell? ⟨g,1,none⟩ = some a1 ∧ w.cell? ⟨g,2,none⟩ = some a2 ∧ w.cell? ⟨g,3,none⟩ = some a3 ∧ w.cell? ⟨g,4,none⟩ = some a4 ∧ w.cell? ⟨g,5,none⟩ = some a5 ∧ w.cell? ⟨g,6,none⟩ = some a6 ∧ w.cell? ⟨g,7,none⟩ = some a7 ∧ w.cell? ⟨g,8,none⟩ = some a8 ∧ w.cell? ⟨g,9,none⟩ = some a9 ∧ w.cell? ⟨g,10,none⟩ = some a10 ∧ w.cell? ⟨g,11,none⟩ = some a11 ∧ w.frozen? ⟨g,0,none⟩ = false ∧ w.frozen? ⟨g,1,none⟩ = false ∧ w.frozen? ⟨g,2,none⟩ = false ∧ w.frozen? ⟨g,3,none⟩ = false ∧ w.frozen? ⟨g,4,none⟩ = false ∧ w.frozen? ⟨g,5,none⟩ = false ∧ w.frozen? ⟨g,6,none⟩ = false ∧ w.frozen? ⟨g,7,none⟩ = false ∧ w.frozen? ⟨g,8,none⟩ = false ∧ w.frozen? ⟨g,9,none⟩ = false ∧ w.frozen? ⟨g,10,none⟩ = false ∧ w.frozen? ⟨g,11,none⟩ = false := ⟨(Zd h 0).trans rfl,(Zd h 1).trans rfl,(Zd h 2).trans rfl,(Zd h 3).trans rfl,(Zd h 4).trans rfl,(Zd h 5).trans rfl,(Zd h 6).trans rfl,(Zd h 7).trans rfl,(Zd h 8).trans rfl,(Zd h 9).trans rfl,(Zd h 10).trans rfl,(Zd h 11).trans rfl,Zj h 0,Zj h 1,Zj h 2,Zj h 3,Zj h 4,Zj h 5,Zj h 6,Zj h 7,Zj h 8,Zj h 9,Zj h 10,Zj h 11⟩
theorem Vh {p_ : Prop} (h_ : p_ := by (with_reducible repeat (first | refine Zc ?_ _ | refine Zf ?_ | refine Zb ?_ _));refine Zo (cs := #[.int .i64 0,.string (⟨#[]⟩ : ByteArray),.bool false,.string (⟨#[]⟩ : ByteArray),.int .i64 0,.int .i64 0,.int .i64 0,.int .i64 0,.bool false,.bool false,.int .i64 0,.int .i64 0]) ?_ 11 _ rfl;(with_reducible repeat (first | refine Zc ?_ _ | refine Zf ?_ | refine Zb ?_ _));refine Zo (cs := #[.int .i64 0,.string (⟨#[]⟩ : ByteArray),.bool false,.string (⟨#[]⟩ : ByteArray),.int .i64 0,.int .i64 0,.int .i64 0,.int .i64 0,.bool false,.bool false,.int .i64 0,.int .i64 0]) ?_ 10 _ rfl;(with_reducible repeat (first | refine Zc ?_ _ | refine Zf ?_ | refine Zb ?_ _));refine Zo (cs := #[.int .i64 0,.string (⟨#[]⟩ : ByteArray),.bool false,.string (⟨#[]⟩ : ByteArray),.int .i64 0,.int .i64 0,.int .i64 0,.int .i64 0,.bool false,.bool false,.int .i64 0,.int .i64 0]) ?_ 9 _ rfl;(with_reducible repeat (first | refine Zc ?_ _ | refine Zf ?_ | refine Zb ?_ _));refine Zo (cs := #[.int .i64 0,.string (⟨#[]⟩ : ByteArray),.bool false,.string (⟨#[]⟩ : ByteArray),.int .i64 0,.int .i64 0,.int .i64 0,.int .i64 0,.bool false,.bool false,.int .i64 0,.int .i64 0]) ?_ 8 _ rfl;(with_reducible repeat (first | refine Zc ?_ _ | refine Zf ?_ | refine Zb ?_ _));refine Zo (cs := #[.int .i64 0,.string (⟨#[]⟩ : ByteArray),.bool false,.string (⟨#[]⟩ : ByteArray),.int .i64 0,.int .i64 0,.int .i64 0,.int .i64 0,.bool false,.bool false,.int .i64 0,.int .i64 0]) ?_ 7 _ rfl;(with_reducible repeat (first | refine Zc ?_ _ | refine Zf ?_ | refine Zb ?_ _));refine Zo (cs := #[.int .i64 0,.string (⟨#[]⟩ : ByteArray),.bool false,.string (⟨#[]⟩ : ByteArray),.int .i64 0,.int .i64 0,.int .i64 0,.int .i64 0,.bool false,.bool false,.int .i64 0,.int .i64 0]) ?_ 6 _ rfl;(with_reducible repeat (first | refine Zc ?_ _ | refine Zf ?_ | refine Zb ?_ _));refine Zo (cs := #[.int .i64 0,.string (⟨#[]⟩ : ByteArray),.bool false,.string (⟨#[]⟩ : ByteArray),.int .i64 0,.int .i64 0,.int .i64 0,.int .i64 0,.bool false,.bool false,.int .i64 0,.int .i64 0]) ?_ 5 _ rfl;(with_reducible repeat (first | refine Zc ?_ _ | refine Zf ?_ | refine Zb ?_ _));refine Zo (cs := #[.int .i64 0,.string (⟨#[]⟩ : ByteArray),.bool false,.string (⟨#[]⟩ : ByteArray),.int .i64 0,.int .i64 0,.int .i64 0,.int .i64 0,.bool false,.bool false,.int .i64 0,.int .i64 0]) ?_ 4 _ rfl;(with_reducible repeat (first | refine Zc ?_ _ | refine Zf ?_ | refine Zb ?_ _));refine Zo (cs := #[.int .i64 0,.string (⟨#[]⟩ : ByteArray),.bool false,.string (⟨#[]⟩ : ByteArray),.int .i64 0,.int .i64 0,.int .i64 0,.int .i64 0,.bool false,.bool false,.int .i64 0,.int .i64 0]) ?_ 3 _ rfl;(with_reducible repeat (first | refine Zc ?_ _ | refine Zf ?_ | refine Zb ?_ _));refine Zo (cs := #[.int .i64 0,.string (⟨#[]⟩ : ByteArray),.bool false,.string (⟨#[]⟩ : ByteArray),.int .i64 0,.int .i64 0,.int .i64 0,.int .i64 0,.bool false,.bool false,.int .i64 0,.int .i64 0]) ?_ 2 _ rfl;(with_reducible repeat (first | refine Zc ?_ _ | refine Zf ?_ | refine Zb ?_ _));refine Zo (cs := #[.int .i64 0,.string (⟨#[]⟩ : ByteArray),.bool false,.string (⟨#[]⟩ : ByteArray),.int .i64 0,.int .i64 0,.int .i64 0,.int .i64 0,.bool false,.bool false,.int .i64 0,.int .i64 0]) ?_ 1 _ rfl;(with_reducible repeat (first | refine Zc ?_ _ | refine Zf ?_ | refine Zb ?_ _));refine Zo (cs := #[.int .i64 0,.string (⟨#[]⟩ : ByteArray),.bool false,.string (⟨#[]⟩ : ByteArray),.int .i64 0,.int .i64 0,.int .i64 0,.int .i64 0,.bool false,.bool false,.int .i64 0,.int .i64 0]) ?_ 0 _ rfl;(with_reducible repeat (first | refine Zc ?_ _ | refine Zf ?_ | refine Zb ?_ _));exact K7.out) : p_ := h_
theorem J5 {p_ : Prop} (h_ : p_ := by (with_reducible repeat (first | refine Zc ?_ _ | refine Zf ?_ | refine Zb ?_ _));exact Kr.out) : p_ := h_
theorem Vz {p_ : Prop} (h_ : p_ := by repeat (first | (with_reducible first | exact HB.out | apply Z4 | apply Zr | apply Zz | refine Z8 ?_ Zlu.out | refine Z8 ?_ Zq2.out) | exact HB.out)) : p_ := h_
theorem Yb {p_ : Prop} (h_ : p_ := by repeat (first | (with_reducible first | exact HB.out | apply Z4 | apply Zr | apply Zz | refine Z8 ?_ Zlu.out) | exact HB.out)) : p_ := h_
theorem Qw {p_ : Prop} (h_ : p_ := by repeat (first | (with_reducible first | exact HB.out | apply Z4 | apply Zr | apply Zz) | exact HB.out)) : p_ := h_
theorem Xu {p_ : Prop} (h_ : p_ := by (with_reducible repeat (first | refine Zc ?_ _ | refine Zf ?_ | refine Zb ?_ _));exact K7.out) : p_ := h_
theorem Qg {p_ : Prop} (h_ : p_ := by rw [hg];exact Nat.ne_of_lt (Y3 (g := Yz) (o := .cells #[.string Z5,.int .i64 Jb,.string Jc] 44 (0,0)) J5)) : p_ := h_
theorem Dx {p_ : Prop} (h_ : p_ := by rw [hg];exact Nat.ne_of_gt (Y3 (g := Yz) (o := .cells #[.string Z5,.int .i64 Jb,.string Jc] 44 (0,0)) J5)) : p_ := h_
theorem Wp {p_ : Prop} (h_ : p_ := by (try simp only [List.map_toArray,List.map_cons,List.map_nil]);first | done | rfl | (simp only [List.length_drop,List.length_take];rfl)) : p_ := h_
theorem Sy {p_ : Prop} (h_ : p_ := by first | rfl | (simp [Vd,Ve] <;> rfl) | (simp [*,Vd,Ve] <;> rfl)) : p_ := h_
theorem Qy {p_ : Prop} (h_ : p_ := by repeat (first | (with_reducible first | exact HB.out | apply Z4 | apply Zr | apply Zz | refine Z8 ?_ Zlu.out | refine Z8 ?_ Zq2.out | refine Z8 ?_ Jly.out) | exact HB.out)) : p_ := h_
theorem Xv {p_ : Prop} (h_ : p_ := by rw [hg];exact (Jh Qw)) : p_ := h_
theorem Ye {p_ : Prop} (h_ : p_ := by rw [hg];exact (Jh Yb)) : p_ := h_
theorem Pd {p_ : Prop} (h_ : p_ := by rw [hg];exact Nat.ne_of_lt (Y3 (g := Y0) (o := .cells #[.int .i64 0,.string (⟨#[]⟩ : ByteArray),.bool false,.string (⟨#[]⟩ : ByteArray),.int .i64 0,.int .i64 0,.int .i64 0,.int .i64 0,.bool false,.bool false,.int .i64 0,.int .i64 0] 51 (0,0)) Xu)) : p_ := h_
theorem je {p_ : Prop} (h_ : p_ := by rw [hg];exact Nat.ne_of_gt (Y3 (g := Y0) (o := .cells #[.int .i64 0,.string (⟨#[]⟩ : ByteArray),.bool false,.string (⟨#[]⟩ : ByteArray),.int .i64 0,.int .i64 0,.int .i64 0,.int .i64 0,.bool false,.bool false,.int .i64 0,.int .i64 0] 51 (0,0)) Xu)) : p_ := h_
theorem Q0 {p_ : Prop} (h_ : p_ := by first | (go_simp;done) | (go_simp;rfl)) : p_ := h_
end Sx7
open Sx7
def Qi.f (Z5 : ByteArray) (Jb : Int) (Jc : ByteArray) : Option (Int × ByteArray × Bool × ByteArray × Int × Int × Int × Int × Bool × Bool × Int × Int × Bool) := if Jb = 0 then ((Hu.f Jc).bind fun Dl => (some (Dl.1,Dl.2.1,Dl.2.2.1,Dl.2.2.2.1,Dl.2.2.2.2.1,Dl.2.2.2.2.2.1,Dl.2.2.2.2.2.2.1,Dl.2.2.2.2.2.2.2.1,Dl.2.2.2.2.2.2.2.2.1,Dl.2.2.2.2.2.2.2.2.2.1,Dl.2.2.2.2.2.2.2.2.2.2.1,Dl.2.2.2.2.2.2.2.2.2.2.2,true))) else (if Jb = 1 then ((Hw.f Jc).bind fun Zgt => (if Zgt.2.2.2 = true then ((Ut.f Zgt.1 Zgt.2.1 Zgt.2.2.1).bind fun Yp => (some (Yp.1,Yp.2.1,Yp.2.2.1,Yp.2.2.2.1,Yp.2.2.2.2.1,Yp.2.2.2.2.2.1,Yp.2.2.2.2.2.2.1,Yp.2.2.2.2.2.2.2.1,Yp.2.2.2.2.2.2.2.2.1,Yp.2.2.2.2.2.2.2.2.2.1,Yp.2.2.2.2.2.2.2.2.2.2.1,Yp.2.2.2.2.2.2.2.2.2.2.2,true))) else (some (0,(⟨#[]⟩ : ByteArray),false,(⟨#[]⟩ : ByteArray),0,0,0,0,false,false,0,0,false)))) else (if Jb = 2 then ((Qm.f Jc).bind fun Z0g => (if Z0g.2 = true then ((Dk.f Z0g.1).bind fun Yq => (some (Yq.1,Yq.2.1,Yq.2.2.1,Yq.2.2.2.1,Yq.2.2.2.2.1,Yq.2.2.2.2.2.1,Yq.2.2.2.2.2.2.1,Yq.2.2.2.2.2.2.2.1,Yq.2.2.2.2.2.2.2.2.1,Yq.2.2.2.2.2.2.2.2.2.1,Yq.2.2.2.2.2.2.2.2.2.2.1,Yq.2.2.2.2.2.2.2.2.2.2.2,true))) else (some (0,(⟨#[]⟩ : ByteArray),false,(⟨#[]⟩ : ByteArray),0,0,0,0,false,false,0,0,false)))) else (some (0,(⟨#[]⟩ : ByteArray),false,(⟨#[]⟩ : ByteArray),0,0,0,0,false,false,0,0,false))))
set_option maxHeartbeats 8000000 in
set_option maxRecDepth 100000 in
theorem Qi.calls (Z5 : ByteArray) (Jb : Int) (Jc : ByteArray) (r1 : Int) (r2 : ByteArray) (r3 : Bool) (r4 : ByteArray) (r5 : Int) (r6 : Int) (r7 : Int) (r8 : Int) (r9 : Bool) (Fx : Bool) (Fy : Int) (r12 : Int) (r13 : Bool) (w : World) (h : Qi.f Z5 Jb Jc = some (r1,r2,r3,r4,r5,r6,r7,r8,r9,Fx,Fy,r12,r13)) (Gw : Dt w := by exact Dt.step Gw (by repeat (first | (with_reducible first | exact HB.out | apply Z4 | apply Zr | apply Zz | refine Z8 ?_ (Za.out (by assumption))) | exact HB.out))) (Ue : Yg w := by exact Yg.step Ue (by repeat (first | (with_reducible first | exact HB.out | apply Z4 | apply Zr | apply Zz | refine Z8 ?_ (Za.out (by assumption))) | exact HB.out))) (Hf : Qs w := by exact Qs.step Hf (by repeat (first | (with_reducible first | exact HB.out | apply Z4 | apply Zr | apply Zz | refine Z8 ?_ (Za.out (by assumption))) | exact HB.out))) :
  Calls Tryz.prog 17 #[.agg #[.string Z5,.int .i64 Jb,.string Jc]] w fun e w' => e = .returned (.tuple #[.agg #[.int .i64 r1,.string r2,.bool r3,.string r4,.int .i64 r5,.int .i64 r6,.int .i64 r7,.int .i64 r8,.bool r9,.bool Fx,.int .i64 Fy,.int .i64 r12],.bool r13]) ∧ Below w.heap.size w w' := by
 have Z0h := Tryz.underlying44
 have Jbq := Tryz.underlying51
 have Jec := Tryz.underlying46
 have HB := Za.mk (Below.refl w.heap.size w)
 have H : (if Jb = 0 then ((Hu.f Jc).bind fun Dl => (some (Dl.1,Dl.2.1,Dl.2.2.1,Dl.2.2.2.1,Dl.2.2.2.2.1,Dl.2.2.2.2.2.1,Dl.2.2.2.2.2.2.1,Dl.2.2.2.2.2.2.2.1,Dl.2.2.2.2.2.2.2.2.1,Dl.2.2.2.2.2.2.2.2.2.1,Dl.2.2.2.2.2.2.2.2.2.2.1,Dl.2.2.2.2.2.2.2.2.2.2.2,true))) else (if Jb = 1 then ((Hw.f Jc).bind fun Zgt => (if Zgt.2.2.2 = true then ((Ut.f Zgt.1 Zgt.2.1 Zgt.2.2.1).bind fun Yp => (some (Yp.1,Yp.2.1,Yp.2.2.1,Yp.2.2.2.1,Yp.2.2.2.2.1,Yp.2.2.2.2.2.1,Yp.2.2.2.2.2.2.1,Yp.2.2.2.2.2.2.2.1,Yp.2.2.2.2.2.2.2.2.1,Yp.2.2.2.2.2.2.2.2.2.1,Yp.2.2.2.2.2.2.2.2.2.2.1,Yp.2.2.2.2.2.2.2.2.2.2.2,true))) else (some (0,(⟨#[]⟩ : ByteArray),false,(⟨#[]⟩ : ByteArray),0,0,0,0,false,false,0,0,false)))) else (if Jb = 2 then ((Qm.f Jc).bind fun Z0g => (if Z0g.2 = true then ((Dk.f Z0g.1).bind fun Yq => (some (Yq.1,Yq.2.1,Yq.2.2.1,Yq.2.2.2.1,Yq.2.2.2.2.1,Yq.2.2.2.2.2.1,Yq.2.2.2.2.2.2.1,Yq.2.2.2.2.2.2.2.1,Yq.2.2.2.2.2.2.2.2.1,Yq.2.2.2.2.2.2.2.2.2.1,Yq.2.2.2.2.2.2.2.2.2.2.1,Yq.2.2.2.2.2.2.2.2.2.2.2,true))) else (some (0,(⟨#[]⟩ : ByteArray),false,(⟨#[]⟩ : ByteArray),0,0,0,0,false,false,0,0,false)))) else (some (0,(⟨#[]⟩ : ByteArray),false,(⟨#[]⟩ : ByteArray),0,0,0,0,false,false,0,0,false))))) = some (r1,r2,r3,r4,r5,r6,r7,r8,r9,Fx,Fy,r12,r13) := h
 clear h
 by_cases c2 : Jb = 0
 ·rw [if_pos c2] at H
  have wm : (Jb == 0) = true := beq_iff_eq.mpr c2
  have Zfp : (Jb != 0) = false := bne_eq_false_iff_eq.mpr c2
  clear c2
  replace H := Option.bind_eq_some_iff.mp H
  obtain ⟨⟨Zgu,Zkl,Zmi,t152,Zsw,t154,Z0i,t156,t157,Jen,t159,t160⟩,A30,H⟩ := H
  replace H : (some (Zgu,Zkl,Zmi,t152,Zsw,t154,Z0i,t156,t157,Jen,t159,t160,true)) = some (r1,r2,r3,r4,r5,r6,r7,r8,r9,Fx,Fy,r12,r13) := H
  have A3 := Za.mk A30
  clear A30
  simp only [Option.some.injEq,Prod.mk.injEq] at H
  obtain ⟨rfl,rfl,rfl,rfl,rfl,rfl,rfl,rfl,rfl,rfl,rfl,rfl,rfl⟩ := H
  go_enter Tryz.func17,Tryz.ntmps17
  go_wp2_with (first | ((with_reducible refine Jg (N := 1) rfl ?_);refine Je ?hg (N := 1) ?hd (cs := #[.string Z5,.int .i64 Jb,.string Jc]) (t := 44) ?hr ?_;(case hd => rfl);(case hg => rfl);(case hr => exact Q0);intro Yz hg w4 hbox hb;have Kr := Za.mk (hbox);have Z0j := Za.mk ((Xv : w.heap.size ≤ Yz));have Zlu := Za.mk ((Xv : w.heap.size ≤ Yz));replace HB := Za.mk (Zm Qw hb);clear hb hbox hg) | ((with_reducible refine Jg (N := 2) rfl ?_);refine Je ?hg (N := 2) ?hd (cs := #[.int .i64 0,.string (⟨#[]⟩ : ByteArray),.bool false,.string (⟨#[]⟩ : ByteArray),.int .i64 0,.int .i64 0,.int .i64 0,.int .i64 0,.bool false,.bool false,.int .i64 0,.int .i64 0]) (t := 51) ?hr ?_;(case hd => rfl);(case hg => rfl);(case hr => exact Q0);intro Y0 hg w5 hbox hb;have K7 := Za.mk (hbox);have Z0k := Za.mk ((Ye : w.heap.size ≤ Y0));have Zq2 := Za.mk ((Ye : w.heap.size ≤ Y0));replace HB := Za.mk (Zm Yb hb);have K8 := Za.mk ((Qg : Yz ≠ Y0));have K9 := Za.mk ((Dx : Y0 ≠ Yz));replace Kr := Za.mk (Zw (g := Yz) (o := .cells #[.string Z5,.int .i64 Jb,.string Jc] 44 (0,0)) J5 hb);clear hb hbox hg;have hnb6 := K8.out;have hnc6 := K9.out;obtain ⟨Jor,Jos,Jot,Jou,Jov,Jow⟩ := Va Kr.out) | ((with_reducible refine Z7 (f := 26) rfl ?_);refine Ju (some 14) rfl rfl Tryz.func26 (by kernel_rfl) rfl #[.string Jc] rfl Wp ?_;(with_reducible refine (Hu.calls Jc Zgu Zkl Zmi t152 Zsw t154 Z0i t156 t157 Jen t159 t160 _ A3.out).mono ?_);rintro e w8 ⟨rfl,hb⟩;refine ⟨_,rfl,?_⟩;replace Kr := Za.mk (Zw (g := Yz) (o := .cells #[.string Z5,.int .i64 Jb,.string Jc] 44 (0,0)) J5 hb);replace K7 := Za.mk (Zw (g := Y0) (o := .cells #[.int .i64 0,.string (⟨#[]⟩ : ByteArray),.bool false,.string (⟨#[]⟩ : ByteArray),.int .i64 0,.int .i64 0,.int .i64 0,.int .i64 0,.bool false,.bool false,.int .i64 0,.int .i64 0] 51 (0,0)) Xu hb);replace HB := Za.mk (Zm Vz hb);(try clear hb);(try clear hb2);(try clear hk);(try clear hi);obtain ⟨Z2x,Z2y,Z2z,Z20,Z21,Z22,Z23,Z24,Jox,Joy,Jie,Jif,Z25,Z26,Z27,Z28,Z29,Z3a,Z3b,Z3c,Joz,Jo0,Jig,Jih⟩ := Xk K7.out))
  refine bodyPost_ret (Vr rfl _ _ Y0 51 #[.int .i64 Zgu,.string Zkl,.bool Zmi,.string t152,.int .i64 Zsw,.int .i64 t154,.int .i64 Z0i,.int .i64 t156,.bool t157,.bool Jen,.int .i64 t159,.int .i64 t160] (0,0) _ rfl (by (with_reducible repeat (first | refine Zc ?_ _ | refine Zf ?_ | refine Zb ?_ _));refine Zo (cs := #[.int .i64 Zgu,.string Zkl,.bool Zmi,.string t152,.int .i64 Zsw,.int .i64 t154,.int .i64 Z0i,.int .i64 t156,.bool t157,.bool Jen,.int .i64 t159,.int .i64 0]) ?_ 11 _ rfl;(with_reducible repeat (first | refine Zc ?_ _ | refine Zf ?_ | refine Zb ?_ _));refine Zo (cs := #[.int .i64 Zgu,.string Zkl,.bool Zmi,.string t152,.int .i64 Zsw,.int .i64 t154,.int .i64 Z0i,.int .i64 t156,.bool t157,.bool Jen,.int .i64 0,.int .i64 0]) ?_ 10 _ rfl;(with_reducible repeat (first | refine Zc ?_ _ | refine Zf ?_ | refine Zb ?_ _));refine Zo (cs := #[.int .i64 Zgu,.string Zkl,.bool Zmi,.string t152,.int .i64 Zsw,.int .i64 t154,.int .i64 Z0i,.int .i64 t156,.bool t157,.bool false,.int .i64 0,.int .i64 0]) ?_ 9 _ rfl;(with_reducible repeat (first | refine Zc ?_ _ | refine Zf ?_ | refine Zb ?_ _));refine Zo (cs := #[.int .i64 Zgu,.string Zkl,.bool Zmi,.string t152,.int .i64 Zsw,.int .i64 t154,.int .i64 Z0i,.int .i64 t156,.bool false,.bool false,.int .i64 0,.int .i64 0]) ?_ 8 _ rfl;(with_reducible repeat (first | refine Zc ?_ _ | refine Zf ?_ | refine Zb ?_ _));refine Zo (cs := #[.int .i64 Zgu,.string Zkl,.bool Zmi,.string t152,.int .i64 Zsw,.int .i64 t154,.int .i64 Z0i,.int .i64 0,.bool false,.bool false,.int .i64 0,.int .i64 0]) ?_ 7 _ rfl;(with_reducible repeat (first | refine Zc ?_ _ | refine Zf ?_ | refine Zb ?_ _));refine Zo (cs := #[.int .i64 Zgu,.string Zkl,.bool Zmi,.string t152,.int .i64 Zsw,.int .i64 t154,.int .i64 0,.int .i64 0,.bool false,.bool false,.int .i64 0,.int .i64 0]) ?_ 6 _ rfl;(with_reducible repeat (first | refine Zc ?_ _ | refine Zf ?_ | refine Zb ?_ _));refine Zo (cs := #[.int .i64 Zgu,.string Zkl,.bool Zmi,.string t152,.int .i64 Zsw,.int .i64 0,.int .i64 0,.int .i64 0,.bool false,.bool false,.int .i64 0,.int .i64 0]) ?_ 5 _ rfl;(with_reducible repeat (first | refine Zc ?_ _ | refine Zf ?_ | refine Zb ?_ _));refine Zo (cs := #[.int .i64 Zgu,.string Zkl,.bool Zmi,.string t152,.int .i64 0,.int .i64 0,.int .i64 0,.int .i64 0,.bool false,.bool false,.int .i64 0,.int .i64 0]) ?_ 4 _ rfl;(with_reducible repeat (first | refine Zc ?_ _ | refine Zf ?_ | refine Zb ?_ _));refine Zo (cs := #[.int .i64 Zgu,.string Zkl,.bool Zmi,.string (⟨#[]⟩ : ByteArray),.int .i64 0,.int .i64 0,.int .i64 0,.int .i64 0,.bool false,.bool false,.int .i64 0,.int .i64 0]) ?_ 3 _ rfl;(with_reducible repeat (first | refine Zc ?_ _ | refine Zf ?_ | refine Zb ?_ _));refine Zo (cs := #[.int .i64 Zgu,.string Zkl,.bool false,.string (⟨#[]⟩ : ByteArray),.int .i64 0,.int .i64 0,.int .i64 0,.int .i64 0,.bool false,.bool false,.int .i64 0,.int .i64 0]) ?_ 2 _ rfl;(with_reducible repeat (first | refine Zc ?_ _ | refine Zf ?_ | refine Zb ?_ _));refine Zo (cs := #[.int .i64 Zgu,.string (⟨#[]⟩ : ByteArray),.bool false,.string (⟨#[]⟩ : ByteArray),.int .i64 0,.int .i64 0,.int .i64 0,.int .i64 0,.bool false,.bool false,.int .i64 0,.int .i64 0]) ?_ 1 _ rfl;(with_reducible repeat (first | refine Zc ?_ _ | refine Zf ?_ | refine Zb ?_ _));refine Zo (cs := #[.int .i64 0,.string (⟨#[]⟩ : ByteArray),.bool false,.string (⟨#[]⟩ : ByteArray),.int .i64 0,.int .i64 0,.int .i64 0,.int .i64 0,.bool false,.bool false,.int .i64 0,.int .i64 0]) ?_ 0 _ rfl;(with_reducible repeat (first | refine Zc ?_ _ | refine Zf ?_ | refine Zb ?_ _));exact K7.out) Tryz.underlying51 rfl (by kernel_rfl)) rfl ?_
  exact ⟨Sy,Vz⟩
 ·rw [if_neg c2] at H
  have wm : (Jb == 0) = false := beq_eq_false_iff_ne.mpr c2
  have Zfp : (Jb != 0) = true := bne_iff_ne.mpr c2
  by_cases c10 : Jb = 1
  ·rw [if_pos c10] at H
   have df : (Jb == 1) = true := beq_iff_eq.mpr c10
   have Zq3 : (Jb != 1) = false := bne_eq_false_iff_eq.mpr c10
   clear c10
   replace H := Option.bind_eq_some_iff.mp H
   obtain ⟨⟨Zu1,t162,Z3d,t164⟩,Z0l,H⟩ := H
   replace H : (if t164 = true then ((Ut.f Zu1 t162 Z3d).bind fun Yp => (some (Yp.1,Yp.2.1,Yp.2.2.1,Yp.2.2.2.1,Yp.2.2.2.2.1,Yp.2.2.2.2.2.1,Yp.2.2.2.2.2.2.1,Yp.2.2.2.2.2.2.2.1,Yp.2.2.2.2.2.2.2.2.1,Yp.2.2.2.2.2.2.2.2.2.1,Yp.2.2.2.2.2.2.2.2.2.2.1,Yp.2.2.2.2.2.2.2.2.2.2.2,true))) else (some (0,(⟨#[]⟩ : ByteArray),false,(⟨#[]⟩ : ByteArray),0,0,0,0,false,false,0,0,false))) = some (r1,r2,r3,r4,r5,r6,r7,r8,r9,Fx,Fy,r12,r13) := H
   have A11 := Za.mk Z0l
   clear Z0l
   by_cases c12 : t164 = true
   ·subst c12
    have H1 : ((Ut.f Zu1 t162 Z3d).bind fun Yp => (some (Yp.1,Yp.2.1,Yp.2.2.1,Yp.2.2.2.1,Yp.2.2.2.2.1,Yp.2.2.2.2.2.1,Yp.2.2.2.2.2.2.1,Yp.2.2.2.2.2.2.2.1,Yp.2.2.2.2.2.2.2.2.1,Yp.2.2.2.2.2.2.2.2.2.1,Yp.2.2.2.2.2.2.2.2.2.2.1,Yp.2.2.2.2.2.2.2.2.2.2.2,true))) = some (r1,r2,r3,r4,r5,r6,r7,r8,r9,Fx,Fy,r12,r13) := by rw [if_pos rfl] at H;exact H
    clear H
    have H := H1
    clear H1
    replace H := Option.bind_eq_some_iff.mp H
    obtain ⟨⟨Zgv,t167,t168,Zq4,Zsx,t171,Z0m,t173,Jbv,t175,Jii,Jo1⟩,Zqt,H⟩ := H
    replace H : (some (Zgv,t167,t168,Zq4,Zsx,t171,Z0m,t173,Jbv,t175,Jii,Jo1,true)) = some (r1,r2,r3,r4,r5,r6,r7,r8,r9,Fx,Fy,r12,r13) := H
    have A13 := Za.mk Zqt
    clear Zqt
    simp only [Option.some.injEq,Prod.mk.injEq] at H
    obtain ⟨rfl,rfl,rfl,rfl,rfl,rfl,rfl,rfl,rfl,rfl,rfl,rfl,rfl⟩ := H
    go_enter Tryz.func17,Tryz.ntmps17
    go_wp2_with (first | ((with_reducible refine Jg (N := 1) rfl ?_);refine Je ?hg (N := 1) ?hd (cs := #[.string Z5,.int .i64 Jb,.string Jc]) (t := 44) ?hr ?_;(case hd => rfl);(case hg => rfl);(case hr => exact Q0);intro Yz hg w14 hbox hb;have Kr := Za.mk (hbox);have Z0j := Za.mk ((Xv : w.heap.size ≤ Yz));have Zlu := Za.mk ((Xv : w.heap.size ≤ Yz));replace HB := Za.mk (Zm Qw hb);clear hb hbox hg) | ((with_reducible refine Jg (N := 2) rfl ?_);refine Je ?hg (N := 2) ?hd (cs := #[.int .i64 0,.string (⟨#[]⟩ : ByteArray),.bool false,.string (⟨#[]⟩ : ByteArray),.int .i64 0,.int .i64 0,.int .i64 0,.int .i64 0,.bool false,.bool false,.int .i64 0,.int .i64 0]) (t := 51) ?hr ?_;(case hd => rfl);(case hg => rfl);(case hr => exact Q0);intro Y0 hg w15 hbox hb;have K7 := Za.mk (hbox);have Z0k := Za.mk ((Ye : w.heap.size ≤ Y0));have Zq2 := Za.mk ((Ye : w.heap.size ≤ Y0));replace HB := Za.mk (Zm Yb hb);have K8 := Za.mk ((Qg : Yz ≠ Y0));have K9 := Za.mk ((Dx : Y0 ≠ Yz));replace Kr := Za.mk (Zw (g := Yz) (o := .cells #[.string Z5,.int .i64 Jb,.string Jc] 44 (0,0)) J5 hb);clear hb hbox hg;have Jlz := K8.out;have Jl0 := K9.out;obtain ⟨Ra,Rb,Rc,Re,Rf,Rh⟩ := Va Kr.out) | ((with_reducible refine Z7 (f := 27) rfl ?_);refine Ju (some 20) rfl rfl Tryz.func27 (by kernel_rfl) rfl #[.string Jc] rfl Wp ?_;(with_reducible refine (Hw.calls Jc Zu1 t162 Z3d true _ A11.out).mono ?_);rintro e w18 ⟨rfl,hb⟩;refine ⟨_,rfl,?_⟩;replace Kr := Za.mk (Zw (g := Yz) (o := .cells #[.string Z5,.int .i64 Jb,.string Jc] 44 (0,0)) J5 hb);replace K7 := Za.mk (Zw (g := Y0) (o := .cells #[.int .i64 0,.string (⟨#[]⟩ : ByteArray),.bool false,.string (⟨#[]⟩ : ByteArray),.int .i64 0,.int .i64 0,.int .i64 0,.int .i64 0,.bool false,.bool false,.int .i64 0,.int .i64 0] 51 (0,0)) Xu hb);replace HB := Za.mk (Zm Vz hb);(try clear hb);(try clear hb2);(try clear hk);(try clear hi)) | ((with_reducible refine Jg (N := 4) rfl ?_);refine Je ?hg (N := 4) ?hd (cs := #[.bool false,.string (⟨#[]⟩ : ByteArray),.int .i64 0]) (t := 46) ?hr ?_;(case hd => rfl);(case hg => rfl);(case hr => exact Q0);intro yg hg w19 hbox hb;have Z0n := Za.mk (hbox);have Jsr := Za.mk (((by rw [hg];exact (Jh Vz)) : w.heap.size ≤ yg));have Jly := Za.mk (((by rw [hg];exact (Jh Vz)) : w.heap.size ≤ yg));replace HB := Za.mk (Zm Vz hb);have zq := Za.mk ((Qg : Yz ≠ yg));have Zkm := Za.mk ((Dx : yg ≠ Yz));replace Kr := Za.mk (Zw (g := Yz) (o := .cells #[.string Z5,.int .i64 Jb,.string Jc] 44 (0,0)) J5 hb);have Ga := Za.mk ((Pd : Y0 ≠ yg));have Zkn := Za.mk ((je : yg ≠ Y0));replace K7 := Za.mk (Zw (g := Y0) (o := .cells #[.int .i64 0,.string (⟨#[]⟩ : ByteArray),.bool false,.string (⟨#[]⟩ : ByteArray),.int .i64 0,.int .i64 0,.int .i64 0,.int .i64 0,.bool false,.bool false,.int .i64 0,.int .i64 0] 51 (0,0)) Xu hb);clear hb hbox hg;have Jl1 := Zkm.out;have Jl2 := zq.out;have Jss := Zkn.out;have Jst := Ga.out;obtain ⟨Zm2,Zm3,Zm4,Zm5,Zm6,Zm7⟩ := Va Z0n.out) | ((with_reducible refine Z7 (f := 28) rfl ?_);refine Ju (some 27) rfl rfl Tryz.func28 (by kernel_rfl) rfl #[.agg #[.bool Zu1,.string t162,.int .i64 Z3d]] rfl Wp ?_;(with_reducible refine (Ut.calls Zu1 t162 Z3d Zgv t167 t168 Zq4 Zsx t171 Z0m t173 Jbv t175 Jii Jo1 _ A13.out).mono ?_);rintro e w23 ⟨rfl,hb⟩;refine ⟨_,rfl,?_⟩;replace Kr := Za.mk (Zw (g := Yz) (o := .cells #[.string Z5,.int .i64 Jb,.string Jc] 44 (0,0)) (by (with_reducible repeat (first | refine Zc ?_ _ | refine Zf ?_ | refine Zb ?_ _));refine Jl ?_ zq.out _;(with_reducible repeat (first | refine Zc ?_ _ | refine Zf ?_ | refine Zb ?_ _));refine Jl ?_ zq.out _;(with_reducible repeat (first | refine Zc ?_ _ | refine Zf ?_ | refine Zb ?_ _));refine Jl ?_ zq.out _;(with_reducible repeat (first | refine Zc ?_ _ | refine Zf ?_ | refine Zb ?_ _));exact Kr.out) hb);replace K7 := Za.mk (Zw (g := Y0) (o := .cells #[.int .i64 0,.string (⟨#[]⟩ : ByteArray),.bool false,.string (⟨#[]⟩ : ByteArray),.int .i64 0,.int .i64 0,.int .i64 0,.int .i64 0,.bool false,.bool false,.int .i64 0,.int .i64 0] 51 (0,0)) (by (with_reducible repeat (first | refine Zc ?_ _ | refine Zf ?_ | refine Zb ?_ _));refine Jl ?_ Ga.out _;(with_reducible repeat (first | refine Zc ?_ _ | refine Zf ?_ | refine Zb ?_ _));refine Jl ?_ Ga.out _;(with_reducible repeat (first | refine Zc ?_ _ | refine Zf ?_ | refine Zb ?_ _));refine Jl ?_ Ga.out _;(with_reducible repeat (first | refine Zc ?_ _ | refine Zf ?_ | refine Zb ?_ _));exact K7.out) hb);replace Z0n := Za.mk (Zw (g := yg) (o := .cells #[.bool Zu1,.string t162,.int .i64 Z3d] 46 (0,0)) (by (with_reducible repeat (first | refine Zc ?_ _ | refine Zf ?_ | refine Zb ?_ _));refine Zo (cs := #[.bool Zu1,.string t162,.int .i64 0]) ?_ 2 _ rfl;(with_reducible repeat (first | refine Zc ?_ _ | refine Zf ?_ | refine Zb ?_ _));refine Zo (cs := #[.bool Zu1,.string (⟨#[]⟩ : ByteArray),.int .i64 0]) ?_ 1 _ rfl;(with_reducible repeat (first | refine Zc ?_ _ | refine Zf ?_ | refine Zb ?_ _));refine Zo (cs := #[.bool false,.string (⟨#[]⟩ : ByteArray),.int .i64 0]) ?_ 0 _ rfl;(with_reducible repeat (first | refine Zc ?_ _ | refine Zf ?_ | refine Zb ?_ _));exact Z0n.out) hb);replace HB := Za.mk (Zm Qy hb);(try clear hb);(try clear hb2);(try clear hk);(try clear hi);obtain ⟨Wq,Ws,Wt,Ri,Rj,Rk,Rl,Rm,Zm8,Zm9,Zgw,Zgx,Wu,Wv,Ww,Rn,Ro,Rp,Rq,Rs,Zna,Znb,Zgy,Zgz⟩ := Xk K7.out))
    refine bodyPost_ret (Vr rfl _ _ Y0 51 #[.int .i64 Zgv,.string t167,.bool t168,.string Zq4,.int .i64 Zsx,.int .i64 t171,.int .i64 Z0m,.int .i64 t173,.bool Jbv,.bool t175,.int .i64 Jii,.int .i64 Jo1] (0,0) _ rfl (by (with_reducible repeat (first | refine Zc ?_ _ | refine Zf ?_ | refine Zb ?_ _));refine Zo (cs := #[.int .i64 Zgv,.string t167,.bool t168,.string Zq4,.int .i64 Zsx,.int .i64 t171,.int .i64 Z0m,.int .i64 t173,.bool Jbv,.bool t175,.int .i64 Jii,.int .i64 0]) ?_ 11 _ rfl;(with_reducible repeat (first | refine Zc ?_ _ | refine Zf ?_ | refine Zb ?_ _));refine Zo (cs := #[.int .i64 Zgv,.string t167,.bool t168,.string Zq4,.int .i64 Zsx,.int .i64 t171,.int .i64 Z0m,.int .i64 t173,.bool Jbv,.bool t175,.int .i64 0,.int .i64 0]) ?_ 10 _ rfl;(with_reducible repeat (first | refine Zc ?_ _ | refine Zf ?_ | refine Zb ?_ _));refine Zo (cs := #[.int .i64 Zgv,.string t167,.bool t168,.string Zq4,.int .i64 Zsx,.int .i64 t171,.int .i64 Z0m,.int .i64 t173,.bool Jbv,.bool false,.int .i64 0,.int .i64 0]) ?_ 9 _ rfl;(with_reducible repeat (first | refine Zc ?_ _ | refine Zf ?_ | refine Zb ?_ _));refine Zo (cs := #[.int .i64 Zgv,.string t167,.bool t168,.string Zq4,.int .i64 Zsx,.int .i64 t171,.int .i64 Z0m,.int .i64 t173,.bool false,.bool false,.int .i64 0,.int .i64 0]) ?_ 8 _ rfl;(with_reducible repeat (first | refine Zc ?_ _ | refine Zf ?_ | refine Zb ?_ _));refine Zo (cs := #[.int .i64 Zgv,.string t167,.bool t168,.string Zq4,.int .i64 Zsx,.int .i64 t171,.int .i64 Z0m,.int .i64 0,.bool false,.bool false,.int .i64 0,.int .i64 0]) ?_ 7 _ rfl;(with_reducible repeat (first | refine Zc ?_ _ | refine Zf ?_ | refine Zb ?_ _));refine Zo (cs := #[.int .i64 Zgv,.string t167,.bool t168,.string Zq4,.int .i64 Zsx,.int .i64 t171,.int .i64 0,.int .i64 0,.bool false,.bool false,.int .i64 0,.int .i64 0]) ?_ 6 _ rfl;(with_reducible repeat (first | refine Zc ?_ _ | refine Zf ?_ | refine Zb ?_ _));refine Zo (cs := #[.int .i64 Zgv,.string t167,.bool t168,.string Zq4,.int .i64 Zsx,.int .i64 0,.int .i64 0,.int .i64 0,.bool false,.bool false,.int .i64 0,.int .i64 0]) ?_ 5 _ rfl;(with_reducible repeat (first | refine Zc ?_ _ | refine Zf ?_ | refine Zb ?_ _));refine Zo (cs := #[.int .i64 Zgv,.string t167,.bool t168,.string Zq4,.int .i64 0,.int .i64 0,.int .i64 0,.int .i64 0,.bool false,.bool false,.int .i64 0,.int .i64 0]) ?_ 4 _ rfl;(with_reducible repeat (first | refine Zc ?_ _ | refine Zf ?_ | refine Zb ?_ _));refine Zo (cs := #[.int .i64 Zgv,.string t167,.bool t168,.string (⟨#[]⟩ : ByteArray),.int .i64 0,.int .i64 0,.int .i64 0,.int .i64 0,.bool false,.bool false,.int .i64 0,.int .i64 0]) ?_ 3 _ rfl;(with_reducible repeat (first | refine Zc ?_ _ | refine Zf ?_ | refine Zb ?_ _));refine Zo (cs := #[.int .i64 Zgv,.string t167,.bool false,.string (⟨#[]⟩ : ByteArray),.int .i64 0,.int .i64 0,.int .i64 0,.int .i64 0,.bool false,.bool false,.int .i64 0,.int .i64 0]) ?_ 2 _ rfl;(with_reducible repeat (first | refine Zc ?_ _ | refine Zf ?_ | refine Zb ?_ _));refine Zo (cs := #[.int .i64 Zgv,.string (⟨#[]⟩ : ByteArray),.bool false,.string (⟨#[]⟩ : ByteArray),.int .i64 0,.int .i64 0,.int .i64 0,.int .i64 0,.bool false,.bool false,.int .i64 0,.int .i64 0]) ?_ 1 _ rfl;(with_reducible repeat (first | refine Zc ?_ _ | refine Zf ?_ | refine Zb ?_ _));refine Zo (cs := #[.int .i64 0,.string (⟨#[]⟩ : ByteArray),.bool false,.string (⟨#[]⟩ : ByteArray),.int .i64 0,.int .i64 0,.int .i64 0,.int .i64 0,.bool false,.bool false,.int .i64 0,.int .i64 0]) ?_ 0 _ rfl;(with_reducible repeat (first | refine Zc ?_ _ | refine Zf ?_ | refine Zb ?_ _));exact K7.out) Tryz.underlying51 rfl (by kernel_rfl)) rfl ?_
    exact ⟨Sy,Qy⟩
   ·replace c12 := Bool.eq_false_iff.mpr c12
    subst c12
    have H1 : (some (0,(⟨#[]⟩ : ByteArray),false,(⟨#[]⟩ : ByteArray),0,0,0,0,false,false,0,0,false)) = some (r1,r2,r3,r4,r5,r6,r7,r8,r9,Fx,Fy,r12,r13) := by rw [if_neg (show ¬ (false = true) by decide)] at H;exact H
    clear H
    have H := H1
    clear H1
    simp only [Option.some.injEq,Prod.mk.injEq] at H
    obtain ⟨rfl,rfl,rfl,rfl,rfl,rfl,rfl,rfl,rfl,rfl,rfl,rfl,rfl⟩ := H
    go_enter Tryz.func17,Tryz.ntmps17
    go_wp2_with (first | ((with_reducible refine Jg (N := 1) rfl ?_);refine Je ?hg (N := 1) ?hd (cs := #[.string Z5,.int .i64 Jb,.string Jc]) (t := 44) ?hr ?_;(case hd => rfl);(case hg => rfl);(case hr => exact Q0);intro Yz hg w25 hbox hb;have Kr := Za.mk (hbox);have Z0j := Za.mk ((Xv : w.heap.size ≤ Yz));have Zlu := Za.mk ((Xv : w.heap.size ≤ Yz));replace HB := Za.mk (Zm Qw hb);clear hb hbox hg) | ((with_reducible refine Jg (N := 2) rfl ?_);refine Je ?hg (N := 2) ?hd (cs := #[.int .i64 0,.string (⟨#[]⟩ : ByteArray),.bool false,.string (⟨#[]⟩ : ByteArray),.int .i64 0,.int .i64 0,.int .i64 0,.int .i64 0,.bool false,.bool false,.int .i64 0,.int .i64 0]) (t := 51) ?hr ?_;(case hd => rfl);(case hg => rfl);(case hr => exact Q0);intro Y0 hg w26 hbox hb;have K7 := Za.mk (hbox);have Z0k := Za.mk ((Ye : w.heap.size ≤ Y0));have Zq2 := Za.mk ((Ye : w.heap.size ≤ Y0));replace HB := Za.mk (Zm Yb hb);have K8 := Za.mk ((Qg : Yz ≠ Y0));have K9 := Za.mk ((Dx : Y0 ≠ Yz));replace Kr := Za.mk (Zw (g := Yz) (o := .cells #[.string Z5,.int .i64 Jb,.string Jc] 44 (0,0)) J5 hb);clear hb hbox hg;have Jsu := K8.out;have Jsv := K9.out;obtain ⟨l6,l8,l9,mf,mg,mh⟩ := Va Kr.out) | ((with_reducible refine Z7 (f := 27) rfl ?_);refine Ju (some 20) rfl rfl Tryz.func27 (by kernel_rfl) rfl #[.string Jc] rfl Wp ?_;(with_reducible refine (Hw.calls Jc Zu1 t162 Z3d false _ A11.out).mono ?_);rintro e w29 ⟨rfl,hb⟩;refine ⟨_,rfl,?_⟩;replace Kr := Za.mk (Zw (g := Yz) (o := .cells #[.string Z5,.int .i64 Jb,.string Jc] 44 (0,0)) J5 hb);replace K7 := Za.mk (Zw (g := Y0) (o := .cells #[.int .i64 0,.string (⟨#[]⟩ : ByteArray),.bool false,.string (⟨#[]⟩ : ByteArray),.int .i64 0,.int .i64 0,.int .i64 0,.int .i64 0,.bool false,.bool false,.int .i64 0,.int .i64 0] 51 (0,0)) Xu hb);replace HB := Za.mk (Zm Vz hb);(try clear hb);(try clear hb2);(try clear hk);(try clear hi)) | ((with_reducible refine Jg (N := 4) rfl ?_);refine Je ?hg (N := 4) ?hd (cs := #[.bool false,.string (⟨#[]⟩ : ByteArray),.int .i64 0]) (t := 46) ?hr ?_;(case hd => rfl);(case hg => rfl);(case hr => exact Q0);intro yg hg w30 hbox hb;have Z0n := Za.mk (hbox);have Jsr := Za.mk (((by rw [hg];exact (Jh Vz)) : w.heap.size ≤ yg));have Jly := Za.mk (((by rw [hg];exact (Jh Vz)) : w.heap.size ≤ yg));replace HB := Za.mk (Zm Vz hb);have zq := Za.mk ((Qg : Yz ≠ yg));have Zkm := Za.mk ((Dx : yg ≠ Yz));replace Kr := Za.mk (Zw (g := Yz) (o := .cells #[.string Z5,.int .i64 Jb,.string Jc] 44 (0,0)) J5 hb);have Ga := Za.mk ((Pd : Y0 ≠ yg));have Zkn := Za.mk ((je : yg ≠ Y0));replace K7 := Za.mk (Zw (g := Y0) (o := .cells #[.int .i64 0,.string (⟨#[]⟩ : ByteArray),.bool false,.string (⟨#[]⟩ : ByteArray),.int .i64 0,.int .i64 0,.int .i64 0,.int .i64 0,.bool false,.bool false,.int .i64 0,.int .i64 0] 51 (0,0)) Xu hb);clear hb hbox hg;have Jl3 := Zkm.out;have Jl4 := zq.out;have Jsw := Zkn.out;have Jsx := Ga.out;obtain ⟨Uz,U0,U1,U2,U3,U4⟩ := Va Z0n.out;obtain ⟨Zu2,Zu3,Zu4,Zu5,Zu6,Zu7,Zu8,Zu9,Jij,Jik,Jeo,Jep,Zva,Zvb,Zvc,Zvd,Zve,Zvf,Zvg,Zvh,Jil,Jim,Jeq,Jer⟩ := Xk K7.out))
    refine bodyPost_ret (Vr rfl _ _ Y0 51 #[.int .i64 0,.string (⟨#[]⟩ : ByteArray),.bool false,.string (⟨#[]⟩ : ByteArray),.int .i64 0,.int .i64 0,.int .i64 0,.int .i64 0,.bool false,.bool false,.int .i64 0,.int .i64 0] (0,0) _ rfl (by (with_reducible repeat (first | refine Zc ?_ _ | refine Zf ?_ | refine Zb ?_ _));refine Zo (cs := #[.int .i64 0,.string (⟨#[]⟩ : ByteArray),.bool false,.string (⟨#[]⟩ : ByteArray),.int .i64 0,.int .i64 0,.int .i64 0,.int .i64 0,.bool false,.bool false,.int .i64 0,.int .i64 0]) ?_ 11 _ rfl;(with_reducible repeat (first | refine Zc ?_ _ | refine Zf ?_ | refine Zb ?_ _));refine Zo (cs := #[.int .i64 0,.string (⟨#[]⟩ : ByteArray),.bool false,.string (⟨#[]⟩ : ByteArray),.int .i64 0,.int .i64 0,.int .i64 0,.int .i64 0,.bool false,.bool false,.int .i64 0,.int .i64 0]) ?_ 10 _ rfl;(with_reducible repeat (first | refine Zc ?_ _ | refine Zf ?_ | refine Zb ?_ _));refine Zo (cs := #[.int .i64 0,.string (⟨#[]⟩ : ByteArray),.bool false,.string (⟨#[]⟩ : ByteArray),.int .i64 0,.int .i64 0,.int .i64 0,.int .i64 0,.bool false,.bool false,.int .i64 0,.int .i64 0]) ?_ 9 _ rfl;(with_reducible repeat (first | refine Zc ?_ _ | refine Zf ?_ | refine Zb ?_ _));refine Zo (cs := #[.int .i64 0,.string (⟨#[]⟩ : ByteArray),.bool false,.string (⟨#[]⟩ : ByteArray),.int .i64 0,.int .i64 0,.int .i64 0,.int .i64 0,.bool false,.bool false,.int .i64 0,.int .i64 0]) ?_ 8 _ rfl;(with_reducible repeat (first | refine Zc ?_ _ | refine Zf ?_ | refine Zb ?_ _));refine Zo (cs := #[.int .i64 0,.string (⟨#[]⟩ : ByteArray),.bool false,.string (⟨#[]⟩ : ByteArray),.int .i64 0,.int .i64 0,.int .i64 0,.int .i64 0,.bool false,.bool false,.int .i64 0,.int .i64 0]) ?_ 7 _ rfl;(with_reducible repeat (first | refine Zc ?_ _ | refine Zf ?_ | refine Zb ?_ _));refine Zo (cs := #[.int .i64 0,.string (⟨#[]⟩ : ByteArray),.bool false,.string (⟨#[]⟩ : ByteArray),.int .i64 0,.int .i64 0,.int .i64 0,.int .i64 0,.bool false,.bool false,.int .i64 0,.int .i64 0]) ?_ 6 _ rfl;(with_reducible repeat (first | refine Zc ?_ _ | refine Zf ?_ | refine Zb ?_ _));refine Zo (cs := #[.int .i64 0,.string (⟨#[]⟩ : ByteArray),.bool false,.string (⟨#[]⟩ : ByteArray),.int .i64 0,.int .i64 0,.int .i64 0,.int .i64 0,.bool false,.bool false,.int .i64 0,.int .i64 0]) ?_ 5 _ rfl;(with_reducible repeat (first | refine Zc ?_ _ | refine Zf ?_ | refine Zb ?_ _));refine Zo (cs := #[.int .i64 0,.string (⟨#[]⟩ : ByteArray),.bool false,.string (⟨#[]⟩ : ByteArray),.int .i64 0,.int .i64 0,.int .i64 0,.int .i64 0,.bool false,.bool false,.int .i64 0,.int .i64 0]) ?_ 4 _ rfl;(with_reducible repeat (first | refine Zc ?_ _ | refine Zf ?_ | refine Zb ?_ _));refine Zo (cs := #[.int .i64 0,.string (⟨#[]⟩ : ByteArray),.bool false,.string (⟨#[]⟩ : ByteArray),.int .i64 0,.int .i64 0,.int .i64 0,.int .i64 0,.bool false,.bool false,.int .i64 0,.int .i64 0]) ?_ 3 _ rfl;(with_reducible repeat (first | refine Zc ?_ _ | refine Zf ?_ | refine Zb ?_ _));refine Zo (cs := #[.int .i64 0,.string (⟨#[]⟩ : ByteArray),.bool false,.string (⟨#[]⟩ : ByteArray),.int .i64 0,.int .i64 0,.int .i64 0,.int .i64 0,.bool false,.bool false,.int .i64 0,.int .i64 0]) ?_ 2 _ rfl;(with_reducible repeat (first | refine Zc ?_ _ | refine Zf ?_ | refine Zb ?_ _));refine Zo (cs := #[.int .i64 0,.string (⟨#[]⟩ : ByteArray),.bool false,.string (⟨#[]⟩ : ByteArray),.int .i64 0,.int .i64 0,.int .i64 0,.int .i64 0,.bool false,.bool false,.int .i64 0,.int .i64 0]) ?_ 1 _ rfl;(with_reducible repeat (first | refine Zc ?_ _ | refine Zf ?_ | refine Zb ?_ _));refine Zo (cs := #[.int .i64 0,.string (⟨#[]⟩ : ByteArray),.bool false,.string (⟨#[]⟩ : ByteArray),.int .i64 0,.int .i64 0,.int .i64 0,.int .i64 0,.bool false,.bool false,.int .i64 0,.int .i64 0]) ?_ 0 _ rfl;(with_reducible repeat (first | refine Zc ?_ _ | refine Zf ?_ | refine Zb ?_ _));refine Jl ?_ Ga.out _;(with_reducible repeat (first | refine Zc ?_ _ | refine Zf ?_ | refine Zb ?_ _));refine Jl ?_ Ga.out _;(with_reducible repeat (first | refine Zc ?_ _ | refine Zf ?_ | refine Zb ?_ _));refine Jl ?_ Ga.out _;(with_reducible repeat (first | refine Zc ?_ _ | refine Zf ?_ | refine Zb ?_ _));exact K7.out) Tryz.underlying51 rfl (by kernel_rfl)) rfl ?_
    exact ⟨Sy,Qy⟩
  ·rw [if_neg c10] at H
   have df : (Jb == 1) = false := beq_eq_false_iff_ne.mpr c10
   have Zq3 : (Jb != 1) = true := bne_iff_ne.mpr c10
   by_cases jc : Jb = 2
   ·rw [if_pos jc] at H
    have Za4 : (Jb == 2) = true := beq_iff_eq.mpr jc
    have Zfg : (Jb != 2) = false := bne_eq_false_iff_eq.mpr jc
    clear jc
    replace H := Option.bind_eq_some_iff.mp H
    obtain ⟨⟨Jbw,Jsy⟩,Jes,H⟩ := H
    replace H : (if Jsy = true then ((Dk.f Jbw).bind fun Yq => (some (Yq.1,Yq.2.1,Yq.2.2.1,Yq.2.2.2.1,Yq.2.2.2.2.1,Yq.2.2.2.2.2.1,Yq.2.2.2.2.2.2.1,Yq.2.2.2.2.2.2.2.1,Yq.2.2.2.2.2.2.2.2.1,Yq.2.2.2.2.2.2.2.2.2.1,Yq.2.2.2.2.2.2.2.2.2.2.1,Yq.2.2.2.2.2.2.2.2.2.2.2,true))) else (some (0,(⟨#[]⟩ : ByteArray),false,(⟨#[]⟩ : ByteArray),0,0,0,0,false,false,0,0,false))) = some (r1,r2,r3,r4,r5,r6,r7,r8,r9,Fx,Fy,r12,r13) := H
    have A36 := Za.mk Jes
    clear Jes
    by_cases c37 : Jsy = true
    ·subst c37
     have H1 : ((Dk.f Jbw).bind fun Yq => (some (Yq.1,Yq.2.1,Yq.2.2.1,Yq.2.2.2.1,Yq.2.2.2.2.1,Yq.2.2.2.2.2.1,Yq.2.2.2.2.2.2.1,Yq.2.2.2.2.2.2.2.1,Yq.2.2.2.2.2.2.2.2.1,Yq.2.2.2.2.2.2.2.2.2.1,Yq.2.2.2.2.2.2.2.2.2.2.1,Yq.2.2.2.2.2.2.2.2.2.2.2,true))) = some (r1,r2,r3,r4,r5,r6,r7,r8,r9,Fx,Fy,r12,r13) := by rw [if_pos rfl] at H;exact H
     clear H
     have H := H1
     clear H1
     replace H := Option.bind_eq_some_iff.mp H
     obtain ⟨⟨Zg0,Zko,t182,t183,Zsy,Zvi,Z0o,Z3e,Jbx,Jet,Jin,Jo2⟩,Zqs,H⟩ := H
     replace H : (some (Zg0,Zko,t182,t183,Zsy,Zvi,Z0o,Z3e,Jbx,Jet,Jin,Jo2,true)) = some (r1,r2,r3,r4,r5,r6,r7,r8,r9,Fx,Fy,r12,r13) := H
     have A38 := Za.mk Zqs
     clear Zqs
     simp only [Option.some.injEq,Prod.mk.injEq] at H
     obtain ⟨rfl,rfl,rfl,rfl,rfl,rfl,rfl,rfl,rfl,rfl,rfl,rfl,rfl⟩ := H
     go_enter Tryz.func17,Tryz.ntmps17
     go_wp2_with (first | ((with_reducible refine Jg (N := 1) rfl ?_);refine Je ?hg (N := 1) ?hd (cs := #[.string Z5,.int .i64 Jb,.string Jc]) (t := 44) ?hr ?_;(case hd => rfl);(case hg => rfl);(case hr => exact Q0);intro Yz hg w39 hbox hb;have Kr := Za.mk (hbox);have Z0j := Za.mk ((Xv : w.heap.size ≤ Yz));have Zlu := Za.mk ((Xv : w.heap.size ≤ Yz));replace HB := Za.mk (Zm Qw hb);clear hb hbox hg) | ((with_reducible refine Jg (N := 2) rfl ?_);refine Je ?hg (N := 2) ?hd (cs := #[.int .i64 0,.string (⟨#[]⟩ : ByteArray),.bool false,.string (⟨#[]⟩ : ByteArray),.int .i64 0,.int .i64 0,.int .i64 0,.int .i64 0,.bool false,.bool false,.int .i64 0,.int .i64 0]) (t := 51) ?hr ?_;(case hd => rfl);(case hg => rfl);(case hr => exact Q0);intro Y0 hg w40 hbox hb;have K7 := Za.mk (hbox);have Z0k := Za.mk ((Ye : w.heap.size ≤ Y0));have Zq2 := Za.mk ((Ye : w.heap.size ≤ Y0));replace HB := Za.mk (Zm Yb hb);have K8 := Za.mk ((Qg : Yz ≠ Y0));have K9 := Za.mk ((Dx : Y0 ≠ Yz));replace Kr := Za.mk (Zw (g := Yz) (o := .cells #[.string Z5,.int .i64 Jb,.string Jc] 44 (0,0)) J5 hb);clear hb hbox hg;have Js0 := K8.out;have Js1 := K9.out;obtain ⟨Z5j,Z5k,Z5l,Z5m,Z5n,Z5o⟩ := Va Kr.out) | ((with_reducible refine Z7 (f := 29) rfl ?_);refine Ju (some 33) rfl rfl Tryz.func29 (by kernel_rfl) rfl #[.string Jc] rfl Wp ?_;(with_reducible refine (Qm.calls Jc Jbw true _ A36.out).mono ?_);rintro e w43 ⟨rfl,hb⟩;refine ⟨_,rfl,?_⟩;replace Kr := Za.mk (Zw (g := Yz) (o := .cells #[.string Z5,.int .i64 Jb,.string Jc] 44 (0,0)) J5 hb);replace K7 := Za.mk (Zw (g := Y0) (o := .cells #[.int .i64 0,.string (⟨#[]⟩ : ByteArray),.bool false,.string (⟨#[]⟩ : ByteArray),.int .i64 0,.int .i64 0,.int .i64 0,.int .i64 0,.bool false,.bool false,.int .i64 0,.int .i64 0] 51 (0,0)) Xu hb);replace HB := Za.mk (Zm Vz hb);(try clear hb);(try clear hb2);(try clear hk);(try clear hi)) | ((with_reducible refine Z7 (f := 30) rfl ?_);refine Ju (some 38) rfl rfl Tryz.func30 (by kernel_rfl) rfl #[.int .i64 Jbw] rfl Wp ?_;(with_reducible refine (Dk.calls Jbw Zg0 Zko t182 t183 Zsy Zvi Z0o Z3e Jbx Jet Jin Jo2 _ A38.out).mono ?_);rintro e w44 ⟨rfl,hb⟩;refine ⟨_,rfl,?_⟩;replace Kr := Za.mk (Zw (g := Yz) (o := .cells #[.string Z5,.int .i64 Jb,.string Jc] 44 (0,0)) J5 hb);replace K7 := Za.mk (Zw (g := Y0) (o := .cells #[.int .i64 0,.string (⟨#[]⟩ : ByteArray),.bool false,.string (⟨#[]⟩ : ByteArray),.int .i64 0,.int .i64 0,.int .i64 0,.int .i64 0,.bool false,.bool false,.int .i64 0,.int .i64 0] 51 (0,0)) Xu hb);replace HB := Za.mk (Zm Vz hb);(try clear hb);(try clear hb2);(try clear hk);(try clear hi);obtain ⟨yh,yj,yl,ym,yn,yo,yt,yu,J4t,J4u,Js2,Js3,yw,yx,yz,xc,xe,xg,xh,xk,J4v,J4w,Js4,Js5⟩ := Xk K7.out))
     refine bodyPost_ret (Vr rfl _ _ Y0 51 #[.int .i64 Zg0,.string Zko,.bool t182,.string t183,.int .i64 Zsy,.int .i64 Zvi,.int .i64 Z0o,.int .i64 Z3e,.bool Jbx,.bool Jet,.int .i64 Jin,.int .i64 Jo2] (0,0) _ rfl (by (with_reducible repeat (first | refine Zc ?_ _ | refine Zf ?_ | refine Zb ?_ _));refine Zo (cs := #[.int .i64 Zg0,.string Zko,.bool t182,.string t183,.int .i64 Zsy,.int .i64 Zvi,.int .i64 Z0o,.int .i64 Z3e,.bool Jbx,.bool Jet,.int .i64 Jin,.int .i64 0]) ?_ 11 _ rfl;(with_reducible repeat (first | refine Zc ?_ _ | refine Zf ?_ | refine Zb ?_ _));refine Zo (cs := #[.int .i64 Zg0,.string Zko,.bool t182,.string t183,.int .i64 Zsy,.int .i64 Zvi,.int .i64 Z0o,.int .i64 Z3e,.bool Jbx,.bool Jet,.int .i64 0,.int .i64 0]) ?_ 10 _ rfl;(with_reducible repeat (first | refine Zc ?_ _ | refine Zf ?_ | refine Zb ?_ _));refine Zo (cs := #[.int .i64 Zg0,.string Zko,.bool t182,.string t183,.int .i64 Zsy,.int .i64 Zvi,.int .i64 Z0o,.int .i64 Z3e,.bool Jbx,.bool false,.int .i64 0,.int .i64 0]) ?_ 9 _ rfl;(with_reducible repeat (first | refine Zc ?_ _ | refine Zf ?_ | refine Zb ?_ _));refine Zo (cs := #[.int .i64 Zg0,.string Zko,.bool t182,.string t183,.int .i64 Zsy,.int .i64 Zvi,.int .i64 Z0o,.int .i64 Z3e,.bool false,.bool false,.int .i64 0,.int .i64 0]) ?_ 8 _ rfl;(with_reducible repeat (first | refine Zc ?_ _ | refine Zf ?_ | refine Zb ?_ _));refine Zo (cs := #[.int .i64 Zg0,.string Zko,.bool t182,.string t183,.int .i64 Zsy,.int .i64 Zvi,.int .i64 Z0o,.int .i64 0,.bool false,.bool false,.int .i64 0,.int .i64 0]) ?_ 7 _ rfl;(with_reducible repeat (first | refine Zc ?_ _ | refine Zf ?_ | refine Zb ?_ _));refine Zo (cs := #[.int .i64 Zg0,.string Zko,.bool t182,.string t183,.int .i64 Zsy,.int .i64 Zvi,.int .i64 0,.int .i64 0,.bool false,.bool false,.int .i64 0,.int .i64 0]) ?_ 6 _ rfl;(with_reducible repeat (first | refine Zc ?_ _ | refine Zf ?_ | refine Zb ?_ _));refine Zo (cs := #[.int .i64 Zg0,.string Zko,.bool t182,.string t183,.int .i64 Zsy,.int .i64 0,.int .i64 0,.int .i64 0,.bool false,.bool false,.int .i64 0,.int .i64 0]) ?_ 5 _ rfl;(with_reducible repeat (first | refine Zc ?_ _ | refine Zf ?_ | refine Zb ?_ _));refine Zo (cs := #[.int .i64 Zg0,.string Zko,.bool t182,.string t183,.int .i64 0,.int .i64 0,.int .i64 0,.int .i64 0,.bool false,.bool false,.int .i64 0,.int .i64 0]) ?_ 4 _ rfl;(with_reducible repeat (first | refine Zc ?_ _ | refine Zf ?_ | refine Zb ?_ _));refine Zo (cs := #[.int .i64 Zg0,.string Zko,.bool t182,.string (⟨#[]⟩ : ByteArray),.int .i64 0,.int .i64 0,.int .i64 0,.int .i64 0,.bool false,.bool false,.int .i64 0,.int .i64 0]) ?_ 3 _ rfl;(with_reducible repeat (first | refine Zc ?_ _ | refine Zf ?_ | refine Zb ?_ _));refine Zo (cs := #[.int .i64 Zg0,.string Zko,.bool false,.string (⟨#[]⟩ : ByteArray),.int .i64 0,.int .i64 0,.int .i64 0,.int .i64 0,.bool false,.bool false,.int .i64 0,.int .i64 0]) ?_ 2 _ rfl;(with_reducible repeat (first | refine Zc ?_ _ | refine Zf ?_ | refine Zb ?_ _));refine Zo (cs := #[.int .i64 Zg0,.string (⟨#[]⟩ : ByteArray),.bool false,.string (⟨#[]⟩ : ByteArray),.int .i64 0,.int .i64 0,.int .i64 0,.int .i64 0,.bool false,.bool false,.int .i64 0,.int .i64 0]) ?_ 1 _ rfl;(with_reducible repeat (first | refine Zc ?_ _ | refine Zf ?_ | refine Zb ?_ _));refine Zo (cs := #[.int .i64 0,.string (⟨#[]⟩ : ByteArray),.bool false,.string (⟨#[]⟩ : ByteArray),.int .i64 0,.int .i64 0,.int .i64 0,.int .i64 0,.bool false,.bool false,.int .i64 0,.int .i64 0]) ?_ 0 _ rfl;(with_reducible repeat (first | refine Zc ?_ _ | refine Zf ?_ | refine Zb ?_ _));exact K7.out) Tryz.underlying51 rfl (by kernel_rfl)) rfl ?_
     exact ⟨Sy,Vz⟩
    ·replace c37 := Bool.eq_false_iff.mpr c37
     subst c37
     have H1 : (some (0,(⟨#[]⟩ : ByteArray),false,(⟨#[]⟩ : ByteArray),0,0,0,0,false,false,0,0,false)) = some (r1,r2,r3,r4,r5,r6,r7,r8,r9,Fx,Fy,r12,r13) := by rw [if_neg (show ¬ (false = true) by decide)] at H;exact H
     clear H
     have H := H1
     clear H1
     simp only [Option.some.injEq,Prod.mk.injEq] at H
     obtain ⟨rfl,rfl,rfl,rfl,rfl,rfl,rfl,rfl,rfl,rfl,rfl,rfl,rfl⟩ := H
     go_enter Tryz.func17,Tryz.ntmps17
     go_wp2_with (first | ((with_reducible refine Jg (N := 1) rfl ?_);refine Je ?hg (N := 1) ?hd (cs := #[.string Z5,.int .i64 Jb,.string Jc]) (t := 44) ?hr ?_;(case hd => rfl);(case hg => rfl);(case hr => exact Q0);intro Yz hg w46 hbox hb;have Kr := Za.mk (hbox);have Z0j := Za.mk ((Xv : w.heap.size ≤ Yz));have Zlu := Za.mk ((Xv : w.heap.size ≤ Yz));replace HB := Za.mk (Zm Qw hb);clear hb hbox hg) | ((with_reducible refine Jg (N := 2) rfl ?_);refine Je ?hg (N := 2) ?hd (cs := #[.int .i64 0,.string (⟨#[]⟩ : ByteArray),.bool false,.string (⟨#[]⟩ : ByteArray),.int .i64 0,.int .i64 0,.int .i64 0,.int .i64 0,.bool false,.bool false,.int .i64 0,.int .i64 0]) (t := 51) ?hr ?_;(case hd => rfl);(case hg => rfl);(case hr => exact Q0);intro Y0 hg w47 hbox hb;have K7 := Za.mk (hbox);have Z0k := Za.mk ((Ye : w.heap.size ≤ Y0));have Zq2 := Za.mk ((Ye : w.heap.size ≤ Y0));replace HB := Za.mk (Zm Yb hb);have K8 := Za.mk ((Qg : Yz ≠ Y0));have K9 := Za.mk ((Dx : Y0 ≠ Yz));replace Kr := Za.mk (Zw (g := Yz) (o := .cells #[.string Z5,.int .i64 Jb,.string Jc] 44 (0,0)) J5 hb);clear hb hbox hg;have Js6 := K8.out;have Js7 := K9.out;obtain ⟨Pj,Pk,Pm,Pn,Po,Pp⟩ := Va Kr.out) | ((with_reducible refine Z7 (f := 29) rfl ?_);refine Ju (some 33) rfl rfl Tryz.func29 (by kernel_rfl) rfl #[.string Jc] rfl Wp ?_;(with_reducible refine (Qm.calls Jc Jbw false _ A36.out).mono ?_);rintro e w50 ⟨rfl,hb⟩;refine ⟨_,rfl,?_⟩;replace Kr := Za.mk (Zw (g := Yz) (o := .cells #[.string Z5,.int .i64 Jb,.string Jc] 44 (0,0)) J5 hb);replace K7 := Za.mk (Zw (g := Y0) (o := .cells #[.int .i64 0,.string (⟨#[]⟩ : ByteArray),.bool false,.string (⟨#[]⟩ : ByteArray),.int .i64 0,.int .i64 0,.int .i64 0,.int .i64 0,.bool false,.bool false,.int .i64 0,.int .i64 0] 51 (0,0)) Xu hb);replace HB := Za.mk (Zm Vz hb);(try clear hb);(try clear hb2);(try clear hk);(try clear hi);obtain ⟨J4x,J4y,J4z,J40,J41,J42,J43,J44,J45,J46,Js8,Js9,J47,J48,J49,J5a,J5b,J5c,J5d,J5e,J5f,J5g,Jta,Jtb⟩ := Xk K7.out))
     refine bodyPost_ret (Vr rfl _ _ Y0 51 #[.int .i64 0,.string (⟨#[]⟩ : ByteArray),.bool false,.string (⟨#[]⟩ : ByteArray),.int .i64 0,.int .i64 0,.int .i64 0,.int .i64 0,.bool false,.bool false,.int .i64 0,.int .i64 0] (0,0) _ rfl Vh Tryz.underlying51 rfl (by kernel_rfl)) rfl ?_
     exact ⟨Sy,Vz⟩
   ·rw [if_neg jc] at H
    have Za4 : (Jb == 2) = false := beq_eq_false_iff_ne.mpr jc
    have Zfg : (Jb != 2) = true := bne_iff_ne.mpr jc
    simp only [Option.some.injEq,Prod.mk.injEq] at H
    obtain ⟨rfl,rfl,rfl,rfl,rfl,rfl,rfl,rfl,rfl,rfl,rfl,rfl,rfl⟩ := H
    go_enter Tryz.func17,Tryz.ntmps17
    go_wp2_with (first | ((with_reducible refine Jg (N := 1) rfl ?_);refine Je ?hg (N := 1) ?hd (cs := #[.string Z5,.int .i64 Jb,.string Jc]) (t := 44) ?hr ?_;(case hd => rfl);(case hg => rfl);(case hr => exact Q0);intro Yz hg w52 hbox hb;have Kr := Za.mk (hbox);have Z0j := Za.mk ((Xv : w.heap.size ≤ Yz));have Zlu := Za.mk ((Xv : w.heap.size ≤ Yz));replace HB := Za.mk (Zm Qw hb);clear hb hbox hg) | ((with_reducible refine Jg (N := 2) rfl ?_);refine Je ?hg (N := 2) ?hd (cs := #[.int .i64 0,.string (⟨#[]⟩ : ByteArray),.bool false,.string (⟨#[]⟩ : ByteArray),.int .i64 0,.int .i64 0,.int .i64 0,.int .i64 0,.bool false,.bool false,.int .i64 0,.int .i64 0]) (t := 51) ?hr ?_;(case hd => rfl);(case hg => rfl);(case hr => exact Q0);intro Y0 hg w53 hbox hb;have K7 := Za.mk (hbox);have Z0k := Za.mk ((Ye : w.heap.size ≤ Y0));have Zq2 := Za.mk ((Ye : w.heap.size ≤ Y0));replace HB := Za.mk (Zm Yb hb);have K8 := Za.mk ((Qg : Yz ≠ Y0));have K9 := Za.mk ((Dx : Y0 ≠ Yz));replace Kr := Za.mk (Zw (g := Yz) (o := .cells #[.string Z5,.int .i64 Jb,.string Jc] 44 (0,0)) J5 hb);clear hb hbox hg;have Vfx := K8.out;have Vfy := K9.out;obtain ⟨Zvj,Zvk,Zvl,Zvm,Zvn,Zvo⟩ := Va Kr.out;obtain ⟨Z5p,Z5q,Z5r,Z5s,Z5t,Z5u,Z5v,Z5w,J5h,J5i,Jtc,Jtd,Z5x,Z5y,Z5z,Z50,Z51,Z52,Z53,Z54,J5j,J5k,Jte,Jtf⟩ := Xk K7.out))
    refine bodyPost_ret (Vr rfl _ _ Y0 51 #[.int .i64 0,.string (⟨#[]⟩ : ByteArray),.bool false,.string (⟨#[]⟩ : ByteArray),.int .i64 0,.int .i64 0,.int .i64 0,.int .i64 0,.bool false,.bool false,.int .i64 0,.int .i64 0] (0,0) _ rfl Vh Tryz.underlying51 rfl (by kernel_rfl)) rfl ?_
    exact ⟨Sy,Vz⟩
end Go.Proofs.YtdhpcofnddkcaaaGreatDoor.S
namespace Go.Proofs.YtdhpcofnddkcaaaGreatDoor.S
open Go.RowKit Go.Proofs.YtdhpcofnddkcaaaGreatDoor.G Go.Proofs.YtdhpcofnddkcaaaGreatDoorW.PrintWords Go.Proofs.YtdhpcofnddkcaaaGreatDoorW.PrintLast Go.Proofs.YtdhpcofnddkcaaaGreatDoorW.PrintMore
set_option linter.unusedVariables false
set_option linter.unusedSimpArgs false
theorem Zq5 {α : Type} (c : Prop) [Decidable c] (x : α) : (if c then some x else none).isSome = decide c := by
  by_cases h : c
  · rw [if_pos h,decide_eq_true h];rfl
  · rw [if_neg h,decide_eq_false h];rfl
theorem Z0p (neg : Bool) (R : List UInt8) : (Ll neg R).2.2.2 = (Zkk R).isSome := by
  unfold Ll
  cases Zkk R <;> rfl
theorem Zq6 {α : Type} (l : List α) : (!l.isEmpty) = decide (l ≠ []) := by cases l <;> rfl
theorem Zq7 (s : ByteArray) : (Ll (dh s) (Gx s)).2.2.2 = Jbp (bl s) := by
  rw [Z0p]
  unfold Zkk Jbp Gx
  show _ = (!(ahead (Lib.trimPrefix (bl s) [45])).isEmpty && (ahead (Lib.trimPrefix (bl s) [45])).all Qt && _)
  generalize Lib.trimPrefix (bl s) [45] = R
  cases hB : behind R with
  | nil =>
    have hR : R = ahead R := by
      have := Sz R
      rw [hB,List.append_nil] at this
      exact this
    rw [← hR,Zq6]
    show (if R ≠ [] ∧ Kv R = true ∧ R.length ≤ 40 then some (R,0) else none).isSome = (decide (R ≠ []) && Kv R && decide (R.length ≤ 40))
    rw [Zq5,Bool.eq_iff_iff]
    simp only [decide_eq_true_eq,Bool.and_eq_true,and_assoc]
  | cons z P =>
    rw [Zq6]
    show (if Kv (ahead R) = true ∧ ahead R ≠ [] ∧ P ≠ [] ∧ Kv P = true ∧ (ahead R ++ P).length ≤ 40 then some (ahead R ++ P,P.length) else none).isSome = (decide (ahead R ≠ []) && Kv (ahead R) && (!P.isEmpty && Kv P && decide ((ahead R).length + P.length ≤ 40)))
    rw [Zq5,Bool.eq_iff_iff,Zq6,List.length_append]
    simp only [decide_eq_true_eq,Bool.and_eq_true]
    exact ⟨fun ⟨a,b,c,d,e⟩ => ⟨⟨b,a⟩,⟨⟨c,d⟩,e⟩⟩,fun ⟨⟨b,a⟩,⟨⟨c,d⟩,e⟩⟩ => ⟨a,b,c,d,e⟩⟩
abbrev VT := Int × ByteArray × Bool × ByteArray × Int × Int × Int × Int × Bool × Bool × Int × Int × Bool
def noV : VT := (0,⟨#[]⟩,false,⟨#[]⟩,0,0,0,0,false,false,0,0,false)
def Zvp (kind : Int) (text : ByteArray) : VT :=
  if kind = 0 then (0,text,false,⟨#[]⟩,0,0,0,0,false,false,0,0,true)
  else if kind = 1 then (if Jbp (bl text) = true then (1,⟨#[]⟩,(Ll (dh text) (Gx text)).1,(Ll (dh text) (Gx text)).2.1,(Ll (dh text) (Gx text)).2.2.1,1,0,3,false,false,0,0,true) else noV)
  else if kind = 2 then (match Net.Ze7 (bl text) with
    | some n => (2,⟨#[]⟩,false,⟨#[]⟩,0,0,0,0,false,false,n,0,true)
    | none => noV)
  else noV
theorem Jio (name : ByteArray) (kind : Int) (text : ByteArray) : (Zvp kind text).2.2.2.2.2.2.2.2.2.2.2.2 = Fh (name,kind,text) := by
  unfold Zvp Fh
  show _ = (if kind = 0 then true else if kind = 1 then Jbp (bl text) else if kind = 2 then (Net.Ze7 (bl text)).isSome else false)
  by_cases h0 : kind = 0
  · rw [if_pos h0,if_pos h0]
  · rw [if_neg h0,if_neg h0]
    by_cases h1 : kind = 1
    · rw [if_pos h1,if_pos h1]
      cases Jbp (bl text) <;> rfl
    · rw [if_neg h1,if_neg h1]
      by_cases h2 : kind = 2
      · rw [if_pos h2,if_pos h2]
        cases Net.Ze7 (bl text) <;> rfl
      · rw [if_neg h2,if_neg h2]
        rfl
theorem Jip (name : ByteArray) (kind : Int) (text : ByteArray) (hs : text.size ≤ 100000) : Qi.f name kind text = some (Zvp kind text) := by
  unfold Qi.f Zvp
  by_cases h0 : kind = 0
  · rw [if_pos h0,if_pos h0]
    rfl
  · rw [if_neg h0,if_neg h0]
    by_cases h1 : kind = 1
    · rw [if_pos h1,if_pos h1,Jem text hs,Option.bind_some,← Zq7]
      cases (Ll (dh text) (Gx text)).2.2.2 <;> rfl
    · rw [if_neg h1,if_neg h1]
      by_cases h2 : kind = 2
      · rw [if_pos h2,if_pos h2]
        obtain ⟨v,b,hf,hm⟩ := Zz1 text (by omega)
        rw [hf,Option.bind_some]
        show (if b = true then _ else _) = _
        have hm' : (match Net.Ze7 (bl text) with | some n => v = n ∧ b = true | none => b = false) := hm
        revert hm'
        cases Net.Ze7 (bl text) with
        | none =>
          intro hm'
          have hm'' : b = false := hm'
          subst hm''
          rfl
        | some n =>
          intro hm'
          obtain ⟨rfl,rfl⟩ := hm'
          rfl
      · rw [if_neg h2,if_neg h2]
        rfl
end Go.Proofs.YtdhpcofnddkcaaaGreatDoor.S
namespace Go.Proofs.YtdhpcofnddkcaaaGreatDoor.S
open Go.RowKit Go.Proofs.YtdhpcofnddkcaaaGreatDoor.G Go.Proofs.YtdhpcofnddkcaaaGreatDoorW.PrintWords Go.Proofs.YtdhpcofnddkcaaaGreatDoorW.PrintLast Go.Proofs.YtdhpcofnddkcaaaGreatDoorW.PrintMore
set_option linter.unusedVariables false
set_option linter.unusedSimpArgs false
namespace Jtg
theorem Vh {p_ : Prop} (h_ : p_ := by repeat (first | exact Kn.refl _ | apply Kn.step)) : p_ := h_
theorem J5 {p_ : Prop} (h_ : p_ := by first | rfl | (simp;done) | (simp [*];done)) : p_ := h_
theorem Vz {p_ : Prop} (h_ : p_ := by first | (with_reducible assumption) | assumption) : p_ := h_
theorem Yb {p_ : Prop} (h_ : p_ := by have := HJ1.out;have := HJ5.out;first | omega | exact Nat.le_refl _) : p_ := h_
end Jtg
open Jtg
mutual
def Zt.j0 : Nat → ByteArray → ByteArray → Bool → Option (Int × Bool)
 | 0,_,_,_ => none
 | k + 1,x0,x4,x14 => if x14 = true then (if 1 ≤ (x4.size : Int) then (if (x4.extract 1 x4.size).toList = ([48] : List UInt8) then (some (0,false)) else (Zt.j1 k x0 (x4.extract 1 x4.size))) else (none)) else (Zt.j1 k x0 x4)
def Zt.j1 : Nat → ByteArray → ByteArray → Option (Int × Bool)
 | 0,_,_ => none
 | k + 1,x0,x4 => if x4.toList = ([] : List UInt8) then (Zt.j2 k x0 x4 true) else (if (x4.size : Int) > 16 then (Zt.j2 k x0 x4 true) else (if (x4.size : Int) > 1 then (if 0 < (x4.size : Int) then (Zt.j2 k x0 x4 ((bt x4 0) == 48)) else (none)) else (Zt.j2 k x0 x4 false)))
def Zt.j2 : Nat → ByteArray → ByteArray → Bool → Option (Int × Bool)
 | 0,_,_,_ => none
 | k + 1,x0,x4,x35 => if x35 = true then (some (0,false)) else (Zt.l0 k x0 x4 0 0)
def Zt.l0 : Nat → ByteArray → ByteArray → Int → Int → Option (Int × Bool)
 | 0,_,_,_,_ => none
 | k + 1,x0,x4,x5,x6 => if x6 < (x4.size : Int) then (if 0 ≤ x6 then (if (bt x4 x6) < 48 then (some (0,false)) else (if (bt x4 x6) > 57 then (some (0,false)) else (Zt.l0 k x0 x4 (wrap64 ((wrap64 (10 * x5)) + (((bt x4 x6) - 48) % 256))) (wrap64 (x6 + 1))))) else (none)) else (if x4.toList = x0.toList then (if x5 ≥ (-9007199254740992) then (some (x5,decide (x5 ≤ 9007199254740992))) else (some (x5,false))) else (if (wrap64 (-x5)) ≥ (-9007199254740992) then (some (wrap64 (-x5),decide ((wrap64 (-x5)) ≤ 9007199254740992))) else (some (wrap64 (-x5),false))))
end
def Zt.f (k : Nat) (a0 : ByteArray) : Option (Int × Bool) := if a0.toList = ([] : List UInt8) then (Zt.j0 k a0 a0 false) else (if 0 < (a0.size : Int) then (Zt.j0 k a0 a0 ((bt a0 0) == 45)) else (none))
theorem Zt.Xy : ∀ k,(∀ y0 y1 y2,Jz (Zt.j0 k y0 y1 y2) (Zt.j0 (k + 1) y0 y1 y2)) ∧ (∀ y0 y1,Jz (Zt.j1 k y0 y1) (Zt.j1 (k + 1) y0 y1)) ∧ (∀ y0 y1 y2,Jz (Zt.j2 k y0 y1 y2) (Zt.j2 (k + 1) y0 y1 y2)) ∧ (∀ y0 y1 y2 y3,Jz (Zt.l0 k y0 y1 y2 y3) (Zt.l0 (k + 1) y0 y1 y2 y3))
 | 0 => ⟨fun _ _ _ r h => by simp [Zt.j0] at h,fun _ _ r h => by simp [Zt.j1] at h,fun _ _ _ r h => by simp [Zt.j2] at h,fun _ _ _ _ r h => by simp [Zt.l0] at h⟩
 | k + 1 => by
  obtain ⟨ih0,ih1,ih2,ih3⟩ := Zt.Xy k
  refine ⟨?_,?_,?_,?_⟩
  ·intro y0 y1 y2
   unfold Zt.j0
   repeat' first
   | (with_reducible exact ih0 _ _ _)
   | (with_reducible exact ih1 _ _)
   | (with_reducible exact ih2 _ _ _)
   | (with_reducible exact ih3 _ _ _ _)
   | (with_reducible exact Jz.refl _)
   | (with_reducible exact Jz.none _)
   | (with_reducible refine Jz.ite ?_ ?_)
   | (with_reducible refine Jz.bind ?_ (fun _ => ?_))
   | exact ih0 _ _ _
   | exact ih1 _ _
   | exact ih2 _ _ _
   | exact ih3 _ _ _ _
   | exact Jz.none _
   | refine Jz.ite ?_ ?_
   | refine Jz.bind ?_ (fun _ => ?_)
  ·intro y0 y1
   unfold Zt.j1
   repeat' first
   | (with_reducible exact ih0 _ _ _)
   | (with_reducible exact ih1 _ _)
   | (with_reducible exact ih2 _ _ _)
   | (with_reducible exact ih3 _ _ _ _)
   | (with_reducible exact Jz.refl _)
   | (with_reducible exact Jz.none _)
   | (with_reducible refine Jz.ite ?_ ?_)
   | (with_reducible refine Jz.bind ?_ (fun _ => ?_))
   | exact ih0 _ _ _
   | exact ih1 _ _
   | exact ih2 _ _ _
   | exact ih3 _ _ _ _
   | exact Jz.none _
   | refine Jz.ite ?_ ?_
   | refine Jz.bind ?_ (fun _ => ?_)
  ·intro y0 y1 y2
   unfold Zt.j2
   repeat' first
   | (with_reducible exact ih0 _ _ _)
   | (with_reducible exact ih1 _ _)
   | (with_reducible exact ih2 _ _ _)
   | (with_reducible exact ih3 _ _ _ _)
   | (with_reducible exact Jz.refl _)
   | (with_reducible exact Jz.none _)
   | (with_reducible refine Jz.ite ?_ ?_)
   | (with_reducible refine Jz.bind ?_ (fun _ => ?_))
   | exact ih0 _ _ _
   | exact ih1 _ _
   | exact ih2 _ _ _
   | exact ih3 _ _ _ _
   | exact Jz.none _
   | refine Jz.ite ?_ ?_
   | refine Jz.bind ?_ (fun _ => ?_)
  ·intro y0 y1 y2 y3
   unfold Zt.l0
   repeat' first
   | (with_reducible exact ih0 _ _ _)
   | (with_reducible exact ih1 _ _)
   | (with_reducible exact ih2 _ _ _)
   | (with_reducible exact ih3 _ _ _ _)
   | (with_reducible exact Jz.refl _)
   | (with_reducible exact Jz.none _)
   | (with_reducible refine Jz.ite ?_ ?_)
   | (with_reducible refine Jz.bind ?_ (fun _ => ?_))
   | exact ih0 _ _ _
   | exact ih1 _ _
   | exact ih2 _ _ _
   | exact ih3 _ _ _ _
   | exact Jz.none _
   | refine Jz.ite ?_ ?_
   | refine Jz.bind ?_ (fun _ => ?_)
theorem Zt.mono : ∀ a0 k,Jz (Zt.f k a0) (Zt.f (k + 1) a0) := by
 intro a0 k
 obtain ⟨ih0,ih1,ih2,ih3⟩ := Zt.Xy k
 unfold Zt.f
 repeat' first
   | (with_reducible exact ih0 _ _ _)
   | (with_reducible exact ih1 _ _)
   | (with_reducible exact ih2 _ _ _)
   | (with_reducible exact ih3 _ _ _ _)
   | (with_reducible exact Jz.refl _)
   | (with_reducible exact Jz.none _)
   | (with_reducible refine Jz.ite ?_ ?_)
   | (with_reducible refine Jz.bind ?_ (fun _ => ?_))
   | exact ih0 _ _ _
   | exact ih1 _ _
   | exact ih2 _ _ _
   | exact ih3 _ _ _ _
   | exact Jz.none _
   | refine Jz.ite ?_ ?_
   | refine Jz.bind ?_ (fun _ => ?_)
set_option maxHeartbeats 8000000 in
set_option maxRecDepth 100000 in
theorem Zt.calls (k : Nat) (a0 : ByteArray) (r1 : Int) (r2 : Bool) (w : World) (h : Zt.f k a0 = some (r1,r2)) :
  Calls Tryz.prog 32 #[.string a0] w fun e w' => e = .returned (.tuple #[.int .i64 r1,.bool r2]) ∧ Kn w w' := by
 have H : (if a0.toList = ([] : List UInt8) then (Zt.j0 k a0 a0 false) else (if 0 < (a0.size : Int) then (Zt.j0 k a0 a0 ((bt a0 0) == 45)) else (none))) = some (r1,r2) := h
 clear h
 have HC2 := Za.mk H
 clear H
 go_enter Tryz.func32,Tryz.ntmps32
 go_upto_region 2 with (fail)
 go_cut [14] (fun v14 wc => ∃ (kq : Nat) (Z55 : Bool),v14 = .bool Z55 ∧ Za (Zt.j0 kq a0 a0 Z55 = some (r1,r2)) ∧ Za (kq ≤ k) ∧ Kn w wc)
 case first =>
  have H := HC2.out
  clear HC2
  by_cases c3 : a0.toList = ([] : List UInt8)
  ·rw [if_pos c3] at H
   have ww : (a0.toList == ([] : List UInt8)) = true := beq_iff_eq.mpr c3
   have Zg1 : (a0.toList != ([] : List UInt8)) = false := bne_eq_false_iff_eq.mpr c3
   clear c3
   (first | rw [ww] | (simp only [Jo,Jq];rw [ww]) | skip)
   have H' := Za.mk H
   clear H
   go_wp2
   go_meet
   case rel => exact ⟨_,(false),J5,H',⟨(by first | omega | exact Nat.le_refl _)⟩,Vh⟩
  ·rw [if_neg c3] at H
   have ww : (a0.toList == ([] : List UInt8)) = false := beq_eq_false_iff_ne.mpr c3
   have Zg1 : (a0.toList != ([] : List UInt8)) = true := bne_iff_ne.mpr c3
   (first | rw [ww] | (simp only [Jo,Jq];rw [ww]) | skip)
   by_cases c4 : 0 < (a0.size : Int)
   ·rw [if_pos c4] at H
    have Sj : decide (0 < (a0.size : Int)) = true := decide_eq_true c4
    have Zgi : decide (0 < a0.size) = true := decide_eq_true (by omega)
    clear c4
    have H' := Za.mk H
    clear H
    have p5 : 0 ≤ (0 : Int) := (by omega)
    have q5 : 0 < a0.size := (by have : (0 : Int) < (a0.size : Int) := of_decide_eq_true Vz;omega)
    have hx5 : ∀ h : 0 < a0.size,((a0[0]'h).toNat : Int) = bt a0 0 := Fz a0 0
    clear p5
    have qi5 : (0 < (a0.size : Int)) = True := eq_true (of_decide_eq_true Vz)
    replace q5 := eq_true q5
    go_wp2
    go_meet
    case rel => exact ⟨_,(((bt a0 0) == 45)),J5,H',⟨(by first | omega | exact Nat.le_refl _)⟩,Vh⟩
   ·rw [if_neg c4] at H
    exact absurd H (by simp)
 case rest =>
  clear HC2
  try clear p2
  try clear c3
  try clear ww
  try clear Zg1
  try clear c4
  try clear Sj
  try clear Zgi
  try clear p5
  try clear q5
  try clear hx5
  try clear qi5
  try clear p5
  try clear q5
  obtain ⟨kq,Z55,rfl,HA,HJ1,⟨mc1,rfl⟩⟩ := hcut
  cases kq with
  | zero => exact absurd HA.out (by simp [Zt.j0])
  | succ kj1 =>
   have H := HA.out
   clear HA
   simp only [Zt.j0] at H
   have HC6 := Za.mk H
   clear H
   go_upto_if 14 with (fail)
   go_cut [4] (fun v4 wc => ∃ (kq : Nat) (Xz : ByteArray),v4 = .string Xz ∧ Za (Zt.j1 kq a0 Xz = some (r1,r2)) ∧ Za (kq ≤ kj1) ∧ Kn w wc)
   case first =>
    have H := HC6.out
    clear HC6
    by_cases c7 : Z55 = true
    ·subst c7
     have H1 : (if 1 ≤ (a0.size : Int) then (if (a0.extract 1 a0.size).toList = ([48] : List UInt8) then (some (0,false)) else (Zt.j1 kj1 a0 (a0.extract 1 a0.size))) else (none)) = some (r1,r2) := by rw [if_pos rfl] at H;exact H
     clear H
     have H := H1
     clear H1
     by_cases c8 : 1 ≤ (a0.size : Int)
     ·rw [if_pos c8] at H
      have Zfr := eq_true c8
      have Zvq : decide (1 ≤ (a0.size : Int)) = true := decide_eq_true c8
      clear c8
      by_cases c9 : (a0.extract 1 a0.size).toList = ([48] : List UInt8)
      ·rw [if_pos c9] at H
       have Hl : ((a0.extract 1 a0.size).toList == ([48] : List UInt8)) = true := beq_iff_eq.mpr c9
       have jv : ((a0.extract 1 a0.size).toList != ([48] : List UInt8)) = false := bne_eq_false_iff_eq.mpr c9
       clear c9
       (first | rw [Hl] | (simp only [Jo,Jq];rw [Hl]) | skip)
       simp only [Option.some.injEq,Prod.mk.injEq] at H
       obtain ⟨rfl,rfl⟩ := H
       go_wp2
       go_ret2
       exact ⟨J5,Vh⟩
      ·rw [if_neg c9] at H
       have Hl : ((a0.extract 1 a0.size).toList == ([48] : List UInt8)) = false := beq_eq_false_iff_ne.mpr c9
       have jv : ((a0.extract 1 a0.size).toList != ([48] : List UInt8)) = true := bne_iff_ne.mpr c9
       (first | rw [Hl] | (simp only [Jo,Jq];rw [Hl]) | skip)
       have H' := Za.mk H
       clear H
       go_wp2
       go_meet
       case rel => exact ⟨_,(a0.extract 1 a0.size),J5,H',⟨(by have := HJ1.out;first | omega | exact Nat.le_refl _)⟩,Vh⟩
     ·rw [if_neg c8] at H
      exact absurd H (by simp)
    ·replace c7 := Bool.eq_false_iff.mpr c7
     subst c7
     have H1 : (Zt.j1 kj1 a0 a0) = some (r1,r2) := by rw [if_neg (show ¬ (false = true) by decide)] at H;exact H
     clear H
     have H := H1
     clear H1
     have H' := Za.mk H
     clear H
     go_wp2
     go_meet
     case rel => exact ⟨_,(a0),J5,H',⟨(by have := HJ1.out;first | omega | exact Nat.le_refl _)⟩,Vh⟩
   case rest =>
    clear HC6
    try clear c1
    try clear p2
    try clear c3
    try clear ww
    try clear Zg1
    try clear c4
    try clear Sj
    try clear Zgi
    try clear p5
    try clear q5
    try clear hx5
    try clear qi5
    try clear c7
    try clear c8
    try clear Zfr
    try clear Zvq
    try clear c9
    try clear Hl
    try clear jv
    try clear p2
    try clear p5
    try clear q5
    obtain ⟨kq,Xz,rfl,HA,HJ5,⟨mc5,rfl⟩⟩ := hcut
    cases kq with
    | zero => exact absurd HA.out (by simp [Zt.j1])
    | succ kj5 =>
     have H := HA.out
     clear HA
     simp only [Zt.j1] at H
     have Jo3 := Za.mk H
     clear H
     go_upto_region 6 with (fail)
     go_cut [35] (fun v35 wc => ∃ (kq : Nat) (Z56 : Bool),v35 = .bool Z56 ∧ Za (Zt.j2 kq a0 Xz Z56 = some (r1,r2)) ∧ Za (kq ≤ kj5) ∧ Kn w wc)
     case first =>
      have H := Jo3.out
      clear Jo3
      by_cases c11 : Xz.toList = ([] : List UInt8)
      ·rw [if_pos c11] at H
       have Ny : (Xz.toList == ([] : List UInt8)) = true := beq_iff_eq.mpr c11
       have Zlv : (Xz.toList != ([] : List UInt8)) = false := bne_eq_false_iff_eq.mpr c11
       clear c11
       (first | rw [Ny] | (simp only [Jo,Jq];rw [Ny]) | skip)
       have H' := Za.mk H
       clear H
       go_wp2
       go_meet
       case rel => exact ⟨_,(true),J5,H',⟨Yb⟩,Vh⟩
      ·rw [if_neg c11] at H
       have Ny : (Xz.toList == ([] : List UInt8)) = false := beq_eq_false_iff_ne.mpr c11
       have Zlv : (Xz.toList != ([] : List UInt8)) = true := bne_iff_ne.mpr c11
       (first | rw [Ny] | (simp only [Jo,Jq];rw [Ny]) | skip)
       by_cases c12 : (Xz.size : Int) > 16
       ·rw [if_pos c12] at H
        have Zg2 : decide (16 < (Xz.size : Int)) = true := decide_eq_true c12
        have Zlw : decide (16 < Xz.size) = true := decide_eq_true (by omega)
        clear c12
        have H' := Za.mk H
        clear H
        go_wp2
        go_meet
        case rel => exact ⟨_,(true),J5,H',⟨Yb⟩,Vh⟩
       ·rw [if_neg c12] at H
        have Zg2 : decide (16 < (Xz.size : Int)) = false := decide_eq_false c12
        have Zlw : decide (16 < Xz.size) = false := decide_eq_false (by omega)
        clear c12
        by_cases c13 : (Xz.size : Int) > 1
        ·rw [if_pos c13] at H
         have Sq : decide (1 < (Xz.size : Int)) = true := decide_eq_true c13
         have jf : decide (1 < Xz.size) = true := decide_eq_true (by omega)
         clear c13
         by_cases c14 : 0 < (Xz.size : Int)
         ·rw [if_pos c14] at H
          have Zg3 : decide (0 < (Xz.size : Int)) = true := decide_eq_true c14
          have Zg4 : decide (0 < Xz.size) = true := decide_eq_true (by omega)
          clear c14
          have H' := Za.mk H
          clear H
          have p15 : 0 ≤ (0 : Int) := (by omega)
          have q15 : 0 < Xz.size := (by have : (0 : Int) < (Xz.size : Int) := of_decide_eq_true Vz;omega)
          have Jti : ∀ h : 0 < Xz.size,((Xz[0]'h).toNat : Int) = bt Xz 0 := Fz Xz 0
          clear p15
          have Jtj : (0 < (Xz.size : Int)) = True := eq_true (of_decide_eq_true Vz)
          replace q15 := eq_true q15
          go_wp2
          go_meet
          case rel => exact ⟨_,(((bt Xz 0) == 48)),J5,H',⟨Yb⟩,Vh⟩
         ·rw [if_neg c14] at H
          exact absurd H (by simp)
        ·rw [if_neg c13] at H
         have Sq : decide (1 < (Xz.size : Int)) = false := decide_eq_false c13
         have jf : decide (1 < Xz.size) = false := decide_eq_false (by omega)
         clear c13
         have H' := Za.mk H
         clear H
         go_wp2
         go_meet
         case rel => exact ⟨_,(false),J5,H',⟨Yb⟩,Vh⟩
     case rest =>
      clear Jo3
      try clear c1
      try clear p1
      try clear q1
      try clear hx1
      try clear qi1
      try clear p2
      try clear c3
      try clear ww
      try clear Zg1
      try clear c4
      try clear Sj
      try clear Zgi
      try clear c5
      try clear p5
      try clear q5
      try clear hx5
      try clear qi5
      try clear c7
      try clear c8
      try clear Zfr
      try clear Zvq
      try clear c9
      try clear Hl
      try clear jv
      try clear c11
      try clear Ny
      try clear Zlv
      try clear c12
      try clear Zg2
      try clear Zlw
      try clear c13
      try clear Sq
      try clear jf
      try clear c14
      try clear Zg3
      try clear Zg4
      try clear p15
      try clear q15
      try clear Jti
      try clear Jtj
      try clear p15
      try clear p2
      try clear p5
      try clear q15
      try clear q5
      obtain ⟨kq,Z56,rfl,HA,HJ9,⟨mc9,rfl⟩⟩ := hcut
      cases kq with
      | zero => exact absurd HA.out (by simp [Zt.j2])
      | succ kj9 =>
       have H := HA.out
       clear HA
       simp only [Zt.j2] at H
       by_cases c16 : Z56 = true
       ·subst c16
        have H1 : (some (0,false)) = some (r1,r2) := by rw [if_pos rfl] at H;exact H
        clear H
        have H := H1
        clear H1
        simp only [Option.some.injEq,Prod.mk.injEq] at H
        obtain ⟨rfl,rfl⟩ := H
        go_wp2
        go_ret2
        exact ⟨J5,Vh⟩
       ·replace c16 := Bool.eq_false_iff.mpr c16
        subst c16
        have H1 : (Zt.l0 kj9 a0 Xz 0 0) = some (r1,r2) := by rw [if_neg (show ¬ (false = true) by decide)] at H;exact H
        clear H
        have H := H1
        clear H1
        have H' := Za.mk H
        clear H
        go_wp2
        go_loopg [5,6] kj9 (fun kq v5 v6 w' => ∃ (Zsz : Int) (Gb : Int),v5 = .int .i64 Zsz ∧ v6 = .int .i64 Gb ∧ Za (Zt.l0 kq a0 Xz Zsz Gb = some (r1,r2)) ∧ Za (kq ≤ kj9) ∧ Kn w w')
        case atStart => exact ⟨(0),(0),J5,J5,H',⟨Nat.le_refl _⟩,Vh⟩
        case round =>
         clear H'
         try clear c1
         try clear p1
         try clear q1
         try clear hx1
         try clear qi1
         try clear p2
         try clear c3
         try clear ww
         try clear Zg1
         try clear c4
         try clear Sj
         try clear Zgi
         try clear c5
         try clear p5
         try clear q5
         try clear hx5
         try clear qi5
         try clear c7
         try clear c8
         try clear Zfr
         try clear Zvq
         try clear c9
         try clear Hl
         try clear jv
         try clear c11
         try clear Ny
         try clear Zlv
         try clear c12
         try clear Zg2
         try clear Zlw
         try clear c13
         try clear Sq
         try clear jf
         try clear c14
         try clear Zg3
         try clear Zg4
         try clear p15
         try clear q15
         try clear Jti
         try clear Jtj
         try clear c16
         try clear p1
         try clear p15
         try clear p2
         try clear p5
         try clear q1
         try clear q15
         try clear q5
         obtain ⟨Zsz,Gb,rfl,rfl,HA,HK4,⟨m4,rfl⟩⟩ := hrel
         cases gk with
         | zero => exact absurd HA.out (by simp [Zt.l0])
         | succ k4 =>
          have H := HA.out
          clear HA
          simp only [Zt.l0] at H
          by_cases c17 : Gb < (Xz.size : Int)
          ·rw [if_pos c17] at H
           have Zqu : decide (Gb < (Xz.size : Int)) = true := decide_eq_true c17
           clear c17
           by_cases c18 : 0 ≤ Gb
           ·rw [if_pos c18] at H
            have Zlq : decide (0 ≤ Gb) = true := decide_eq_true c18
            clear c18
            by_cases c20 : (bt Xz Gb) < 48
            ·rw [if_pos c20] at H
             have Zff : decide ((bt Xz Gb) < 48) = true := decide_eq_true c20
             clear c20
             simp only [Option.some.injEq,Prod.mk.injEq] at H
             obtain ⟨rfl,rfl⟩ := H
             have p19 : 0 ≤ (Gb : Int) := of_decide_eq_true Vz
             have q19 : Gb < (Xz.size : Int) := of_decide_eq_true Vz
             have Zsv := Fz Xz Gb
             replace p19 := eq_true p19
             replace q19 := eq_true q19
             go_wp2
             go_ret2
             exact ⟨J5,Vh⟩
            ·rw [if_neg c20] at H
             have Zff : decide ((bt Xz Gb) < 48) = false := decide_eq_false c20
             clear c20
             by_cases Pq : (bt Xz Gb) > 57
             ·rw [if_pos Pq] at H
              have Sn : decide (57 < (bt Xz Gb)) = true := decide_eq_true Pq
              clear Pq
              simp only [Option.some.injEq,Prod.mk.injEq] at H
              obtain ⟨rfl,rfl⟩ := H
              have p19 : 0 ≤ (Gb : Int) := of_decide_eq_true Vz
              have q19 : Gb < (Xz.size : Int) := of_decide_eq_true Vz
              have Zsv := Fz Xz Gb
              replace p19 := eq_true p19
              replace q19 := eq_true q19
              have p21 : 0 ≤ (Gb : Int) := of_decide_eq_true Vz
              have q21 : Gb < (Xz.size : Int) := of_decide_eq_true Vz
              have Vbq := Fz Xz Gb
              replace p21 := eq_true p21
              replace q21 := eq_true q21
              go_wp2
              go_ret2
              exact ⟨J5,Vh⟩
             ·rw [if_neg Pq] at H
              have Sn : decide (57 < (bt Xz Gb)) = false := decide_eq_false Pq
              clear Pq
              have H' := Za.mk H
              clear H
              have p19 : 0 ≤ (Gb : Int) := of_decide_eq_true Vz
              have q19 : Gb < (Xz.size : Int) := of_decide_eq_true Vz
              have Zsv := Fz Xz Gb
              replace p19 := eq_true p19
              replace q19 := eq_true q19
              have p21 : 0 ≤ (Gb : Int) := of_decide_eq_true Vz
              have q21 : Gb < (Xz.size : Int) := of_decide_eq_true Vz
              have Vbq := Fz Xz Gb
              replace p21 := eq_true p21
              replace q21 := eq_true q21
              have p23 : 0 ≤ (Gb : Int) := of_decide_eq_true Vz
              have q23 : Gb < (Xz.size : Int) := of_decide_eq_true Vz
              have Vjp := Fz Xz Gb
              replace p23 := eq_true p23
              replace q23 := eq_true q23
              go_wp2
              go_roundg k4
              case measure => have := HJ1.out;have := HJ5.out;have := HJ9.out;have := HK4.out;omega
              case rel => exact ⟨(wrap64 ((wrap64 (10 * Zsz)) + (((bt Xz Gb) - 48) % 256))),(wrap64 (Gb + 1)),J5,J5,H',⟨(by have := HJ1.out;have := HJ5.out;have := HJ9.out;have := HK4.out;omega)⟩,Vh⟩
           ·rw [if_neg c18] at H
            exact absurd H (by simp)
          ·rw [if_neg c17] at H
           have Zqu : decide (Gb < (Xz.size : Int)) = false := decide_eq_false c17
           clear c17
           by_cases c24 : Xz.toList = a0.toList
           ·rw [if_pos c24] at H
            have Zlx : (Xz.toList == a0.toList) = true := beq_iff_eq.mpr c24
            have Zly : (Xz.toList != a0.toList) = false := bne_eq_false_iff_eq.mpr c24
            clear c24
            by_cases c25 : Zsz ≥ (-9007199254740992)
            ·rw [if_pos c25] at H
             have Z57 : decide ((-9007199254740992) ≤ Zsz) = true := decide_eq_true c25
             clear c25
             simp only [Option.some.injEq,Prod.mk.injEq] at H
             obtain ⟨rfl,rfl⟩ := H
             go_wp2
             go_ret2
             exact ⟨J5,Vh⟩
            ·rw [if_neg c25] at H
             have Z57 : decide ((-9007199254740992) ≤ Zsz) = false := decide_eq_false c25
             clear c25
             simp only [Option.some.injEq,Prod.mk.injEq] at H
             obtain ⟨rfl,rfl⟩ := H
             go_wp2
             go_ret2
             exact ⟨J5,Vh⟩
           ·rw [if_neg c24] at H
            have Zlx : (Xz.toList == a0.toList) = false := beq_eq_false_iff_ne.mpr c24
            have Zly : (Xz.toList != a0.toList) = true := bne_iff_ne.mpr c24
            by_cases c26 : (wrap64 (-Zsz)) ≥ (-9007199254740992)
            ·rw [if_pos c26] at H
             have di : decide ((-9007199254740992) ≤ (wrap64 (-Zsz))) = true := decide_eq_true c26
             clear c26
             simp only [Option.some.injEq,Prod.mk.injEq] at H
             obtain ⟨rfl,rfl⟩ := H
             go_wp2
             go_ret2
             exact ⟨J5,Vh⟩
            ·rw [if_neg c26] at H
             have di : decide ((-9007199254740992) ≤ (wrap64 (-Zsz))) = false := decide_eq_false c26
             clear c26
             simp only [Option.some.injEq,Prod.mk.injEq] at H
             obtain ⟨rfl,rfl⟩ := H
             go_wp2
             go_ret2
             exact ⟨J5,Vh⟩
end Go.Proofs.YtdhpcofnddkcaaaGreatDoor.S
