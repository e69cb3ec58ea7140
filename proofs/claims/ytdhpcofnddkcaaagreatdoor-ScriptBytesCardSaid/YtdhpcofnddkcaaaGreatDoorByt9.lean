/- polyglotlaw18.ScriptBytes: for every slice of steps the call returns true and leaves it unchanged. (Names shortened by a program.) (Text 10 of 10: what the law's proof rests on, joined; walks printed by the kit's print over given contracts, walks and plain laws by hand.) -/
import Derived.Test.YtdhpcofnddkcaaaGreatDoorByt0
import Derived.Test.YtdhpcofnddkcaaaGreatDoorByt1
import Derived.Test.YtdhpcofnddkcaaaGreatDoorByt2
import Derived.Test.YtdhpcofnddkcaaaGreatDoorByt3
import Derived.Test.YtdhpcofnddkcaaaGreatDoorByt4
import Derived.Test.YtdhpcofnddkcaaaGreatDoorByt5
import Derived.Test.YtdhpcofnddkcaaaGreatDoorByt6
import Derived.Test.YtdhpcofnddkcaaaGreatDoorByt7
import Derived.Test.YtdhpcofnddkcaaaGreatDoorByt8
namespace Go.Proofs.YtdhpcofnddkcaaaGreatDoor.S
open Go.RowKit Go.Proofs.YtdhpcofnddkcaaaGreatDoor.G Go.Proofs.YtdhpcofnddkcaaaGreatDoorW.PrintWords Go.Proofs.YtdhpcofnddkcaaaGreatDoorW.PrintLast Go.Proofs.YtdhpcofnddkcaaaGreatDoorW.PrintMore
set_option linter.unusedVariables false
set_option linter.unusedSimpArgs false
attribute [local go_sem] max2_int min2_int max_two min_two max_three min_three max_four min_four
namespace J3r
theorem Jf {w : World} {g : Nat} {t : TypeId} {a0 a1 a2 a3 a4 a5 a6 a7 : Value} (h : w.heap[g]? = some (.cells #[a0,a1,a2,a3,a4,a5,a6,a7] t (0,0))) : w.cell? ⟨g,0,none⟩ = some a0 ∧ w.cell? ⟨g,1,none⟩ = some a1 ∧ w.cell? ⟨g,2,none⟩ = some a2 ∧ w.cell? ⟨g,3,none⟩ = some a3 ∧ w.cell? ⟨g,4,none⟩ = some a4 ∧ w.cell? ⟨g,5,none⟩ = some a5 ∧ w.cell? ⟨g,6,none⟩ = some a6 ∧ w.cell? ⟨g,7,none⟩ = some a7 ∧ w.frozen? ⟨g,0,none⟩ = false ∧ w.frozen? ⟨g,1,none⟩ = false ∧ w.frozen? ⟨g,2,none⟩ = false ∧ w.frozen? ⟨g,3,none⟩ = false ∧ w.frozen? ⟨g,4,none⟩ = false ∧ w.frozen? ⟨g,5,none⟩ = false ∧ w.frozen? ⟨g,6,none⟩ = false ∧ w.frozen? ⟨g,7,none⟩ = false := ⟨(Zd h 0).trans rfl,(Zd h 1).trans rfl,(Zd h 2).trans rfl,(Zd h 3).trans rfl,(Zd h 4).trans rfl,(Zd h 5).trans rfl,(Zd h 6).trans rfl,(Zd h 7).trans rfl,Zj h 0,Zj h 1,Zj h 2,Zj h 3,Zj h 4,Zj h 5,Zj h 6,Zj h 7⟩
theorem Vh {p_ : Prop} (h_ : p_ := by (with_reducible repeat (first | refine Zc ?_ _ | refine Zf ?_ | refine Zb ?_ _));refine Zo (cs := #[.int .i64 ((Ze l0 Zn).f0),.string ((Ze l0 Zn).f1),.string ((Ze l0 Zn).f2),.bool ((Ze l0 Zn).f3),.slice V8 ((Ze l0 Zn).f4).length V9,.string ((Ze l0 Zn).f5),.string ((Ze l0 Zn).f6),.slice none 0 0]) ?_ 7 _ rfl;(with_reducible repeat (first | refine Zc ?_ _ | refine Zf ?_ | refine Zb ?_ _));refine Zo (cs := #[.int .i64 ((Ze l0 Zn).f0),.string ((Ze l0 Zn).f1),.string ((Ze l0 Zn).f2),.bool ((Ze l0 Zn).f3),.slice V8 ((Ze l0 Zn).f4).length V9,.string ((Ze l0 Zn).f5),.string (⟨#[]⟩ : ByteArray),.slice none 0 0]) ?_ 6 _ rfl;(with_reducible repeat (first | refine Zc ?_ _ | refine Zf ?_ | refine Zb ?_ _));refine Zo (cs := #[.int .i64 ((Ze l0 Zn).f0),.string ((Ze l0 Zn).f1),.string ((Ze l0 Zn).f2),.bool ((Ze l0 Zn).f3),.slice V8 ((Ze l0 Zn).f4).length V9,.string (⟨#[]⟩ : ByteArray),.string (⟨#[]⟩ : ByteArray),.slice none 0 0]) ?_ 5 _ rfl;(with_reducible repeat (first | refine Zc ?_ _ | refine Zf ?_ | refine Zb ?_ _));refine Zo (cs := #[.int .i64 ((Ze l0 Zn).f0),.string ((Ze l0 Zn).f1),.string ((Ze l0 Zn).f2),.bool ((Ze l0 Zn).f3),.slice none 0 0,.string (⟨#[]⟩ : ByteArray),.string (⟨#[]⟩ : ByteArray),.slice none 0 0]) ?_ 4 _ rfl;(with_reducible repeat (first | refine Zc ?_ _ | refine Zf ?_ | refine Zb ?_ _));refine Zo (cs := #[.int .i64 ((Ze l0 Zn).f0),.string ((Ze l0 Zn).f1),.string ((Ze l0 Zn).f2),.bool false,.slice none 0 0,.string (⟨#[]⟩ : ByteArray),.string (⟨#[]⟩ : ByteArray),.slice none 0 0]) ?_ 3 _ rfl;(with_reducible repeat (first | refine Zc ?_ _ | refine Zf ?_ | refine Zb ?_ _));refine Zo (cs := #[.int .i64 ((Ze l0 Zn).f0),.string ((Ze l0 Zn).f1),.string (⟨#[]⟩ : ByteArray),.bool false,.slice none 0 0,.string (⟨#[]⟩ : ByteArray),.string (⟨#[]⟩ : ByteArray),.slice none 0 0]) ?_ 2 _ rfl;(with_reducible repeat (first | refine Zc ?_ _ | refine Zf ?_ | refine Zb ?_ _));refine Zo (cs := #[.int .i64 ((Ze l0 Zn).f0),.string (⟨#[]⟩ : ByteArray),.string (⟨#[]⟩ : ByteArray),.bool false,.slice none 0 0,.string (⟨#[]⟩ : ByteArray),.string (⟨#[]⟩ : ByteArray),.slice none 0 0]) ?_ 1 _ rfl;(with_reducible repeat (first | refine Zc ?_ _ | refine Zf ?_ | refine Zb ?_ _));refine Zo (cs := #[.int .i64 0,.string (⟨#[]⟩ : ByteArray),.string (⟨#[]⟩ : ByteArray),.bool false,.slice none 0 0,.string (⟨#[]⟩ : ByteArray),.string (⟨#[]⟩ : ByteArray),.slice none 0 0]) ?_ 0 _ rfl;(with_reducible repeat (first | refine Zc ?_ _ | refine Zf ?_ | refine Zb ?_ _));exact Js.out) : p_ := h_
theorem J5 {p_ : Prop} (h_ : p_ := by repeat (first | (with_reducible first | exact HB.out | apply Z4 | apply Zr | apply Zz) | exact HB.out)) : p_ := h_
theorem Vz {p_ : Prop} (h_ : p_ := by repeat (first | (with_reducible first | exact HB.out | apply Z4 | apply Zr | apply Zz | refine Z8 ?_ Ja0.out) | exact HB.out)) : p_ := h_
theorem Yb {p_ : Prop} (h_ : p_ := by (try simp only [List.map_toArray,List.map_cons,List.map_nil]);first | done | rfl | (simp only [List.length_drop,List.length_take];rfl)) : p_ := h_
theorem Qw {p_ : Prop} (h_ : p_ := by (with_reducible repeat (first | refine Zc ?_ _ | refine Zf ?_ | refine Zb ?_ _));exact Js.out) : p_ := h_
theorem Xu {p_ : Prop} (h_ : p_ := by first | (with_reducible assumption) | assumption) : p_ := h_
theorem Qg {p_ : Prop} (h_ : p_ := by first | rfl | (simp;done) | (simp [*];done)) : p_ := h_
theorem Dx {p_ : Prop} (h_ : p_ := by first | rfl | (simp [Vd,Ve] <;> rfl) | (simp [*,Vd,Ve] <;> rfl)) : p_ := h_
theorem Wp {p_ : Prop} (h_ : p_ := by repeat (first | (with_reducible exact Zas.out) | (with_reducible refine Kd.Vf ?_ _) | (with_reducible refine Kd.Vg ?_ _) | (with_reducible refine Kd.Vs ?_) | exact Zas.out)) : p_ := h_
theorem Sy {p_ : Prop} (h_ : p_ := by repeat (first | (with_reducible exact Zat.out) | (with_reducible refine Kd.Vf ?_ _) | (with_reducible refine Kd.Vg ?_ _) | (with_reducible refine Kd.Vs ?_) | exact Zat.out)) : p_ := h_
theorem Qy {p_ : Prop} (h_ : p_ := by (with_reducible repeat (first | apply Kd.Zuj | apply Kd.fo | apply Kd.Zp0));exact Jnl.out) : p_ := h_
theorem Xv {p_ : Prop} (h_ : p_ := by (with_reducible repeat (first | apply Kd.Zuj | apply Kd.fo | apply Kd.Zp0));exact Zbt.out) : p_ := h_
theorem Ye {p_ : Prop} (h_ : p_ := by rw [hg];exact (Jh J5)) : p_ := h_
theorem Pd {p_ : Prop} (h_ : p_ := by have := HK1.out;first | omega | exact Nat.le_refl _) : p_ := h_
end J3r
open J3r
mutual
def Zg.l0 : Nat → List (Xx) → Bool → ByteArray → List (Xx) → Int → Int → Option (Bool)
 | 0,_,_,_,_,_,_ => none
 | k + 1,x0,x3,x4,x18,x19,x20 => if x20 < x19 then (if 0 ≤ x20 then (if x20 < (x18.length : Int) then ((Zk.f k ((Ze x18 x20).f0) ((Ze x18 x20).f1) ((Ze x18 x20).f2) ((Ze x18 x20).f3) ((Ze x18 x20).f4) ((Ze x18 x20).f5) ((Ze x18 x20).f6) ((Ze x18 x20).f7)).bind fun Zfa => ((Zu.f k ((Ze x18 x20).f0) ((Ze x18 x20).f1) ((Ze x18 x20).f2) ((Ze x18 x20).f3) ((Ze x18 x20).f4) ((Ze x18 x20).f5) ((Ze x18 x20).f6) ((Ze x18 x20).f7)).bind fun Zbu => (if (Zfa != Zbu) = true then (some false) else (if x3 = true then ((Zu.f k ((Ze x18 x20).f0) ((Ze x18 x20).f1) ((Ze x18 x20).f2) ((Ze x18 x20).f3) ((Ze x18 x20).f4) ((Ze x18 x20).f5) ((Ze x18 x20).f6) ((Ze x18 x20).f7)).bind fun dx => (if dx = true then ((Zh.f k ((Ze x18 x20).f0) ((Ze x18 x20).f1) ((Ze x18 x20).f2) ((Ze x18 x20).f3) ((Ze x18 x20).f4) ((Ze x18 x20).f5) ((Ze x18 x20).f6) ((Ze x18 x20).f7)).bind fun Pf => (if x4.size + Pf.size ≤ 9223372036854775807 then (Zg.l0 k x0 dx (x4 ++ Pf) x18 x19 (wrap64 (x20 + 1))) else (none))) else (Zg.l0 k x0 dx x4 x18 x19 (wrap64 (x20 + 1))))) else (Zg.l0 k x0 false x4 x18 x19 (wrap64 (x20 + 1))))))) else (none)) else (none)) else ((J8.f x0).bind fun Zt8 => (if x3 = true then ((Vm.f Zt8.1).bind fun Wl => (if Zt8.2 = 0 then (if Wl.2.2 = 0 then (if (strOfNums Zt8.1).toList = x4.toList then (if Wl.2.1 = (Zt8.1.length : Int) then (Zg.j1 k x0 Wl.1 ((Wl.1.length : Int) != (x0.length : Int))) else (Zg.j1 k x0 Wl.1 true)) else (Zg.j1 k x0 Wl.1 true)) else (Zg.j1 k x0 Wl.1 true)) else (Zg.j1 k x0 Wl.1 true))) else (if Zt8.2 = 1 then (some ((Zt8.1.length : Int) == 0)) else (some false))))
def Zg.j1 : Nat → List (Xx) → List (Xx) → Bool → Option (Bool)
 | 0,_,_,_ => none
 | k + 1,x0,x9,x84 => if x84 = true then (some false) else (Zg.l1 k x0 x9 (x9.length : Int) 0)
def Zg.l1 : Nat → List (Xx) → List (Xx) → Int → Int → Option (Bool)
 | 0,_,_,_,_ => none
 | k + 1,x0,x9,x86,x87 => if x87 < x86 then (if 0 ≤ x87 then (if x87 < (x9.length : Int) then (if x87 < (x0.length : Int) then ((Zv.f k ((Ze x9 x87).f0) ((Ze x9 x87).f1) ((Ze x9 x87).f2) ((Ze x9 x87).f3) ((Ze x9 x87).f4) ((Ze x9 x87).f5) ((Ze x9 x87).f6) ((Ze x9 x87).f7) ((Ze x0 x87).f0) ((Ze x0 x87).f1) ((Ze x0 x87).f2) ((Ze x0 x87).f3) ((Ze x0 x87).f4) ((Ze x0 x87).f5) ((Ze x0 x87).f6) ((Ze x0 x87).f7)).bind fun Jld => (if Jld = true then (Zg.l1 k x0 x9 x86 (wrap64 (x87 + 1))) else (some false))) else (none)) else (none)) else (none)) else (some true)
end
def Zg.f (k : Nat) (l0 : List (Xx)) : Option (Bool) := (Ym.f).bind fun Jcr => (if Jcr = true then ((Zx.f k l0).bind fun Zte => (if Zte = true then (Zg.l0 k l0 true (⟨#[]⟩ : ByteArray) l0 (l0.length : Int) 0) else (some true))) else (some false))
theorem Zg.Xy : ∀ k,(∀ y0 y1 y2 y3 y4 y5,Jz (Zg.l0 k y0 y1 y2 y3 y4 y5) (Zg.l0 (k + 1) y0 y1 y2 y3 y4 y5)) ∧ (∀ y0 y1 y2,Jz (Zg.j1 k y0 y1 y2) (Zg.j1 (k + 1) y0 y1 y2)) ∧ (∀ y0 y1 y2 y3,Jz (Zg.l1 k y0 y1 y2 y3) (Zg.l1 (k + 1) y0 y1 y2 y3))
 | 0 => ⟨fun _ _ _ _ _ _ r h => by simp [Zg.l0] at h,fun _ _ _ r h => by simp [Zg.j1] at h,fun _ _ _ _ r h => by simp [Zg.l1] at h⟩
 | k + 1 => by
  obtain ⟨ih0,ih1,ih2⟩ := Zg.Xy k
  refine ⟨?_,?_,?_⟩
  ·intro y0 y1 y2 y3 y4 y5
   unfold Zg.l0
   repeat' first
   | (with_reducible exact ih0 _ _ _ _ _ _)
   | (with_reducible exact ih1 _ _ _)
   | (with_reducible exact ih2 _ _ _ _)
   | (with_reducible exact Zh.mono _ _ _ _ _ _ _ _ _)
   | (with_reducible exact Zx.mono _ _)
   | (with_reducible exact Zu.mono _ _ _ _ _ _ _ _ _)
   | (with_reducible exact Zv.mono _ _ _ _ _ _ _ _ _ _ _ _ _ _ _ _ _)
   | (with_reducible exact Zk.mono _ _ _ _ _ _ _ _ _)
   | (with_reducible exact Jz.refl _)
   | (with_reducible exact Jz.none _)
   | (with_reducible refine Jz.ite ?_ ?_)
   | (with_reducible refine Jz.bind ?_ (fun _ => ?_))
   | exact ih0 _ _ _ _ _ _
   | exact ih1 _ _ _
   | exact ih2 _ _ _ _
   | exact Zh.mono _ _ _ _ _ _ _ _ _
   | exact Zx.mono _ _
   | exact Zu.mono _ _ _ _ _ _ _ _ _
   | exact Zv.mono _ _ _ _ _ _ _ _ _ _ _ _ _ _ _ _ _
   | exact Zk.mono _ _ _ _ _ _ _ _ _
   | exact Jz.none _
   | refine Jz.ite ?_ ?_
   | refine Jz.bind ?_ (fun _ => ?_)
  ·intro y0 y1 y2
   unfold Zg.j1
   repeat' first
   | (with_reducible exact ih0 _ _ _ _ _ _)
   | (with_reducible exact ih1 _ _ _)
   | (with_reducible exact ih2 _ _ _ _)
   | (with_reducible exact Zh.mono _ _ _ _ _ _ _ _ _)
   | (with_reducible exact Zx.mono _ _)
   | (with_reducible exact Zu.mono _ _ _ _ _ _ _ _ _)
   | (with_reducible exact Zv.mono _ _ _ _ _ _ _ _ _ _ _ _ _ _ _ _ _)
   | (with_reducible exact Zk.mono _ _ _ _ _ _ _ _ _)
   | (with_reducible exact Jz.refl _)
   | (with_reducible exact Jz.none _)
   | (with_reducible refine Jz.ite ?_ ?_)
   | (with_reducible refine Jz.bind ?_ (fun _ => ?_))
   | exact ih0 _ _ _ _ _ _
   | exact ih1 _ _ _
   | exact ih2 _ _ _ _
   | exact Zh.mono _ _ _ _ _ _ _ _ _
   | exact Zx.mono _ _
   | exact Zu.mono _ _ _ _ _ _ _ _ _
   | exact Zv.mono _ _ _ _ _ _ _ _ _ _ _ _ _ _ _ _ _
   | exact Zk.mono _ _ _ _ _ _ _ _ _
   | exact Jz.none _
   | refine Jz.ite ?_ ?_
   | refine Jz.bind ?_ (fun _ => ?_)
  ·intro y0 y1 y2 y3
   unfold Zg.l1
   repeat' first
   | (with_reducible exact ih0 _ _ _ _ _ _)
   | (with_reducible exact ih1 _ _ _)
   | (with_reducible exact ih2 _ _ _ _)
   | (with_reducible exact Zh.mono _ _ _ _ _ _ _ _ _)
   | (with_reducible exact Zx.mono _ _)
   | (with_reducible exact Zu.mono _ _ _ _ _ _ _ _ _)
   | (with_reducible exact Zv.mono _ _ _ _ _ _ _ _ _ _ _ _ _ _ _ _ _)
   | (with_reducible exact Zk.mono _ _ _ _ _ _ _ _ _)
   | (with_reducible exact Jz.refl _)
   | (with_reducible exact Jz.none _)
   | (with_reducible refine Jz.ite ?_ ?_)
   | (with_reducible refine Jz.bind ?_ (fun _ => ?_))
   | exact ih0 _ _ _ _ _ _
   | exact ih1 _ _ _
   | exact ih2 _ _ _ _
   | exact Zh.mono _ _ _ _ _ _ _ _ _
   | exact Zx.mono _ _
   | exact Zu.mono _ _ _ _ _ _ _ _ _
   | exact Zv.mono _ _ _ _ _ _ _ _ _ _ _ _ _ _ _ _ _
   | exact Zk.mono _ _ _ _ _ _ _ _ _
   | exact Jz.none _
   | refine Jz.ite ?_ ?_
   | refine Jz.bind ?_ (fun _ => ?_)
theorem Zg.mono : ∀ a0 k,Jz (Zg.f k a0) (Zg.f (k + 1) a0) := by
 intro a0 k
 obtain ⟨ih0,ih1,ih2⟩ := Zg.Xy k
 unfold Zg.f
 repeat' first
   | (with_reducible exact ih0 _ _ _ _ _ _)
   | (with_reducible exact ih1 _ _ _)
   | (with_reducible exact ih2 _ _ _ _)
   | (with_reducible exact Zh.mono _ _ _ _ _ _ _ _ _)
   | (with_reducible exact Zx.mono _ _)
   | (with_reducible exact Zu.mono _ _ _ _ _ _ _ _ _)
   | (with_reducible exact Zv.mono _ _ _ _ _ _ _ _ _ _ _ _ _ _ _ _ _)
   | (with_reducible exact Zk.mono _ _ _ _ _ _ _ _ _)
   | (with_reducible exact Jz.refl _)
   | (with_reducible exact Jz.none _)
   | (with_reducible refine Jz.ite ?_ ?_)
   | (with_reducible refine Jz.bind ?_ (fun _ => ?_))
   | exact ih0 _ _ _ _ _ _
   | exact ih1 _ _ _
   | exact ih2 _ _ _ _
   | exact Zh.mono _ _ _ _ _ _ _ _ _
   | exact Zx.mono _ _
   | exact Zu.mono _ _ _ _ _ _ _ _ _
   | exact Zv.mono _ _ _ _ _ _ _ _ _ _ _ _ _ _ _ _ _
   | exact Zk.mono _ _ _ _ _ _ _ _ _
   | exact Jz.none _
   | refine Jz.ite ?_ ?_
   | refine Jz.bind ?_ (fun _ => ?_)
def Zg.T25 : Bool × List (List Nat × List Nat) := (true,[([],[]),([],[]),([0,1],[0,1]),([2],[2]),([],[]),([],[]),([4,5],[4,5]),([6],[6]),([3,7],[3,7]),([8],[8])])
def Zg.B25 : List Nat := [0,0,3,7,0,0,48,112,255,511]
theorem Zg.Jnm : Uy .any (opsOf Tryz.f3 25) = Zg.T25 := by kernel_rfl
theorem Zg.Jg8 : Uj Zg.T25.2 Zg.B25 = true := by kernel_rfl
set_option maxHeartbeats 8000000 in
set_option maxRecDepth 100000 in
theorem Zg.calls (k : Nat) (A0 : Option Addr) (c0 : Nat) (l0 : List (Xx)) (r : Bool) (w : World) (hr0 : Kd.C k29 w A0 l0.length l0) (hc0 : l0.length ≤ c0) (h : Zg.f k l0 = some r) (Gw : Dt w := by exact Dt.step Gw (by repeat (first | (with_reducible first | exact HB.out | apply Z4 | apply Zr | apply Zz | refine Z8 ?_ (Za.out (by assumption))) | exact HB.out))) (Ue : Yg w := by exact Yg.step Ue (by repeat (first | (with_reducible first | exact HB.out | apply Z4 | apply Zr | apply Zz | refine Z8 ?_ (Za.out (by assumption))) | exact HB.out))) (Hf : Qs w := by exact Qs.step Hf (by repeat (first | (with_reducible first | exact HB.out | apply Z4 | apply Zr | apply Zz | refine Z8 ?_ (Za.out (by assumption))) | exact HB.out))) :
  Calls Tryz.prog 3 #[.slice A0 l0.length c0] w fun e w' => e = .returned (.bool r) ∧ Below w.heap.size w w' := by
 have Z0x := Tryz.underlying29
 have HR0 := Za.mk hr0
 have HC0 := Za.mk hc0
 clear hr0 hc0
 have HB := Za.mk (Below.refl w.heap.size w)
 have H : ((Ym.f).bind fun Jcr => (if Jcr = true then ((Zx.f k l0).bind fun Zte => (if Zte = true then (Zg.l0 k l0 true (⟨#[]⟩ : ByteArray) l0 (l0.length : Int) 0) else (some true))) else (some false))) = some r := h
 clear h
 replace H := Option.bind_eq_some_iff.mp H
 obtain ⟨Jcr,A20,H⟩ := H
 replace H : (if Jcr = true then ((Zx.f k l0).bind fun Zte => (if Zte = true then (Zg.l0 k l0 true (⟨#[]⟩ : ByteArray) l0 (l0.length : Int) 0) else (some true))) else (some false)) = some r := H
 have A2 := Za.mk A20
 clear A20
 by_cases c3 : Jcr = true
 ·subst c3
  have H1 : ((Zx.f k l0).bind fun Zte => (if Zte = true then (Zg.l0 k l0 true (⟨#[]⟩ : ByteArray) l0 (l0.length : Int) 0) else (some true))) = some r := by rw [if_pos rfl] at H;exact H
  clear H
  have H := H1
  clear H1
  replace H := Option.bind_eq_some_iff.mp H
  obtain ⟨Zte,A40,H⟩ := H
  replace H : (if Zte = true then (Zg.l0 k l0 true (⟨#[]⟩ : ByteArray) l0 (l0.length : Int) 0) else (some true)) = some r := H
  have A4 := Za.mk A40
  clear A40
  by_cases c5 : Zte = true
  ·subst c5
   have H1 : (Zg.l0 k l0 true (⟨#[]⟩ : ByteArray) l0 (l0.length : Int) 0) = some r := by rw [if_pos rfl] at H;exact H
   clear H
   have H := H1
   clear H1
   have H' := Za.mk H
   clear H
   go_enter Tryz.func3,Tryz.ntmps3
   go_wp2_with (first | ((with_reducible refine Z7 (f := 9) rfl ?_);refine Ju (some 13) rfl rfl Tryz.func9 (by kernel_rfl) rfl #[] rfl Yb ?_;(with_reducible refine (Ym.calls  true _ A2.out).mono ?_);rintro e w6 ⟨rfl,hb⟩;refine ⟨_,rfl,?_⟩;replace HB := Za.mk (Zm J5 hb);(try clear hb);(try clear hb2);(try clear hk);(try clear hi)) | ((with_reducible refine Z7 (f := 10) rfl ?_);refine Ju (some 16) rfl rfl Tryz.func10 (by kernel_rfl) rfl #[.slice A0 l0.length c0] rfl Yb ?_;(with_reducible refine (Zx.calls k _ _ l0 true _ ?side1 ?side2 A4.out).mono ?_);(case side1 => repeat (first | exact (Kd.Vl HR0.out HB.out) | (with_reducible refine Kd.Vf ?_ _) | (with_reducible refine Kd.Vg ?_ _) | (with_reducible refine Kd.Vs ?_)));(case side2 => exact HC0.out);rintro e w7 ⟨rfl,hb⟩;refine ⟨_,rfl,?_⟩;replace HB := Za.mk (Zm J5 hb);(try clear hb);(try clear hb2);(try clear hk);(try clear hi)))
   go_loopg [3,4,20] k (fun kq v3 v4 v20 w' => ∃ (Zk8 : Bool) (Yj : ByteArray) (Zn : Int),v3 = .bool Zk8 ∧ v4 = .string Yj ∧ v20 = .int .i64 Zn ∧ Za (Zg.l0 kq l0 Zk8 Yj l0 (l0.length : Int) Zn = some r) ∧ Za (kq ≤ k) ∧ Za (Below w.heap.size w w'))
   case atStart => exact ⟨(true),((⟨#[]⟩ : ByteArray)),(0),Qg,Qg,Qg,H',⟨Nat.le_refl _⟩,⟨J5⟩⟩
   case round =>
    clear H'
    try clear c1
    try clear p2
    try clear c3
    try clear c5
    obtain ⟨Zk8,Yj,Zn,rfl,rfl,rfl,HA,HK1,HB⟩ := hrel
    cases gk with
    | zero => exact absurd HA.out (by simp [Zg.l0])
    | succ k1 =>
     have H := HA.out
     clear HA
     simp only [Zg.l0] at H
     by_cases c8 : Zn < (l0.length : Int)
     ·rw [if_pos c8] at H
      have Zfr : decide (Zn < (l0.length : Int)) = true := decide_eq_true c8
      clear c8
      by_cases c9 : 0 ≤ Zn
      ·rw [if_pos c9] at H
       have Hl : decide (0 ≤ Zn) = true := decide_eq_true c9
       clear c9
       by_cases c10 : Zn < (l0.length : Int)
       ·rw [if_pos c10] at H
        have df : decide (Zn < (l0.length : Int)) = true := decide_eq_true c10
        clear c10
        replace H := Option.bind_eq_some_iff.mp H
        obtain ⟨Zfa,Z0l,H⟩ := H
        replace H : ((Zu.f k1 ((Ze l0 Zn).f0) ((Ze l0 Zn).f1) ((Ze l0 Zn).f2) ((Ze l0 Zn).f3) ((Ze l0 Zn).f4) ((Ze l0 Zn).f5) ((Ze l0 Zn).f6) ((Ze l0 Zn).f7)).bind fun Zbu => (if (Zfa != Zbu) = true then (some false) else (if Zk8 = true then ((Zu.f k1 ((Ze l0 Zn).f0) ((Ze l0 Zn).f1) ((Ze l0 Zn).f2) ((Ze l0 Zn).f3) ((Ze l0 Zn).f4) ((Ze l0 Zn).f5) ((Ze l0 Zn).f6) ((Ze l0 Zn).f7)).bind fun dx => (if dx = true then ((Zh.f k1 ((Ze l0 Zn).f0) ((Ze l0 Zn).f1) ((Ze l0 Zn).f2) ((Ze l0 Zn).f3) ((Ze l0 Zn).f4) ((Ze l0 Zn).f5) ((Ze l0 Zn).f6) ((Ze l0 Zn).f7)).bind fun Pf => (if Yj.size + Pf.size ≤ 9223372036854775807 then (Zg.l0 k1 l0 dx (Yj ++ Pf) l0 (l0.length : Int) (wrap64 (Zn + 1))) else (none))) else (Zg.l0 k1 l0 dx Yj l0 (l0.length : Int) (wrap64 (Zn + 1))))) else (Zg.l0 k1 l0 false Yj l0 (l0.length : Int) (wrap64 (Zn + 1)))))) = some r := H
        have A11 := Za.mk Z0l
        clear Z0l
        replace H := Option.bind_eq_some_iff.mp H
        obtain ⟨Zbu,Jfo,H⟩ := H
        replace H : (if (Zfa != Zbu) = true then (some false) else (if Zk8 = true then ((Zu.f k1 ((Ze l0 Zn).f0) ((Ze l0 Zn).f1) ((Ze l0 Zn).f2) ((Ze l0 Zn).f3) ((Ze l0 Zn).f4) ((Ze l0 Zn).f5) ((Ze l0 Zn).f6) ((Ze l0 Zn).f7)).bind fun dx => (if dx = true then ((Zh.f k1 ((Ze l0 Zn).f0) ((Ze l0 Zn).f1) ((Ze l0 Zn).f2) ((Ze l0 Zn).f3) ((Ze l0 Zn).f4) ((Ze l0 Zn).f5) ((Ze l0 Zn).f6) ((Ze l0 Zn).f7)).bind fun Pf => (if Yj.size + Pf.size ≤ 9223372036854775807 then (Zg.l0 k1 l0 dx (Yj ++ Pf) l0 (l0.length : Int) (wrap64 (Zn + 1))) else (none))) else (Zg.l0 k1 l0 dx Yj l0 (l0.length : Int) (wrap64 (Zn + 1))))) else (Zg.l0 k1 l0 false Yj l0 (l0.length : Int) (wrap64 (Zn + 1))))) = some r := H
        have A12 := Za.mk Jfo
        clear Jfo
        by_cases c13 : (Zfa != Zbu) = true
        ·rw [if_pos c13] at H
         have Sq : (Zfa != Zbu) = true := c13
         (try (have jf : decide (Zfa = Zbu) = false := by simpa using c13))
         (try (have Zt2 : (Zfa == Zbu) = false := by simpa using c13))
         (try (have Vi4 : ¬ (Zfa = Zbu) := by simpa using c13))
         clear c13
         obtain rfl := Option.some.inj H
         have Zbv : 0 ≤ (Zn : Int) := of_decide_eq_true Xu
         have Zbw : Zn < (l0.length : Int) := of_decide_eq_true Xu
         obtain ⟨Jg9,V8,V9,Yc,Yd,e307,Ke,Kg,Kh,Ki,Kj,Kk,Kl,Km,Nc,Nf,Ng,Nh⟩ := jb HR0.out Zn Zbv Zbw
         cases e307
         replace Ke := (HB.out.cell (World.block_lt_of_cell? w _ Ke)).trans Ke
         replace Kg := (HB.out.cell (World.block_lt_of_cell? w _ Kg)).trans Kg
         replace Kh := (HB.out.cell (World.block_lt_of_cell? w _ Kh)).trans Kh
         replace Ki := (HB.out.cell (World.block_lt_of_cell? w _ Ki)).trans Ki
         replace Kj := (HB.out.cell (World.block_lt_of_cell? w _ Kj)).trans Kj
         replace Kk := (HB.out.cell (World.block_lt_of_cell? w _ Kk)).trans Kk
         replace Kl := (HB.out.cell (World.block_lt_of_cell? w _ Kl)).trans Kl
         replace Km := (HB.out.cell (World.block_lt_of_cell? w _ Km)).trans Km
         have Fb := Za.mk Nf
         have Fe := Za.mk Nc
         clear Nf Nc
         have Ff := Za.mk Nh
         have Fg := Za.mk Ng
         clear Nh Ng
         replace Zbv := eq_true Zbv
         replace Zbw := eq_true Zbw
         try go_wp2_with (first | ((with_reducible refine Jg (N := 6) rfl ?_);(try (refine Jr (by rfl) ?_;dsimp only));refine Je ?hg (N := 6) ?hd (cs := #[.int .i64 0,.string (⟨#[]⟩ : ByteArray),.string (⟨#[]⟩ : ByteArray),.bool false,.slice none 0 0,.string (⟨#[]⟩ : ByteArray),.string (⟨#[]⟩ : ByteArray),.slice none 0 0]) (t := 29) ?hr ?_;(case hd => rfl);(case hg => rfl);(case hr => first | (go_simp;done) | (go_simp;rfl));intro Jp hg w14 hbox hb;have Js := Za.mk (hbox);have Jha := Za.mk ((Ye : w.heap.size ≤ Jp));have Ja0 := Za.mk ((Ye : w.heap.size ≤ Jp));replace HB := Za.mk (Zm J5 hb);clear hb hbox hg;obtain ⟨Z48,Z49,Z5a,Jiu,Jiv,Jiw,Jix,Jiy,Z5b,Z5c,Z5d,Jiz,Ji0,Ji1,Ji2,Ji3⟩ := Jf Js.out))
         have Gt : Za (((((((((w14.setCell ⟨Jp,0,none⟩ (.int .i64 ((Ze l0 Zn).f0))).setCell ⟨Jp,1,none⟩ (.string ((Ze l0 Zn).f1))).setCell ⟨Jp,2,none⟩ (.string ((Ze l0 Zn).f2))).setCell ⟨Jp,3,none⟩ (.bool ((Ze l0 Zn).f3))).setCell ⟨Jp,4,none⟩ (.slice V8 ((Ze l0 Zn).f4).length V9)).setCell ⟨Jp,5,none⟩ (.string ((Ze l0 Zn).f5))).setCell ⟨Jp,6,none⟩ (.string ((Ze l0 Zn).f6))).setCell ⟨Jp,7,none⟩ (.slice Yc ((Ze l0 Zn).f7).length Yd)).heap[Jp]? = some (.cells #[.int .i64 ((Ze l0 Zn).f0),.string ((Ze l0 Zn).f1),.string ((Ze l0 Zn).f2),.bool ((Ze l0 Zn).f3),.slice V8 ((Ze l0 Zn).f4).length V9,.string ((Ze l0 Zn).f5),.string ((Ze l0 Zn).f6),.slice Yc ((Ze l0 Zn).f7).length Yd] 29 (0,0))) := ⟨Vh⟩
         have Hy : Za (Below w.heap.size w ((((((((w14.setCell ⟨Jp,0,none⟩ (.int .i64 ((Ze l0 Zn).f0))).setCell ⟨Jp,1,none⟩ (.string ((Ze l0 Zn).f1))).setCell ⟨Jp,2,none⟩ (.string ((Ze l0 Zn).f2))).setCell ⟨Jp,3,none⟩ (.bool ((Ze l0 Zn).f3))).setCell ⟨Jp,4,none⟩ (.slice V8 ((Ze l0 Zn).f4).length V9)).setCell ⟨Jp,5,none⟩ (.string ((Ze l0 Zn).f5))).setCell ⟨Jp,6,none⟩ (.string ((Ze l0 Zn).f6))).setCell ⟨Jp,7,none⟩ (.slice Yc ((Ze l0 Zn).f7).length Yd))) := ⟨Vz⟩
         (try clear Js)
         (try clear HB)
         generalize ((((((((w14.setCell ⟨Jp,0,none⟩ (.int .i64 ((Ze l0 Zn).f0))).setCell ⟨Jp,1,none⟩ (.string ((Ze l0 Zn).f1))).setCell ⟨Jp,2,none⟩ (.string ((Ze l0 Zn).f2))).setCell ⟨Jp,3,none⟩ (.bool ((Ze l0 Zn).f3))).setCell ⟨Jp,4,none⟩ (.slice V8 ((Ze l0 Zn).f4).length V9)).setCell ⟨Jp,5,none⟩ (.string ((Ze l0 Zn).f5))).setCell ⟨Jp,6,none⟩ (.string ((Ze l0 Zn).f6))).setCell ⟨Jp,7,none⟩ (.slice Yc ((Ze l0 Zn).f7).length Yd)) = w16 at Gt Hy ⊢
         have Js := Gt
         have HB := Hy
         clear Gt Hy
         replace Js := Za.mk (Zf Js.out)
         replace HB := Za.mk (Zz HB.out)
         refine Hd (n := 5) (S := fun w' => w'.cell? ⟨Jp,0,none⟩ = some (.int .i64 ((Ze l0 Zn).f0)) ∧ w'.cell? ⟨Jp,1,none⟩ = some (.string ((Ze l0 Zn).f1)) ∧ w'.cell? ⟨Jp,2,none⟩ = some (.string ((Ze l0 Zn).f2)) ∧ w'.cell? ⟨Jp,3,none⟩ = some (.bool ((Ze l0 Zn).f3)) ∧ w'.cell? ⟨Jp,4,none⟩ = some (.slice V8 ((Ze l0 Zn).f4).length V9) ∧ w'.cell? ⟨Jp,5,none⟩ = some (.string ((Ze l0 Zn).f5)) ∧ w'.cell? ⟨Jp,6,none⟩ = some (.string ((Ze l0 Zn).f6)) ∧ w'.cell? ⟨Jp,7,none⟩ = some (.slice Yc ((Ze l0 Zn).f7).length Yd)) (ds := []) #[false,false,false,false,false] (by kernel_rfl) rfl rfl ⟨(Zd Js.out 0).trans rfl,(Zd Js.out 1).trans rfl,(Zd Js.out 2).trans rfl,(Zd Js.out 3).trans rfl,(Zd Js.out 4).trans rfl,(Zd Js.out 5).trans rfl,(Zd Js.out 6).trans rfl,(Zd Js.out 7).trans rfl⟩ (fun hHeld => ?_)
         generalize w16.drew = w17 at Js HB hHeld ⊢
         refine Qx (i := 0) (N := some 24) (v := ?_) (a' := ?_) #[true,false,false,false,false] rfl rfl (by kernel_rfl) (fun _ _ _ h => h) (Or.inl ⟨(by rfl),?_⟩) hHeld ?_ ?_
         rotate_left
         ·rintro w' ⟨s0,s1,s2,s3,s4,s5,s6,s7⟩
          go_simp
          with_reducible rfl
         rotate_left
         ·simp only [Act.put,List.setIfInBounds_toArray,List.set_cons_zero,List.set_cons_succ,Jo,Jq]
          rfl
         refine Qx (i := 2) (N := some 26) (v := ?_) (a' := ?_) #[true,false,true,false,false] rfl rfl (by kernel_rfl) (fun _ _ _ h => h) (Or.inl ⟨(by rfl),?_⟩) hHeld ?_ ?_
         rotate_left
         ·rintro w' ⟨s0,s1,s2,s3,s4,s5,s6,s7⟩
          go_simp
          with_reducible rfl
         rotate_left
         ·simp only [Act.put,List.setIfInBounds_toArray,List.set_cons_zero,List.set_cons_succ,Jo,Jq]
          rfl
         refine F3 (i := 1) (N := some 25) #[true,true,true,false,false] rfl rfl (by kernel_rfl) (by decide) (fun K hK => ?_)
         refine Uk Tryz.func11 (by kernel_rfl) rfl #[.agg #[.int .i64 ((Ze l0 Zn).f0),.string ((Ze l0 Zn).f1),.string ((Ze l0 Zn).f2),.bool ((Ze l0 Zn).f3),.slice V8 ((Ze l0 Zn).f4).length V9,.string ((Ze l0 Zn).f5),.string ((Ze l0 Zn).f6),.slice Yc ((Ze l0 Zn).f7).length Yd]] (by rfl) rfl rfl Yb ?_
         with_reducible refine (Zk.calls k1 ((Ze l0 Zn).f0) ((Ze l0 Zn).f1) ((Ze l0 Zn).f2) ((Ze l0 Zn).f3) _ _ ((Ze l0 Zn).f4) ((Ze l0 Zn).f5) ((Ze l0 Zn).f6) _ _ ((Ze l0 Zn).f7) Zfa _ ?side1 ?side2 ?side3 ?side4 A11.out).mono ?_
         (case side1 => repeat (first | exact (Kd.Vl Fb.out HB.out) | (with_reducible refine Kd.Vf ?_ _) | (with_reducible refine Kd.Vg ?_ _) | (with_reducible refine Kd.Vs ?_)))
         (case side2 => exact Fe.out)
         (case side3 => repeat (first | exact (Kd.Vl Ff.out HB.out) | (with_reducible refine Kd.Vf ?_ _) | (with_reducible refine Kd.Vg ?_ _) | (with_reducible refine Kd.Vs ?_)))
         (case side4 => exact Fg.out)
         rintro e w18 ⟨rfl,hb⟩
         refine ⟨_,rfl,?_⟩
         replace Js := Za.mk (Zw (g := Jp) (o := .cells #[.int .i64 ((Ze l0 Zn).f0),.string ((Ze l0 Zn).f1),.string ((Ze l0 Zn).f2),.bool ((Ze l0 Zn).f3),.slice V8 ((Ze l0 Zn).f4).length V9,.string ((Ze l0 Zn).f5),.string ((Ze l0 Zn).f6),.slice Yc ((Ze l0 Zn).f7).length Yd] 29 (0,0)) Qw hb)
         replace HB := Za.mk (Zm Vz hb)
         (try clear hb)
         (try clear hb2)
         (try clear hk)
         (try clear hi)
         refine hK.out _ _ ⟨(Zd Js.out 0).trans rfl,(Zd Js.out 1).trans rfl,(Zd Js.out 2).trans rfl,(Zd Js.out 3).trans rfl,(Zd Js.out 4).trans rfl,(Zd Js.out 5).trans rfl,(Zd Js.out 6).trans rfl,(Zd Js.out 7).trans rfl⟩ (fun hHeld => ?_)
         clear hK K
         refine Qr (a' := ?_) ?_ ?_
         rotate_left
         ·show Act.put _ (some 25) _ = _
          simp only [Act.put,List.setIfInBounds_toArray,List.set_cons_zero,List.set_cons_succ,Jo,Jq]
          rfl
         refine F3 (i := 3) (N := some 27) #[true,true,true,true,false] rfl rfl (by kernel_rfl) (by decide) (fun K hK => ?_)
         refine Uk Tryz.func12 (by kernel_rfl) rfl #[.agg #[.int .i64 ((Ze l0 Zn).f0),.string ((Ze l0 Zn).f1),.string ((Ze l0 Zn).f2),.bool ((Ze l0 Zn).f3),.slice V8 ((Ze l0 Zn).f4).length V9,.string ((Ze l0 Zn).f5),.string ((Ze l0 Zn).f6),.slice Yc ((Ze l0 Zn).f7).length Yd]] (by rfl) rfl rfl Yb ?_
         with_reducible refine (Zu.calls k1 ((Ze l0 Zn).f0) ((Ze l0 Zn).f1) ((Ze l0 Zn).f2) ((Ze l0 Zn).f3) _ _ ((Ze l0 Zn).f4) ((Ze l0 Zn).f5) ((Ze l0 Zn).f6) _ _ ((Ze l0 Zn).f7) Zbu _ ?side1 ?side2 ?side3 ?side4 A12.out).mono ?_
         (case side1 => repeat (first | exact (Kd.Vl Fb.out HB.out) | (with_reducible refine Kd.Vf ?_ _) | (with_reducible refine Kd.Vg ?_ _) | (with_reducible refine Kd.Vs ?_)))
         (case side2 => exact Fe.out)
         (case side3 => repeat (first | exact (Kd.Vl Ff.out HB.out) | (with_reducible refine Kd.Vf ?_ _) | (with_reducible refine Kd.Vg ?_ _) | (with_reducible refine Kd.Vs ?_)))
         (case side4 => exact Fg.out)
         rintro e w19 ⟨rfl,hb⟩
         refine ⟨_,rfl,?_⟩
         replace Js := Za.mk (Zw (g := Jp) (o := .cells #[.int .i64 ((Ze l0 Zn).f0),.string ((Ze l0 Zn).f1),.string ((Ze l0 Zn).f2),.bool ((Ze l0 Zn).f3),.slice V8 ((Ze l0 Zn).f4).length V9,.string ((Ze l0 Zn).f5),.string ((Ze l0 Zn).f6),.slice Yc ((Ze l0 Zn).f7).length Yd] 29 (0,0)) Qw hb)
         replace HB := Za.mk (Zm Vz hb)
         (try clear hb)
         (try clear hb2)
         (try clear hk)
         (try clear hi)
         refine hK.out _ _ ⟨(Zd Js.out 0).trans rfl,(Zd Js.out 1).trans rfl,(Zd Js.out 2).trans rfl,(Zd Js.out 3).trans rfl,(Zd Js.out 4).trans rfl,(Zd Js.out 5).trans rfl,(Zd Js.out 6).trans rfl,(Zd Js.out 7).trans rfl⟩ (fun hHeld => ?_)
         clear hK K
         refine Qr (a' := ?_) ?_ ?_
         rotate_left
         ·show Act.put _ (some 27) _ = _
          simp only [Act.put,List.setIfInBounds_toArray,List.set_cons_zero,List.set_cons_succ,Jo,Jq]
          rfl
         refine V3 (i := 4) (N := some 28) (v := ?_) (a' := ?_) #[true,true,true,true,true] rfl rfl (by kernel_rfl) (fun _ _ _ h => h) (Or.inl ⟨(by rfl),?_⟩) ?_ ?_
         rotate_left
         ·intro w'
          go_simp
          with_reducible rfl
         rotate_left
         ·simp only [Act.put,List.setIfInBounds_toArray,List.set_cons_zero,List.set_cons_succ,Jo,Jq]
          rfl
         refine j5 (by kernel_rfl) ?_
         try go_wp2
         go_ret
         exact ⟨Dx,Vz⟩
        ·rw [if_neg c13] at H
         have Sq : (Zfa != Zbu) = false := by simpa using c13
         (try (have jf : decide (Zfa = Zbu) = true := by simpa using c13))
         (try (have Zt2 : (Zfa == Zbu) = true := by simpa using c13))
         clear c13
         by_cases c20 : Zk8 = true
         ·subst c20
          have H1 : ((Zu.f k1 ((Ze l0 Zn).f0) ((Ze l0 Zn).f1) ((Ze l0 Zn).f2) ((Ze l0 Zn).f3) ((Ze l0 Zn).f4) ((Ze l0 Zn).f5) ((Ze l0 Zn).f6) ((Ze l0 Zn).f7)).bind fun dx => (if dx = true then ((Zh.f k1 ((Ze l0 Zn).f0) ((Ze l0 Zn).f1) ((Ze l0 Zn).f2) ((Ze l0 Zn).f3) ((Ze l0 Zn).f4) ((Ze l0 Zn).f5) ((Ze l0 Zn).f6) ((Ze l0 Zn).f7)).bind fun Pf => (if Yj.size + Pf.size ≤ 9223372036854775807 then (Zg.l0 k1 l0 dx (Yj ++ Pf) l0 (l0.length : Int) (wrap64 (Zn + 1))) else (none))) else (Zg.l0 k1 l0 dx Yj l0 (l0.length : Int) (wrap64 (Zn + 1))))) = some r := by rw [if_pos rfl] at H;exact H
          clear H
          have H := H1
          clear H1
          replace H := Option.bind_eq_some_iff.mp H
          obtain ⟨dx,Jfp,H⟩ := H
          replace H : (if dx = true then ((Zh.f k1 ((Ze l0 Zn).f0) ((Ze l0 Zn).f1) ((Ze l0 Zn).f2) ((Ze l0 Zn).f3) ((Ze l0 Zn).f4) ((Ze l0 Zn).f5) ((Ze l0 Zn).f6) ((Ze l0 Zn).f7)).bind fun Pf => (if Yj.size + Pf.size ≤ 9223372036854775807 then (Zg.l0 k1 l0 dx (Yj ++ Pf) l0 (l0.length : Int) (wrap64 (Zn + 1))) else (none))) else (Zg.l0 k1 l0 dx Yj l0 (l0.length : Int) (wrap64 (Zn + 1)))) = some r := H
          have A21 := Za.mk Jfp
          clear Jfp
          by_cases Pq : dx = true
          ·subst Pq
           have H1 : ((Zh.f k1 ((Ze l0 Zn).f0) ((Ze l0 Zn).f1) ((Ze l0 Zn).f2) ((Ze l0 Zn).f3) ((Ze l0 Zn).f4) ((Ze l0 Zn).f5) ((Ze l0 Zn).f6) ((Ze l0 Zn).f7)).bind fun Pf => (if Yj.size + Pf.size ≤ 9223372036854775807 then (Zg.l0 k1 l0 true (Yj ++ Pf) l0 (l0.length : Int) (wrap64 (Zn + 1))) else (none))) = some r := by rw [if_pos rfl] at H;exact H
           clear H
           have H := H1
           clear H1
           replace H := Option.bind_eq_some_iff.mp H
           obtain ⟨Pf,Z1k,H⟩ := H
           replace H : (if Yj.size + Pf.size ≤ 9223372036854775807 then (Zg.l0 k1 l0 true (Yj ++ Pf) l0 (l0.length : Int) (wrap64 (Zn + 1))) else (none)) = some r := H
           have A23 := Za.mk Z1k
           clear Z1k
           by_cases c24 : Yj.size + Pf.size ≤ 9223372036854775807
           ·rw [if_pos c24] at H
            try simp only [show wrap64 ((Yj.size : Int) + (Pf.size : Int)) = (Yj.size : Int) + (Pf.size : Int) from by unfold wrap64;omega] at *
            have Zlx := eq_true c24
            have Zly : decide (Yj.size + Pf.size ≤ 9223372036854775807) = true := decide_eq_true c24
            try have Jnn : (9223372036854775807 < Yj.size + Pf.size) = False := eq_false (Nat.not_lt.2 c24)
            have H' := Za.mk H
            clear H
            have Zbv : 0 ≤ (Zn : Int) := of_decide_eq_true Xu
            have Zbw : Zn < (l0.length : Int) := of_decide_eq_true Xu
            obtain ⟨Jg9,V8,V9,Yc,Yd,e307,Ke,Kg,Kh,Ki,Kj,Kk,Kl,Km,Nc,Nf,Ng,Nh⟩ := jb HR0.out Zn Zbv Zbw
            cases e307
            replace Ke := (HB.out.cell (World.block_lt_of_cell? w _ Ke)).trans Ke
            replace Kg := (HB.out.cell (World.block_lt_of_cell? w _ Kg)).trans Kg
            replace Kh := (HB.out.cell (World.block_lt_of_cell? w _ Kh)).trans Kh
            replace Ki := (HB.out.cell (World.block_lt_of_cell? w _ Ki)).trans Ki
            replace Kj := (HB.out.cell (World.block_lt_of_cell? w _ Kj)).trans Kj
            replace Kk := (HB.out.cell (World.block_lt_of_cell? w _ Kk)).trans Kk
            replace Kl := (HB.out.cell (World.block_lt_of_cell? w _ Kl)).trans Kl
            replace Km := (HB.out.cell (World.block_lt_of_cell? w _ Km)).trans Km
            have Fb := Za.mk Nf
            have Fe := Za.mk Nc
            clear Nf Nc
            have Ff := Za.mk Nh
            have Fg := Za.mk Ng
            clear Nh Ng
            replace Zbv := eq_true Zbv
            replace Zbw := eq_true Zbw
            try go_wp2_with (first | ((with_reducible refine Jg (N := 6) rfl ?_);(try (refine Jr (by rfl) ?_;dsimp only));refine Je ?hg (N := 6) ?hd (cs := #[.int .i64 0,.string (⟨#[]⟩ : ByteArray),.string (⟨#[]⟩ : ByteArray),.bool false,.slice none 0 0,.string (⟨#[]⟩ : ByteArray),.string (⟨#[]⟩ : ByteArray),.slice none 0 0]) (t := 29) ?hr ?_;(case hd => rfl);(case hg => rfl);(case hr => first | (go_simp;done) | (go_simp;rfl));intro Jp hg w25 hbox hb;have Js := Za.mk (hbox);have Jha := Za.mk ((Ye : w.heap.size ≤ Jp));have Ja0 := Za.mk ((Ye : w.heap.size ≤ Jp));replace HB := Za.mk (Zm J5 hb);clear hb hbox hg;obtain ⟨Ps,Pt,Pv,Zem,Zen,Zeo,Zep,Zeq,Pw,Px,Py,Zer,Zes,Zet,Zeu,Zev⟩ := Jf Js.out))
            have Gt : Za (((((((((w25.setCell ⟨Jp,0,none⟩ (.int .i64 ((Ze l0 Zn).f0))).setCell ⟨Jp,1,none⟩ (.string ((Ze l0 Zn).f1))).setCell ⟨Jp,2,none⟩ (.string ((Ze l0 Zn).f2))).setCell ⟨Jp,3,none⟩ (.bool ((Ze l0 Zn).f3))).setCell ⟨Jp,4,none⟩ (.slice V8 ((Ze l0 Zn).f4).length V9)).setCell ⟨Jp,5,none⟩ (.string ((Ze l0 Zn).f5))).setCell ⟨Jp,6,none⟩ (.string ((Ze l0 Zn).f6))).setCell ⟨Jp,7,none⟩ (.slice Yc ((Ze l0 Zn).f7).length Yd)).heap[Jp]? = some (.cells #[.int .i64 ((Ze l0 Zn).f0),.string ((Ze l0 Zn).f1),.string ((Ze l0 Zn).f2),.bool ((Ze l0 Zn).f3),.slice V8 ((Ze l0 Zn).f4).length V9,.string ((Ze l0 Zn).f5),.string ((Ze l0 Zn).f6),.slice Yc ((Ze l0 Zn).f7).length Yd] 29 (0,0))) := ⟨Vh⟩
            have Hy : Za (Below w.heap.size w ((((((((w25.setCell ⟨Jp,0,none⟩ (.int .i64 ((Ze l0 Zn).f0))).setCell ⟨Jp,1,none⟩ (.string ((Ze l0 Zn).f1))).setCell ⟨Jp,2,none⟩ (.string ((Ze l0 Zn).f2))).setCell ⟨Jp,3,none⟩ (.bool ((Ze l0 Zn).f3))).setCell ⟨Jp,4,none⟩ (.slice V8 ((Ze l0 Zn).f4).length V9)).setCell ⟨Jp,5,none⟩ (.string ((Ze l0 Zn).f5))).setCell ⟨Jp,6,none⟩ (.string ((Ze l0 Zn).f6))).setCell ⟨Jp,7,none⟩ (.slice Yc ((Ze l0 Zn).f7).length Yd))) := ⟨Vz⟩
            (try clear Js)
            (try clear HB)
            generalize ((((((((w25.setCell ⟨Jp,0,none⟩ (.int .i64 ((Ze l0 Zn).f0))).setCell ⟨Jp,1,none⟩ (.string ((Ze l0 Zn).f1))).setCell ⟨Jp,2,none⟩ (.string ((Ze l0 Zn).f2))).setCell ⟨Jp,3,none⟩ (.bool ((Ze l0 Zn).f3))).setCell ⟨Jp,4,none⟩ (.slice V8 ((Ze l0 Zn).f4).length V9)).setCell ⟨Jp,5,none⟩ (.string ((Ze l0 Zn).f5))).setCell ⟨Jp,6,none⟩ (.string ((Ze l0 Zn).f6))).setCell ⟨Jp,7,none⟩ (.slice Yc ((Ze l0 Zn).f7).length Yd)) = w27 at Gt Hy ⊢
            have Js := Gt
            have HB := Hy
            clear Gt Hy
            replace Js := Za.mk (Zf Js.out)
            replace HB := Za.mk (Zz HB.out)
            refine Hd (n := 5) (S := fun w' => w'.cell? ⟨Jp,0,none⟩ = some (.int .i64 ((Ze l0 Zn).f0)) ∧ w'.cell? ⟨Jp,1,none⟩ = some (.string ((Ze l0 Zn).f1)) ∧ w'.cell? ⟨Jp,2,none⟩ = some (.string ((Ze l0 Zn).f2)) ∧ w'.cell? ⟨Jp,3,none⟩ = some (.bool ((Ze l0 Zn).f3)) ∧ w'.cell? ⟨Jp,4,none⟩ = some (.slice V8 ((Ze l0 Zn).f4).length V9) ∧ w'.cell? ⟨Jp,5,none⟩ = some (.string ((Ze l0 Zn).f5)) ∧ w'.cell? ⟨Jp,6,none⟩ = some (.string ((Ze l0 Zn).f6)) ∧ w'.cell? ⟨Jp,7,none⟩ = some (.slice Yc ((Ze l0 Zn).f7).length Yd)) (ds := []) #[false,false,false,false,false] (by kernel_rfl) rfl rfl ⟨(Zd Js.out 0).trans rfl,(Zd Js.out 1).trans rfl,(Zd Js.out 2).trans rfl,(Zd Js.out 3).trans rfl,(Zd Js.out 4).trans rfl,(Zd Js.out 5).trans rfl,(Zd Js.out 6).trans rfl,(Zd Js.out 7).trans rfl⟩ (fun hHeld => ?_)
            generalize w27.drew = w28 at Js HB hHeld ⊢
            refine Qx (i := 0) (N := some 24) (v := ?_) (a' := ?_) #[true,false,false,false,false] rfl rfl (by kernel_rfl) (fun _ _ _ h => h) (Or.inl ⟨(by rfl),?_⟩) hHeld ?_ ?_
            rotate_left
            ·rintro w' ⟨s0,s1,s2,s3,s4,s5,s6,s7⟩
             go_simp
             with_reducible rfl
            rotate_left
            ·simp only [Act.put,List.setIfInBounds_toArray,List.set_cons_zero,List.set_cons_succ,Jo,Jq]
             rfl
            refine Qx (i := 2) (N := some 26) (v := ?_) (a' := ?_) #[true,false,true,false,false] rfl rfl (by kernel_rfl) (fun _ _ _ h => h) (Or.inl ⟨(by rfl),?_⟩) hHeld ?_ ?_
            rotate_left
            ·rintro w' ⟨s0,s1,s2,s3,s4,s5,s6,s7⟩
             go_simp
             with_reducible rfl
            rotate_left
            ·simp only [Act.put,List.setIfInBounds_toArray,List.set_cons_zero,List.set_cons_succ,Jo,Jq]
             rfl
            refine F3 (i := 1) (N := some 25) #[true,true,true,false,false] rfl rfl (by kernel_rfl) (by decide) (fun K hK => ?_)
            refine Uk Tryz.func11 (by kernel_rfl) rfl #[.agg #[.int .i64 ((Ze l0 Zn).f0),.string ((Ze l0 Zn).f1),.string ((Ze l0 Zn).f2),.bool ((Ze l0 Zn).f3),.slice V8 ((Ze l0 Zn).f4).length V9,.string ((Ze l0 Zn).f5),.string ((Ze l0 Zn).f6),.slice Yc ((Ze l0 Zn).f7).length Yd]] (by rfl) rfl rfl Yb ?_
            with_reducible refine (Zk.calls k1 ((Ze l0 Zn).f0) ((Ze l0 Zn).f1) ((Ze l0 Zn).f2) ((Ze l0 Zn).f3) _ _ ((Ze l0 Zn).f4) ((Ze l0 Zn).f5) ((Ze l0 Zn).f6) _ _ ((Ze l0 Zn).f7) Zfa _ ?side1 ?side2 ?side3 ?side4 A11.out).mono ?_
            (case side1 => repeat (first | exact (Kd.Vl Fb.out HB.out) | (with_reducible refine Kd.Vf ?_ _) | (with_reducible refine Kd.Vg ?_ _) | (with_reducible refine Kd.Vs ?_)))
            (case side2 => exact Fe.out)
            (case side3 => repeat (first | exact (Kd.Vl Ff.out HB.out) | (with_reducible refine Kd.Vf ?_ _) | (with_reducible refine Kd.Vg ?_ _) | (with_reducible refine Kd.Vs ?_)))
            (case side4 => exact Fg.out)
            rintro e w29 ⟨rfl,hb⟩
            refine ⟨_,rfl,?_⟩
            replace Js := Za.mk (Zw (g := Jp) (o := .cells #[.int .i64 ((Ze l0 Zn).f0),.string ((Ze l0 Zn).f1),.string ((Ze l0 Zn).f2),.bool ((Ze l0 Zn).f3),.slice V8 ((Ze l0 Zn).f4).length V9,.string ((Ze l0 Zn).f5),.string ((Ze l0 Zn).f6),.slice Yc ((Ze l0 Zn).f7).length Yd] 29 (0,0)) Qw hb)
            replace HB := Za.mk (Zm Vz hb)
            (try clear hb)
            (try clear hb2)
            (try clear hk)
            (try clear hi)
            refine hK.out _ _ ⟨(Zd Js.out 0).trans rfl,(Zd Js.out 1).trans rfl,(Zd Js.out 2).trans rfl,(Zd Js.out 3).trans rfl,(Zd Js.out 4).trans rfl,(Zd Js.out 5).trans rfl,(Zd Js.out 6).trans rfl,(Zd Js.out 7).trans rfl⟩ (fun hHeld => ?_)
            clear hK K
            refine Qr (a' := ?_) ?_ ?_
            rotate_left
            ·show Act.put _ (some 25) _ = _
             simp only [Act.put,List.setIfInBounds_toArray,List.set_cons_zero,List.set_cons_succ,Jo,Jq]
             rfl
            refine F3 (i := 3) (N := some 27) #[true,true,true,true,false] rfl rfl (by kernel_rfl) (by decide) (fun K hK => ?_)
            refine Uk Tryz.func12 (by kernel_rfl) rfl #[.agg #[.int .i64 ((Ze l0 Zn).f0),.string ((Ze l0 Zn).f1),.string ((Ze l0 Zn).f2),.bool ((Ze l0 Zn).f3),.slice V8 ((Ze l0 Zn).f4).length V9,.string ((Ze l0 Zn).f5),.string ((Ze l0 Zn).f6),.slice Yc ((Ze l0 Zn).f7).length Yd]] (by rfl) rfl rfl Yb ?_
            with_reducible refine (Zu.calls k1 ((Ze l0 Zn).f0) ((Ze l0 Zn).f1) ((Ze l0 Zn).f2) ((Ze l0 Zn).f3) _ _ ((Ze l0 Zn).f4) ((Ze l0 Zn).f5) ((Ze l0 Zn).f6) _ _ ((Ze l0 Zn).f7) Zbu _ ?side1 ?side2 ?side3 ?side4 A12.out).mono ?_
            (case side1 => repeat (first | exact (Kd.Vl Fb.out HB.out) | (with_reducible refine Kd.Vf ?_ _) | (with_reducible refine Kd.Vg ?_ _) | (with_reducible refine Kd.Vs ?_)))
            (case side2 => exact Fe.out)
            (case side3 => repeat (first | exact (Kd.Vl Ff.out HB.out) | (with_reducible refine Kd.Vf ?_ _) | (with_reducible refine Kd.Vg ?_ _) | (with_reducible refine Kd.Vs ?_)))
            (case side4 => exact Fg.out)
            rintro e w30 ⟨rfl,hb⟩
            refine ⟨_,rfl,?_⟩
            replace Js := Za.mk (Zw (g := Jp) (o := .cells #[.int .i64 ((Ze l0 Zn).f0),.string ((Ze l0 Zn).f1),.string ((Ze l0 Zn).f2),.bool ((Ze l0 Zn).f3),.slice V8 ((Ze l0 Zn).f4).length V9,.string ((Ze l0 Zn).f5),.string ((Ze l0 Zn).f6),.slice Yc ((Ze l0 Zn).f7).length Yd] 29 (0,0)) Qw hb)
            replace HB := Za.mk (Zm Vz hb)
            (try clear hb)
            (try clear hb2)
            (try clear hk)
            (try clear hi)
            refine hK.out _ _ ⟨(Zd Js.out 0).trans rfl,(Zd Js.out 1).trans rfl,(Zd Js.out 2).trans rfl,(Zd Js.out 3).trans rfl,(Zd Js.out 4).trans rfl,(Zd Js.out 5).trans rfl,(Zd Js.out 6).trans rfl,(Zd Js.out 7).trans rfl⟩ (fun hHeld => ?_)
            clear hK K
            refine Qr (a' := ?_) ?_ ?_
            rotate_left
            ·show Act.put _ (some 27) _ = _
             simp only [Act.put,List.setIfInBounds_toArray,List.set_cons_zero,List.set_cons_succ,Jo,Jq]
             rfl
            refine V3 (i := 4) (N := some 28) (v := ?_) (a' := ?_) #[true,true,true,true,true] rfl rfl (by kernel_rfl) (fun _ _ _ h => h) (Or.inl ⟨(by rfl),?_⟩) ?_ ?_
            rotate_left
            ·intro w'
             go_simp
             with_reducible rfl
            rotate_left
            ·simp only [Act.put,List.setIfInBounds_toArray,List.set_cons_zero,List.set_cons_succ,Jo,Jq]
             rfl
            refine j5 (by kernel_rfl) ?_
            obtain ⟨Zgl,Zgm,Zgn,Ja1,Ja2,Ja3,Ja4,Ja5,Zgo,Zgp,Zgq,Ja6,Ja7,Ja8,Ja9,Jba⟩ := Jf Js.out
            try go_wp2_with (first | (go_at_call 12;(with_reducible refine (Zu.calls k1 ((Ze l0 Zn).f0) ((Ze l0 Zn).f1) ((Ze l0 Zn).f2) ((Ze l0 Zn).f3) _ _ ((Ze l0 Zn).f4) ((Ze l0 Zn).f5) ((Ze l0 Zn).f6) _ _ ((Ze l0 Zn).f7) true _ ?side1 ?side2 ?side3 ?side4 A21.out).mono ?_);(case side1 => repeat (first | exact (Kd.Vl Fb.out HB.out) | (with_reducible refine Kd.Vf ?_ _) | (with_reducible refine Kd.Vg ?_ _) | (with_reducible refine Kd.Vs ?_)));(case side2 => exact Fe.out);(case side3 => repeat (first | exact (Kd.Vl Ff.out HB.out) | (with_reducible refine Kd.Vf ?_ _) | (with_reducible refine Kd.Vg ?_ _) | (with_reducible refine Kd.Vs ?_)));(case side4 => exact Fg.out);rintro e w32 ⟨rfl,hb⟩;replace Js := Za.mk (Zw (g := Jp) (o := .cells #[.int .i64 ((Ze l0 Zn).f0),.string ((Ze l0 Zn).f1),.string ((Ze l0 Zn).f2),.bool ((Ze l0 Zn).f3),.slice V8 ((Ze l0 Zn).f4).length V9,.string ((Ze l0 Zn).f5),.string ((Ze l0 Zn).f6),.slice Yc ((Ze l0 Zn).f7).length Yd] 29 (0,0)) Qw hb);replace HB := Za.mk (Zm Vz hb);(try clear hb);(try clear hb2);(try clear hk);(try clear hi);obtain ⟨Uz,U0,U1,Wx,Wy,Wz,W9,Da,U2,U3,U4,Db,Dc,De,Df,Dg⟩ := Jf Js.out) | ((with_reducible refine Z7 (f := 13) rfl ?_);refine Ju (some 37) rfl rfl Tryz.func13 (by kernel_rfl) rfl #[.agg #[.int .i64 ((Ze l0 Zn).f0),.string ((Ze l0 Zn).f1),.string ((Ze l0 Zn).f2),.bool ((Ze l0 Zn).f3),.slice V8 ((Ze l0 Zn).f4).length V9,.string ((Ze l0 Zn).f5),.string ((Ze l0 Zn).f6),.slice Yc ((Ze l0 Zn).f7).length Yd]] rfl Yb ?_;(with_reducible refine (Zh.calls k1 ((Ze l0 Zn).f0) ((Ze l0 Zn).f1) ((Ze l0 Zn).f2) ((Ze l0 Zn).f3) _ _ ((Ze l0 Zn).f4) ((Ze l0 Zn).f5) ((Ze l0 Zn).f6) _ _ ((Ze l0 Zn).f7) Pf _ ?side1 ?side2 ?side3 ?side4 A23.out).mono ?_);(case side1 => repeat (first | exact (Kd.Vl Fb.out HB.out) | (with_reducible refine Kd.Vf ?_ _) | (with_reducible refine Kd.Vg ?_ _) | (with_reducible refine Kd.Vs ?_)));(case side2 => exact Fe.out);(case side3 => repeat (first | exact (Kd.Vl Ff.out HB.out) | (with_reducible refine Kd.Vf ?_ _) | (with_reducible refine Kd.Vg ?_ _) | (with_reducible refine Kd.Vs ?_)));(case side4 => exact Fg.out);rintro e w34 ⟨rfl,hb⟩;refine ⟨_,rfl,?_⟩;replace Js := Za.mk (Zw (g := Jp) (o := .cells #[.int .i64 ((Ze l0 Zn).f0),.string ((Ze l0 Zn).f1),.string ((Ze l0 Zn).f2),.bool ((Ze l0 Zn).f3),.slice V8 ((Ze l0 Zn).f4).length V9,.string ((Ze l0 Zn).f5),.string ((Ze l0 Zn).f6),.slice Yc ((Ze l0 Zn).f7).length Yd] 29 (0,0)) Qw hb);replace HB := Za.mk (Zm Vz hb);(try clear hb);(try clear hb2);(try clear hk);(try clear hi)))
            go_roundg k1
            case measure => have := HK1.out;omega
            case rel => exact ⟨(true),(Yj ++ Pf),(wrap64 (Zn + 1)),Qg,Qg,Qg,H',⟨(by have := HK1.out;omega)⟩,⟨Vz⟩⟩
           ·rw [if_neg c24] at H
            exact absurd H (by simp)
          ·replace Pq := Bool.eq_false_iff.mpr Pq
           subst Pq
           have H1 : (Zg.l0 k1 l0 false Yj l0 (l0.length : Int) (wrap64 (Zn + 1))) = some r := by rw [if_neg (show ¬ (false = true) by decide)] at H;exact H
           clear H
           have H := H1
           clear H1
           have H' := Za.mk H
           clear H
           have Zbv : 0 ≤ (Zn : Int) := of_decide_eq_true Xu
           have Zbw : Zn < (l0.length : Int) := of_decide_eq_true Xu
           obtain ⟨Jg9,V8,V9,Yc,Yd,e307,Ke,Kg,Kh,Ki,Kj,Kk,Kl,Km,Nc,Nf,Ng,Nh⟩ := jb HR0.out Zn Zbv Zbw
           cases e307
           replace Ke := (HB.out.cell (World.block_lt_of_cell? w _ Ke)).trans Ke
           replace Kg := (HB.out.cell (World.block_lt_of_cell? w _ Kg)).trans Kg
           replace Kh := (HB.out.cell (World.block_lt_of_cell? w _ Kh)).trans Kh
           replace Ki := (HB.out.cell (World.block_lt_of_cell? w _ Ki)).trans Ki
           replace Kj := (HB.out.cell (World.block_lt_of_cell? w _ Kj)).trans Kj
           replace Kk := (HB.out.cell (World.block_lt_of_cell? w _ Kk)).trans Kk
           replace Kl := (HB.out.cell (World.block_lt_of_cell? w _ Kl)).trans Kl
           replace Km := (HB.out.cell (World.block_lt_of_cell? w _ Km)).trans Km
           have Fb := Za.mk Nf
           have Fe := Za.mk Nc
           clear Nf Nc
           have Ff := Za.mk Nh
           have Fg := Za.mk Ng
           clear Nh Ng
           replace Zbv := eq_true Zbv
           replace Zbw := eq_true Zbw
           try go_wp2_with (first | ((with_reducible refine Jg (N := 6) rfl ?_);(try (refine Jr (by rfl) ?_;dsimp only));refine Je ?hg (N := 6) ?hd (cs := #[.int .i64 0,.string (⟨#[]⟩ : ByteArray),.string (⟨#[]⟩ : ByteArray),.bool false,.slice none 0 0,.string (⟨#[]⟩ : ByteArray),.string (⟨#[]⟩ : ByteArray),.slice none 0 0]) (t := 29) ?hr ?_;(case hd => rfl);(case hg => rfl);(case hr => first | (go_simp;done) | (go_simp;rfl));intro Jp hg w35 hbox hb;have Js := Za.mk (hbox);have Jha := Za.mk ((Ye : w.heap.size ≤ Jp));have Ja0 := Za.mk ((Ye : w.heap.size ≤ Jp));replace HB := Za.mk (Zm J5 hb);clear hb hbox hg;obtain ⟨gu,gy,gz,Zew,Zex,Zey,Zez,Ze0,lc,lg,lh,Ze1,Ze2,Ze3,Ze4,Ze5⟩ := Jf Js.out))
           have Gt : Za (((((((((w35.setCell ⟨Jp,0,none⟩ (.int .i64 ((Ze l0 Zn).f0))).setCell ⟨Jp,1,none⟩ (.string ((Ze l0 Zn).f1))).setCell ⟨Jp,2,none⟩ (.string ((Ze l0 Zn).f2))).setCell ⟨Jp,3,none⟩ (.bool ((Ze l0 Zn).f3))).setCell ⟨Jp,4,none⟩ (.slice V8 ((Ze l0 Zn).f4).length V9)).setCell ⟨Jp,5,none⟩ (.string ((Ze l0 Zn).f5))).setCell ⟨Jp,6,none⟩ (.string ((Ze l0 Zn).f6))).setCell ⟨Jp,7,none⟩ (.slice Yc ((Ze l0 Zn).f7).length Yd)).heap[Jp]? = some (.cells #[.int .i64 ((Ze l0 Zn).f0),.string ((Ze l0 Zn).f1),.string ((Ze l0 Zn).f2),.bool ((Ze l0 Zn).f3),.slice V8 ((Ze l0 Zn).f4).length V9,.string ((Ze l0 Zn).f5),.string ((Ze l0 Zn).f6),.slice Yc ((Ze l0 Zn).f7).length Yd] 29 (0,0))) := ⟨Vh⟩
           have Hy : Za (Below w.heap.size w ((((((((w35.setCell ⟨Jp,0,none⟩ (.int .i64 ((Ze l0 Zn).f0))).setCell ⟨Jp,1,none⟩ (.string ((Ze l0 Zn).f1))).setCell ⟨Jp,2,none⟩ (.string ((Ze l0 Zn).f2))).setCell ⟨Jp,3,none⟩ (.bool ((Ze l0 Zn).f3))).setCell ⟨Jp,4,none⟩ (.slice V8 ((Ze l0 Zn).f4).length V9)).setCell ⟨Jp,5,none⟩ (.string ((Ze l0 Zn).f5))).setCell ⟨Jp,6,none⟩ (.string ((Ze l0 Zn).f6))).setCell ⟨Jp,7,none⟩ (.slice Yc ((Ze l0 Zn).f7).length Yd))) := ⟨Vz⟩
           (try clear Js)
           (try clear HB)
           generalize ((((((((w35.setCell ⟨Jp,0,none⟩ (.int .i64 ((Ze l0 Zn).f0))).setCell ⟨Jp,1,none⟩ (.string ((Ze l0 Zn).f1))).setCell ⟨Jp,2,none⟩ (.string ((Ze l0 Zn).f2))).setCell ⟨Jp,3,none⟩ (.bool ((Ze l0 Zn).f3))).setCell ⟨Jp,4,none⟩ (.slice V8 ((Ze l0 Zn).f4).length V9)).setCell ⟨Jp,5,none⟩ (.string ((Ze l0 Zn).f5))).setCell ⟨Jp,6,none⟩ (.string ((Ze l0 Zn).f6))).setCell ⟨Jp,7,none⟩ (.slice Yc ((Ze l0 Zn).f7).length Yd)) = w37 at Gt Hy ⊢
           have Js := Gt
           have HB := Hy
           clear Gt Hy
           replace Js := Za.mk (Zf Js.out)
           replace HB := Za.mk (Zz HB.out)
           refine Hd (n := 5) (S := fun w' => w'.cell? ⟨Jp,0,none⟩ = some (.int .i64 ((Ze l0 Zn).f0)) ∧ w'.cell? ⟨Jp,1,none⟩ = some (.string ((Ze l0 Zn).f1)) ∧ w'.cell? ⟨Jp,2,none⟩ = some (.string ((Ze l0 Zn).f2)) ∧ w'.cell? ⟨Jp,3,none⟩ = some (.bool ((Ze l0 Zn).f3)) ∧ w'.cell? ⟨Jp,4,none⟩ = some (.slice V8 ((Ze l0 Zn).f4).length V9) ∧ w'.cell? ⟨Jp,5,none⟩ = some (.string ((Ze l0 Zn).f5)) ∧ w'.cell? ⟨Jp,6,none⟩ = some (.string ((Ze l0 Zn).f6)) ∧ w'.cell? ⟨Jp,7,none⟩ = some (.slice Yc ((Ze l0 Zn).f7).length Yd)) (ds := []) #[false,false,false,false,false] (by kernel_rfl) rfl rfl ⟨(Zd Js.out 0).trans rfl,(Zd Js.out 1).trans rfl,(Zd Js.out 2).trans rfl,(Zd Js.out 3).trans rfl,(Zd Js.out 4).trans rfl,(Zd Js.out 5).trans rfl,(Zd Js.out 6).trans rfl,(Zd Js.out 7).trans rfl⟩ (fun hHeld => ?_)
           generalize w37.drew = w38 at Js HB hHeld ⊢
           refine Qx (i := 0) (N := some 24) (v := ?_) (a' := ?_) #[true,false,false,false,false] rfl rfl (by kernel_rfl) (fun _ _ _ h => h) (Or.inl ⟨(by rfl),?_⟩) hHeld ?_ ?_
           rotate_left
           ·rintro w' ⟨s0,s1,s2,s3,s4,s5,s6,s7⟩
            go_simp
            with_reducible rfl
           rotate_left
           ·simp only [Act.put,List.setIfInBounds_toArray,List.set_cons_zero,List.set_cons_succ,Jo,Jq]
            rfl
           refine Qx (i := 2) (N := some 26) (v := ?_) (a' := ?_) #[true,false,true,false,false] rfl rfl (by kernel_rfl) (fun _ _ _ h => h) (Or.inl ⟨(by rfl),?_⟩) hHeld ?_ ?_
           rotate_left
           ·rintro w' ⟨s0,s1,s2,s3,s4,s5,s6,s7⟩
            go_simp
            with_reducible rfl
           rotate_left
           ·simp only [Act.put,List.setIfInBounds_toArray,List.set_cons_zero,List.set_cons_succ,Jo,Jq]
            rfl
           refine F3 (i := 1) (N := some 25) #[true,true,true,false,false] rfl rfl (by kernel_rfl) (by decide) (fun K hK => ?_)
           refine Uk Tryz.func11 (by kernel_rfl) rfl #[.agg #[.int .i64 ((Ze l0 Zn).f0),.string ((Ze l0 Zn).f1),.string ((Ze l0 Zn).f2),.bool ((Ze l0 Zn).f3),.slice V8 ((Ze l0 Zn).f4).length V9,.string ((Ze l0 Zn).f5),.string ((Ze l0 Zn).f6),.slice Yc ((Ze l0 Zn).f7).length Yd]] (by rfl) rfl rfl Yb ?_
           with_reducible refine (Zk.calls k1 ((Ze l0 Zn).f0) ((Ze l0 Zn).f1) ((Ze l0 Zn).f2) ((Ze l0 Zn).f3) _ _ ((Ze l0 Zn).f4) ((Ze l0 Zn).f5) ((Ze l0 Zn).f6) _ _ ((Ze l0 Zn).f7) Zfa _ ?side1 ?side2 ?side3 ?side4 A11.out).mono ?_
           (case side1 => repeat (first | exact (Kd.Vl Fb.out HB.out) | (with_reducible refine Kd.Vf ?_ _) | (with_reducible refine Kd.Vg ?_ _) | (with_reducible refine Kd.Vs ?_)))
           (case side2 => exact Fe.out)
           (case side3 => repeat (first | exact (Kd.Vl Ff.out HB.out) | (with_reducible refine Kd.Vf ?_ _) | (with_reducible refine Kd.Vg ?_ _) | (with_reducible refine Kd.Vs ?_)))
           (case side4 => exact Fg.out)
           rintro e w39 ⟨rfl,hb⟩
           refine ⟨_,rfl,?_⟩
           replace Js := Za.mk (Zw (g := Jp) (o := .cells #[.int .i64 ((Ze l0 Zn).f0),.string ((Ze l0 Zn).f1),.string ((Ze l0 Zn).f2),.bool ((Ze l0 Zn).f3),.slice V8 ((Ze l0 Zn).f4).length V9,.string ((Ze l0 Zn).f5),.string ((Ze l0 Zn).f6),.slice Yc ((Ze l0 Zn).f7).length Yd] 29 (0,0)) Qw hb)
           replace HB := Za.mk (Zm Vz hb)
           (try clear hb)
           (try clear hb2)
           (try clear hk)
           (try clear hi)
           refine hK.out _ _ ⟨(Zd Js.out 0).trans rfl,(Zd Js.out 1).trans rfl,(Zd Js.out 2).trans rfl,(Zd Js.out 3).trans rfl,(Zd Js.out 4).trans rfl,(Zd Js.out 5).trans rfl,(Zd Js.out 6).trans rfl,(Zd Js.out 7).trans rfl⟩ (fun hHeld => ?_)
           clear hK K
           refine Qr (a' := ?_) ?_ ?_
           rotate_left
           ·show Act.put _ (some 25) _ = _
            simp only [Act.put,List.setIfInBounds_toArray,List.set_cons_zero,List.set_cons_succ,Jo,Jq]
            rfl
           refine F3 (i := 3) (N := some 27) #[true,true,true,true,false] rfl rfl (by kernel_rfl) (by decide) (fun K hK => ?_)
           refine Uk Tryz.func12 (by kernel_rfl) rfl #[.agg #[.int .i64 ((Ze l0 Zn).f0),.string ((Ze l0 Zn).f1),.string ((Ze l0 Zn).f2),.bool ((Ze l0 Zn).f3),.slice V8 ((Ze l0 Zn).f4).length V9,.string ((Ze l0 Zn).f5),.string ((Ze l0 Zn).f6),.slice Yc ((Ze l0 Zn).f7).length Yd]] (by rfl) rfl rfl Yb ?_
           with_reducible refine (Zu.calls k1 ((Ze l0 Zn).f0) ((Ze l0 Zn).f1) ((Ze l0 Zn).f2) ((Ze l0 Zn).f3) _ _ ((Ze l0 Zn).f4) ((Ze l0 Zn).f5) ((Ze l0 Zn).f6) _ _ ((Ze l0 Zn).f7) Zbu _ ?side1 ?side2 ?side3 ?side4 A12.out).mono ?_
           (case side1 => repeat (first | exact (Kd.Vl Fb.out HB.out) | (with_reducible refine Kd.Vf ?_ _) | (with_reducible refine Kd.Vg ?_ _) | (with_reducible refine Kd.Vs ?_)))
           (case side2 => exact Fe.out)
           (case side3 => repeat (first | exact (Kd.Vl Ff.out HB.out) | (with_reducible refine Kd.Vf ?_ _) | (with_reducible refine Kd.Vg ?_ _) | (with_reducible refine Kd.Vs ?_)))
           (case side4 => exact Fg.out)
           rintro e w40 ⟨rfl,hb⟩
           refine ⟨_,rfl,?_⟩
           replace Js := Za.mk (Zw (g := Jp) (o := .cells #[.int .i64 ((Ze l0 Zn).f0),.string ((Ze l0 Zn).f1),.string ((Ze l0 Zn).f2),.bool ((Ze l0 Zn).f3),.slice V8 ((Ze l0 Zn).f4).length V9,.string ((Ze l0 Zn).f5),.string ((Ze l0 Zn).f6),.slice Yc ((Ze l0 Zn).f7).length Yd] 29 (0,0)) Qw hb)
           replace HB := Za.mk (Zm Vz hb)
           (try clear hb)
           (try clear hb2)
           (try clear hk)
           (try clear hi)
           refine hK.out _ _ ⟨(Zd Js.out 0).trans rfl,(Zd Js.out 1).trans rfl,(Zd Js.out 2).trans rfl,(Zd Js.out 3).trans rfl,(Zd Js.out 4).trans rfl,(Zd Js.out 5).trans rfl,(Zd Js.out 6).trans rfl,(Zd Js.out 7).trans rfl⟩ (fun hHeld => ?_)
           clear hK K
           refine Qr (a' := ?_) ?_ ?_
           rotate_left
           ·show Act.put _ (some 27) _ = _
            simp only [Act.put,List.setIfInBounds_toArray,List.set_cons_zero,List.set_cons_succ,Jo,Jq]
            rfl
           refine V3 (i := 4) (N := some 28) (v := ?_) (a' := ?_) #[true,true,true,true,true] rfl rfl (by kernel_rfl) (fun _ _ _ h => h) (Or.inl ⟨(by rfl),?_⟩) ?_ ?_
           rotate_left
           ·intro w'
            go_simp
            with_reducible rfl
           rotate_left
           ·simp only [Act.put,List.setIfInBounds_toArray,List.set_cons_zero,List.set_cons_succ,Jo,Jq]
            rfl
           refine j5 (by kernel_rfl) ?_
           obtain ⟨Zc0,Zc1,Zc2,Zc3,Zc4,Zc5,Zc6,Zc7,Zc8,Zc9,Zda,Zdb,Zdc,Zdd,Zde,Zdf⟩ := Jf Js.out
           try go_wp2_with (first | (go_at_call 12;(with_reducible refine (Zu.calls k1 ((Ze l0 Zn).f0) ((Ze l0 Zn).f1) ((Ze l0 Zn).f2) ((Ze l0 Zn).f3) _ _ ((Ze l0 Zn).f4) ((Ze l0 Zn).f5) ((Ze l0 Zn).f6) _ _ ((Ze l0 Zn).f7) false _ ?side1 ?side2 ?side3 ?side4 A21.out).mono ?_);(case side1 => repeat (first | exact (Kd.Vl Fb.out HB.out) | (with_reducible refine Kd.Vf ?_ _) | (with_reducible refine Kd.Vg ?_ _) | (with_reducible refine Kd.Vs ?_)));(case side2 => exact Fe.out);(case side3 => repeat (first | exact (Kd.Vl Ff.out HB.out) | (with_reducible refine Kd.Vf ?_ _) | (with_reducible refine Kd.Vg ?_ _) | (with_reducible refine Kd.Vs ?_)));(case side4 => exact Fg.out);rintro e w42 ⟨rfl,hb⟩;replace Js := Za.mk (Zw (g := Jp) (o := .cells #[.int .i64 ((Ze l0 Zn).f0),.string ((Ze l0 Zn).f1),.string ((Ze l0 Zn).f2),.bool ((Ze l0 Zn).f3),.slice V8 ((Ze l0 Zn).f4).length V9,.string ((Ze l0 Zn).f5),.string ((Ze l0 Zn).f6),.slice Yc ((Ze l0 Zn).f7).length Yd] 29 (0,0)) Qw hb);replace HB := Za.mk (Zm Vz hb);(try clear hb);(try clear hb2);(try clear hk);(try clear hi)))
           go_roundg k1
           case measure => have := HK1.out;omega
           case rel => exact ⟨(false),(Yj),(wrap64 (Zn + 1)),Qg,Qg,Qg,H',⟨(by have := HK1.out;omega)⟩,⟨Vz⟩⟩
         ·replace c20 := Bool.eq_false_iff.mpr c20
          subst c20
          have H1 : (Zg.l0 k1 l0 false Yj l0 (l0.length : Int) (wrap64 (Zn + 1))) = some r := by rw [if_neg (show ¬ (false = true) by decide)] at H;exact H
          clear H
          have H := H1
          clear H1
          have H' := Za.mk H
          clear H
          have Zbv : 0 ≤ (Zn : Int) := of_decide_eq_true Xu
          have Zbw : Zn < (l0.length : Int) := of_decide_eq_true Xu
          obtain ⟨Jg9,V8,V9,Yc,Yd,e307,Ke,Kg,Kh,Ki,Kj,Kk,Kl,Km,Nc,Nf,Ng,Nh⟩ := jb HR0.out Zn Zbv Zbw
          cases e307
          replace Ke := (HB.out.cell (World.block_lt_of_cell? w _ Ke)).trans Ke
          replace Kg := (HB.out.cell (World.block_lt_of_cell? w _ Kg)).trans Kg
          replace Kh := (HB.out.cell (World.block_lt_of_cell? w _ Kh)).trans Kh
          replace Ki := (HB.out.cell (World.block_lt_of_cell? w _ Ki)).trans Ki
          replace Kj := (HB.out.cell (World.block_lt_of_cell? w _ Kj)).trans Kj
          replace Kk := (HB.out.cell (World.block_lt_of_cell? w _ Kk)).trans Kk
          replace Kl := (HB.out.cell (World.block_lt_of_cell? w _ Kl)).trans Kl
          replace Km := (HB.out.cell (World.block_lt_of_cell? w _ Km)).trans Km
          have Fb := Za.mk Nf
          have Fe := Za.mk Nc
          clear Nf Nc
          have Ff := Za.mk Nh
          have Fg := Za.mk Ng
          clear Nh Ng
          replace Zbv := eq_true Zbv
          replace Zbw := eq_true Zbw
          try go_wp2_with (first | ((with_reducible refine Jg (N := 6) rfl ?_);(try (refine Jr (by rfl) ?_;dsimp only));refine Je ?hg (N := 6) ?hd (cs := #[.int .i64 0,.string (⟨#[]⟩ : ByteArray),.string (⟨#[]⟩ : ByteArray),.bool false,.slice none 0 0,.string (⟨#[]⟩ : ByteArray),.string (⟨#[]⟩ : ByteArray),.slice none 0 0]) (t := 29) ?hr ?_;(case hd => rfl);(case hg => rfl);(case hr => first | (go_simp;done) | (go_simp;rfl));intro Jp hg w43 hbox hb;have Js := Za.mk (hbox);have Jha := Za.mk ((Ye : w.heap.size ≤ Jp));have Ja0 := Za.mk ((Ye : w.heap.size ≤ Jp));replace HB := Za.mk (Zm J5 hb);clear hb hbox hg;obtain ⟨Zmw,Zmx,Zmy,Zvu,Zvv,Zvw,Zvx,Zvy,Zmz,Zm0,Zm1,Zvz,Zv0,Zv1,Zv2,Zv3⟩ := Jf Js.out))
          have Gt : Za (((((((((w43.setCell ⟨Jp,0,none⟩ (.int .i64 ((Ze l0 Zn).f0))).setCell ⟨Jp,1,none⟩ (.string ((Ze l0 Zn).f1))).setCell ⟨Jp,2,none⟩ (.string ((Ze l0 Zn).f2))).setCell ⟨Jp,3,none⟩ (.bool ((Ze l0 Zn).f3))).setCell ⟨Jp,4,none⟩ (.slice V8 ((Ze l0 Zn).f4).length V9)).setCell ⟨Jp,5,none⟩ (.string ((Ze l0 Zn).f5))).setCell ⟨Jp,6,none⟩ (.string ((Ze l0 Zn).f6))).setCell ⟨Jp,7,none⟩ (.slice Yc ((Ze l0 Zn).f7).length Yd)).heap[Jp]? = some (.cells #[.int .i64 ((Ze l0 Zn).f0),.string ((Ze l0 Zn).f1),.string ((Ze l0 Zn).f2),.bool ((Ze l0 Zn).f3),.slice V8 ((Ze l0 Zn).f4).length V9,.string ((Ze l0 Zn).f5),.string ((Ze l0 Zn).f6),.slice Yc ((Ze l0 Zn).f7).length Yd] 29 (0,0))) := ⟨Vh⟩
          have Hy : Za (Below w.heap.size w ((((((((w43.setCell ⟨Jp,0,none⟩ (.int .i64 ((Ze l0 Zn).f0))).setCell ⟨Jp,1,none⟩ (.string ((Ze l0 Zn).f1))).setCell ⟨Jp,2,none⟩ (.string ((Ze l0 Zn).f2))).setCell ⟨Jp,3,none⟩ (.bool ((Ze l0 Zn).f3))).setCell ⟨Jp,4,none⟩ (.slice V8 ((Ze l0 Zn).f4).length V9)).setCell ⟨Jp,5,none⟩ (.string ((Ze l0 Zn).f5))).setCell ⟨Jp,6,none⟩ (.string ((Ze l0 Zn).f6))).setCell ⟨Jp,7,none⟩ (.slice Yc ((Ze l0 Zn).f7).length Yd))) := ⟨Vz⟩
          (try clear Js)
          (try clear HB)
          generalize ((((((((w43.setCell ⟨Jp,0,none⟩ (.int .i64 ((Ze l0 Zn).f0))).setCell ⟨Jp,1,none⟩ (.string ((Ze l0 Zn).f1))).setCell ⟨Jp,2,none⟩ (.string ((Ze l0 Zn).f2))).setCell ⟨Jp,3,none⟩ (.bool ((Ze l0 Zn).f3))).setCell ⟨Jp,4,none⟩ (.slice V8 ((Ze l0 Zn).f4).length V9)).setCell ⟨Jp,5,none⟩ (.string ((Ze l0 Zn).f5))).setCell ⟨Jp,6,none⟩ (.string ((Ze l0 Zn).f6))).setCell ⟨Jp,7,none⟩ (.slice Yc ((Ze l0 Zn).f7).length Yd)) = w45 at Gt Hy ⊢
          have Js := Gt
          have HB := Hy
          clear Gt Hy
          replace Js := Za.mk (Zf Js.out)
          replace HB := Za.mk (Zz HB.out)
          refine Hd (n := 5) (S := fun w' => w'.cell? ⟨Jp,0,none⟩ = some (.int .i64 ((Ze l0 Zn).f0)) ∧ w'.cell? ⟨Jp,1,none⟩ = some (.string ((Ze l0 Zn).f1)) ∧ w'.cell? ⟨Jp,2,none⟩ = some (.string ((Ze l0 Zn).f2)) ∧ w'.cell? ⟨Jp,3,none⟩ = some (.bool ((Ze l0 Zn).f3)) ∧ w'.cell? ⟨Jp,4,none⟩ = some (.slice V8 ((Ze l0 Zn).f4).length V9) ∧ w'.cell? ⟨Jp,5,none⟩ = some (.string ((Ze l0 Zn).f5)) ∧ w'.cell? ⟨Jp,6,none⟩ = some (.string ((Ze l0 Zn).f6)) ∧ w'.cell? ⟨Jp,7,none⟩ = some (.slice Yc ((Ze l0 Zn).f7).length Yd)) (ds := []) #[false,false,false,false,false] (by kernel_rfl) rfl rfl ⟨(Zd Js.out 0).trans rfl,(Zd Js.out 1).trans rfl,(Zd Js.out 2).trans rfl,(Zd Js.out 3).trans rfl,(Zd Js.out 4).trans rfl,(Zd Js.out 5).trans rfl,(Zd Js.out 6).trans rfl,(Zd Js.out 7).trans rfl⟩ (fun hHeld => ?_)
          generalize w45.drew = w46 at Js HB hHeld ⊢
          refine Qx (i := 0) (N := some 24) (v := ?_) (a' := ?_) #[true,false,false,false,false] rfl rfl (by kernel_rfl) (fun _ _ _ h => h) (Or.inl ⟨(by rfl),?_⟩) hHeld ?_ ?_
          rotate_left
          ·rintro w' ⟨s0,s1,s2,s3,s4,s5,s6,s7⟩
           go_simp
           with_reducible rfl
          rotate_left
          ·simp only [Act.put,List.setIfInBounds_toArray,List.set_cons_zero,List.set_cons_succ,Jo,Jq]
           rfl
          refine Qx (i := 2) (N := some 26) (v := ?_) (a' := ?_) #[true,false,true,false,false] rfl rfl (by kernel_rfl) (fun _ _ _ h => h) (Or.inl ⟨(by rfl),?_⟩) hHeld ?_ ?_
          rotate_left
          ·rintro w' ⟨s0,s1,s2,s3,s4,s5,s6,s7⟩
           go_simp
           with_reducible rfl
          rotate_left
          ·simp only [Act.put,List.setIfInBounds_toArray,List.set_cons_zero,List.set_cons_succ,Jo,Jq]
           rfl
          refine F3 (i := 1) (N := some 25) #[true,true,true,false,false] rfl rfl (by kernel_rfl) (by decide) (fun K hK => ?_)
          refine Uk Tryz.func11 (by kernel_rfl) rfl #[.agg #[.int .i64 ((Ze l0 Zn).f0),.string ((Ze l0 Zn).f1),.string ((Ze l0 Zn).f2),.bool ((Ze l0 Zn).f3),.slice V8 ((Ze l0 Zn).f4).length V9,.string ((Ze l0 Zn).f5),.string ((Ze l0 Zn).f6),.slice Yc ((Ze l0 Zn).f7).length Yd]] (by rfl) rfl rfl Yb ?_
          with_reducible refine (Zk.calls k1 ((Ze l0 Zn).f0) ((Ze l0 Zn).f1) ((Ze l0 Zn).f2) ((Ze l0 Zn).f3) _ _ ((Ze l0 Zn).f4) ((Ze l0 Zn).f5) ((Ze l0 Zn).f6) _ _ ((Ze l0 Zn).f7) Zfa _ ?side1 ?side2 ?side3 ?side4 A11.out).mono ?_
          (case side1 => repeat (first | exact (Kd.Vl Fb.out HB.out) | (with_reducible refine Kd.Vf ?_ _) | (with_reducible refine Kd.Vg ?_ _) | (with_reducible refine Kd.Vs ?_)))
          (case side2 => exact Fe.out)
          (case side3 => repeat (first | exact (Kd.Vl Ff.out HB.out) | (with_reducible refine Kd.Vf ?_ _) | (with_reducible refine Kd.Vg ?_ _) | (with_reducible refine Kd.Vs ?_)))
          (case side4 => exact Fg.out)
          rintro e w47 ⟨rfl,hb⟩
          refine ⟨_,rfl,?_⟩
          replace Js := Za.mk (Zw (g := Jp) (o := .cells #[.int .i64 ((Ze l0 Zn).f0),.string ((Ze l0 Zn).f1),.string ((Ze l0 Zn).f2),.bool ((Ze l0 Zn).f3),.slice V8 ((Ze l0 Zn).f4).length V9,.string ((Ze l0 Zn).f5),.string ((Ze l0 Zn).f6),.slice Yc ((Ze l0 Zn).f7).length Yd] 29 (0,0)) Qw hb)
          replace HB := Za.mk (Zm Vz hb)
          (try clear hb)
          (try clear hb2)
          (try clear hk)
          (try clear hi)
          refine hK.out _ _ ⟨(Zd Js.out 0).trans rfl,(Zd Js.out 1).trans rfl,(Zd Js.out 2).trans rfl,(Zd Js.out 3).trans rfl,(Zd Js.out 4).trans rfl,(Zd Js.out 5).trans rfl,(Zd Js.out 6).trans rfl,(Zd Js.out 7).trans rfl⟩ (fun hHeld => ?_)
          clear hK K
          refine Qr (a' := ?_) ?_ ?_
          rotate_left
          ·show Act.put _ (some 25) _ = _
           simp only [Act.put,List.setIfInBounds_toArray,List.set_cons_zero,List.set_cons_succ,Jo,Jq]
           rfl
          refine F3 (i := 3) (N := some 27) #[true,true,true,true,false] rfl rfl (by kernel_rfl) (by decide) (fun K hK => ?_)
          refine Uk Tryz.func12 (by kernel_rfl) rfl #[.agg #[.int .i64 ((Ze l0 Zn).f0),.string ((Ze l0 Zn).f1),.string ((Ze l0 Zn).f2),.bool ((Ze l0 Zn).f3),.slice V8 ((Ze l0 Zn).f4).length V9,.string ((Ze l0 Zn).f5),.string ((Ze l0 Zn).f6),.slice Yc ((Ze l0 Zn).f7).length Yd]] (by rfl) rfl rfl Yb ?_
          with_reducible refine (Zu.calls k1 ((Ze l0 Zn).f0) ((Ze l0 Zn).f1) ((Ze l0 Zn).f2) ((Ze l0 Zn).f3) _ _ ((Ze l0 Zn).f4) ((Ze l0 Zn).f5) ((Ze l0 Zn).f6) _ _ ((Ze l0 Zn).f7) Zbu _ ?side1 ?side2 ?side3 ?side4 A12.out).mono ?_
          (case side1 => repeat (first | exact (Kd.Vl Fb.out HB.out) | (with_reducible refine Kd.Vf ?_ _) | (with_reducible refine Kd.Vg ?_ _) | (with_reducible refine Kd.Vs ?_)))
          (case side2 => exact Fe.out)
          (case side3 => repeat (first | exact (Kd.Vl Ff.out HB.out) | (with_reducible refine Kd.Vf ?_ _) | (with_reducible refine Kd.Vg ?_ _) | (with_reducible refine Kd.Vs ?_)))
          (case side4 => exact Fg.out)
          rintro e w48 ⟨rfl,hb⟩
          refine ⟨_,rfl,?_⟩
          replace Js := Za.mk (Zw (g := Jp) (o := .cells #[.int .i64 ((Ze l0 Zn).f0),.string ((Ze l0 Zn).f1),.string ((Ze l0 Zn).f2),.bool ((Ze l0 Zn).f3),.slice V8 ((Ze l0 Zn).f4).length V9,.string ((Ze l0 Zn).f5),.string ((Ze l0 Zn).f6),.slice Yc ((Ze l0 Zn).f7).length Yd] 29 (0,0)) Qw hb)
          replace HB := Za.mk (Zm Vz hb)
          (try clear hb)
          (try clear hb2)
          (try clear hk)
          (try clear hi)
          refine hK.out _ _ ⟨(Zd Js.out 0).trans rfl,(Zd Js.out 1).trans rfl,(Zd Js.out 2).trans rfl,(Zd Js.out 3).trans rfl,(Zd Js.out 4).trans rfl,(Zd Js.out 5).trans rfl,(Zd Js.out 6).trans rfl,(Zd Js.out 7).trans rfl⟩ (fun hHeld => ?_)
          clear hK K
          refine Qr (a' := ?_) ?_ ?_
          rotate_left
          ·show Act.put _ (some 27) _ = _
           simp only [Act.put,List.setIfInBounds_toArray,List.set_cons_zero,List.set_cons_succ,Jo,Jq]
           rfl
          refine V3 (i := 4) (N := some 28) (v := ?_) (a' := ?_) #[true,true,true,true,true] rfl rfl (by kernel_rfl) (fun _ _ _ h => h) (Or.inl ⟨(by rfl),?_⟩) ?_ ?_
          rotate_left
          ·intro w'
           go_simp
           with_reducible rfl
          rotate_left
          ·simp only [Act.put,List.setIfInBounds_toArray,List.set_cons_zero,List.set_cons_succ,Jo,Jq]
           rfl
          refine j5 (by kernel_rfl) ?_
          try go_wp2
          go_roundg k1
          case measure => have := HK1.out;omega
          case rel => exact ⟨(false),(Yj),(wrap64 (Zn + 1)),Qg,Qg,Qg,H',⟨(by have := HK1.out;omega)⟩,⟨Vz⟩⟩
       ·rw [if_neg c10] at H
        exact absurd H (by simp)
      ·rw [if_neg c9] at H
       exact absurd H (by simp)
     ·rw [if_neg c8] at H
      have Zfr : decide (Zn < (l0.length : Int)) = false := decide_eq_false c8
      clear c8
      replace H := Option.bind_eq_some_iff.mp H
      obtain ⟨⟨Sm,Zbc⟩,J3s,H⟩ := H
      replace H : (if Zk8 = true then ((Vm.f Sm).bind fun Wl => (if Zbc = 0 then (if Wl.2.2 = 0 then (if (strOfNums Sm).toList = Yj.toList then (if Wl.2.1 = (Sm.length : Int) then (Zg.j1 k1 l0 Wl.1 ((Wl.1.length : Int) != (l0.length : Int))) else (Zg.j1 k1 l0 Wl.1 true)) else (Zg.j1 k1 l0 Wl.1 true)) else (Zg.j1 k1 l0 Wl.1 true)) else (Zg.j1 k1 l0 Wl.1 true))) else (if Zbc = 1 then (some ((Sm.length : Int) == 0)) else (some false))) = some r := H
      have A49 := Za.mk J3s
      clear J3s
      by_cases c50 : Zk8 = true
      ·subst c50
       have H1 : ((Vm.f Sm).bind fun Wl => (if Zbc = 0 then (if Wl.2.2 = 0 then (if (strOfNums Sm).toList = Yj.toList then (if Wl.2.1 = (Sm.length : Int) then (Zg.j1 k1 l0 Wl.1 ((Wl.1.length : Int) != (l0.length : Int))) else (Zg.j1 k1 l0 Wl.1 true)) else (Zg.j1 k1 l0 Wl.1 true)) else (Zg.j1 k1 l0 Wl.1 true)) else (Zg.j1 k1 l0 Wl.1 true))) = some r := by rw [if_pos rfl] at H;exact H
       clear H
       have H := H1
       clear H1
       replace H := Option.bind_eq_some_iff.mp H
       obtain ⟨⟨Yn,Z4k,Z4l⟩,J3t,H⟩ := H
       replace H : (if Zbc = 0 then (if Z4l = 0 then (if (strOfNums Sm).toList = Yj.toList then (if Z4k = (Sm.length : Int) then (Zg.j1 k1 l0 Yn ((Yn.length : Int) != (l0.length : Int))) else (Zg.j1 k1 l0 Yn true)) else (Zg.j1 k1 l0 Yn true)) else (Zg.j1 k1 l0 Yn true)) else (Zg.j1 k1 l0 Yn true)) = some r := H
       have A51 := Za.mk J3t
       clear J3t
       have Jrb := Za.mk H
       clear H
       go_upto_region 20 with (first | ((with_reducible refine Z7 (f := 14) rfl ?_);refine Ju (some 42) rfl rfl Tryz.func14 (by kernel_rfl) rfl #[.slice A0 l0.length c0] rfl Yb ?_;(with_reducible refine (J8.calls _ _ l0 Sm Zbc _ ?side1 ?side2 A49.out).mono ?_);(case side1 => repeat (first | exact (Kd.Vl HR0.out HB.out) | (with_reducible refine Kd.Vf ?_ _) | (with_reducible refine Kd.Vg ?_ _) | (with_reducible refine Kd.Vs ?_)));(case side2 => exact HC0.out);rintro e w53 ⟨J3u,rfl,ho0,hb⟩;refine ⟨_,rfl,?_⟩;have Zbx := Za.mk (Kd.Sv (Kd.fw (ok' := fun k_ => True) ho0 (fun k_ hk_ => trivial)) (Jh J5));replace HB := Za.mk (Zm J5 hb);(try clear hb);(try clear hb2);(try clear hk);(try clear hi);(try clear ho0);obtain ⟨Vez,Ve0,Ve1⟩ := Kd.fu Zbx.out;subst Ve1) | ((with_reducible refine Z7 (f := 15) rfl ?_);refine Ju (some 56) rfl rfl Tryz.func15 (by kernel_rfl) rfl #[.slice Vez Sm.length Ve0] rfl Yb ?_;(with_reducible refine (Vm.calls _ _ Sm Yn Z4k Z4l _ ?side1 ?side2 A51.out).mono ?_);(case side1 => repeat (first | exact (Kd.Qc Zbx.out).2.2 | (with_reducible refine Kd.Vf ?_ _) | (with_reducible refine Kd.Vg ?_ _) | (with_reducible refine Kd.Vs ?_)));(case side2 => exact (Kd.Qc Zbx.out).2.1);rintro e w55 ⟨Ve2,rfl,ho0,hb⟩;refine ⟨_,rfl,?_⟩;replace Zbx := Za.mk (Kd.Zbh (by (with_reducible repeat (first | apply Kd.Z4x | apply Kd.Z4y | apply Kd.Jdq));exact Zbx.out) (Kd.fq ho0) hb);have Jnl := Za.mk (Kd.Lf ho0 (Jh J5));replace HB := Za.mk (Zm J5 hb);(try clear hb);(try clear hb2);(try clear hk);(try clear hi);(try clear ho0)))
       (try simp only [Act.put,List.setIfInBounds_toArray,List.set_cons_zero,List.set_cons_succ])
       go_cut [84] (fun v84 wc => ∃ (kq : Nat) (Zy7 : Bool),v84 = .bool Zy7 ∧ Za (Zg.j1 kq l0 Yn Zy7 = some r) ∧ Za (kq ≤ k1) ∧ Za (Kd.S k29 29 wc w.heap.size (fun _ => True) Ve2 Yn) ∧ Za (Below w.heap.size w wc))
       case first =>
        have H := Jrb.out
        clear Jrb
        by_cases c56 : Zbc = 0
        ·rw [if_pos c56] at H
         have Zmc : (Zbc == 0) = true := beq_iff_eq.mpr c56
         have Jhb : (Zbc != 0) = false := bne_eq_false_iff_eq.mpr c56
         clear c56
         (first | rw [Zmc] | (simp only [Jo,Jq];rw [Zmc]) | skip)
         by_cases c57 : Z4l = 0
         ·rw [if_pos c57] at H
          have Zr1 : (Z4l == 0) = true := beq_iff_eq.mpr c57
          have Jhc : (Z4l != 0) = false := bne_eq_false_iff_eq.mpr c57
          clear c57
          by_cases c58 : (strOfNums Sm).toList = Yj.toList
          ·rw [if_pos c58] at H
           have Ztz : ((strOfNums Sm).toList == Yj.toList) = true := beq_iff_eq.mpr c58
           have Jhd : ((strOfNums Sm).toList != Yj.toList) = false := bne_eq_false_iff_eq.mpr c58
           clear c58
           by_cases c59 : Z4k = (Sm.length : Int)
           ·rw [if_pos c59] at H
            have Z01 : (Z4k == (Sm.length : Int)) = true := beq_iff_eq.mpr c59
            have Jhe : (Z4k != (Sm.length : Int)) = false := bne_eq_false_iff_eq.mpr c59
            clear c59
            have H' := Za.mk H
            clear H
            have Jno := fun (c_ : Nat) => Kd.Le (c := c_) (P := Tryz.prog) Tryz.underlying32 Tryz.underlying5 Tryz.underlying9 (Kd.Qc Zbx.out).2.2
            obtain ⟨Vmb,Vmc,Ve3⟩ := Kd.Lg Jnl.out
            subst Ve3
            go_wp2
            go_meet
            case rel => exact ⟨_,(((Yn.length : Int) != (l0.length : Int))),Qg,H',⟨Pd⟩,⟨Qy⟩,⟨J5⟩⟩
           ·rw [if_neg c59] at H
            have Z01 : (Z4k == (Sm.length : Int)) = false := beq_eq_false_iff_ne.mpr c59
            have Jhe : (Z4k != (Sm.length : Int)) = true := bne_iff_ne.mpr c59
            have H' := Za.mk H
            clear H
            have Jnp := fun (c_ : Nat) => Kd.Le (c := c_) (P := Tryz.prog) Tryz.underlying32 Tryz.underlying5 Tryz.underlying9 (Kd.Qc Zbx.out).2.2
            go_wp2
            go_meet
            case rel => exact ⟨_,(true),Qg,H',⟨Pd⟩,⟨Qy⟩,⟨J5⟩⟩
          ·rw [if_neg c58] at H
           have Ztz : ((strOfNums Sm).toList == Yj.toList) = false := beq_eq_false_iff_ne.mpr c58
           have Jhd : ((strOfNums Sm).toList != Yj.toList) = true := bne_iff_ne.mpr c58
           have H' := Za.mk H
           clear H
           have Jnq := fun (c_ : Nat) => Kd.Le (c := c_) (P := Tryz.prog) Tryz.underlying32 Tryz.underlying5 Tryz.underlying9 (Kd.Qc Zbx.out).2.2
           go_wp2
           go_meet
           case rel => exact ⟨_,(true),Qg,H',⟨Pd⟩,⟨Qy⟩,⟨J5⟩⟩
         ·rw [if_neg c57] at H
          have Zr1 : (Z4l == 0) = false := beq_eq_false_iff_ne.mpr c57
          have Jhc : (Z4l != 0) = true := bne_iff_ne.mpr c57
          have H' := Za.mk H
          clear H
          go_wp2
          go_meet
          case rel => exact ⟨_,(true),Qg,H',⟨Pd⟩,⟨Qy⟩,⟨J5⟩⟩
        ·rw [if_neg c56] at H
         have Zmc : (Zbc == 0) = false := beq_eq_false_iff_ne.mpr c56
         have Jhb : (Zbc != 0) = true := bne_iff_ne.mpr c56
         (first | rw [Zmc] | (simp only [Jo,Jq];rw [Zmc]) | skip)
         have H' := Za.mk H
         clear H
         go_wp2
         go_meet
         case rel => exact ⟨_,(true),Qg,H',⟨Pd⟩,⟨Qy⟩,⟨J5⟩⟩
       case rest =>
        clear Jrb
        try clear c1
        try clear c2
        try clear p2
        try clear c3
        try clear p3
        try clear q3
        try clear hx3
        try clear c5
        try clear p6
        try clear hcv6
        try clear c8
        try clear Zfr
        try clear c9
        try clear c10
        try clear c11
        try clear c12
        try clear c13
        try clear Sq
        try clear jf
        try clear Zt2
        try clear c14
        try clear c15
        try clear c20
        try clear Pq
        try clear c24
        try clear Zlx
        try clear Zly
        try clear Jnn
        try clear c30
        try clear p30
        try clear q30
        try clear J3o
        try clear c50
        try clear c56
        try clear Zmc
        try clear Jhb
        try clear c57
        try clear Zr1
        try clear Jhc
        try clear c58
        try clear Ztz
        try clear Jhd
        try clear c59
        try clear Z01
        try clear Jhe
        try clear Jno
        try clear Jnp
        try clear Jnq
        try clear Ps Pt Pv Zem Zen Zeo Zep Zeq
        try clear Zgl Zgm Zgn Ja1 Ja2 Ja3 Ja4 Ja5
        try clear Uz U0 U1 Wx Wy Wz W9 Da
        try clear gu gy gz Zew Zex Zey Zez Ze0
        try clear Zc0 Zc1 Zc2 Zc3 Zc4 Zc5 Zc6 Zc7
        try clear Zmw Zmx Zmy Zvu Zvv Zvw Zvx Zvy
        try clear Pw Px Py Zer Zes Zet Zeu Zev
        try clear Zgo Zgp Zgq Ja6 Ja7 Ja8 Ja9 Jba
        try clear U2 U3 U4 Db Dc De Df Dg
        try clear lc lg lh Ze1 Ze2 Ze3 Ze4 Ze5
        try clear Zc8 Zc9 Zda Zdb Zdc Zdd Zde Zdf
        try clear Zmz Zm0 Zm1 Zvz Zv0 Zv1 Zv2 Zv3
        try clear Ke
        try clear Kg
        try clear Kh
        try clear Ki
        try clear Kj
        try clear Kk
        try clear Kl
        try clear Km
        try clear Zbv
        try clear Zbw
        obtain ⟨kq,Zy7,rfl,HA,J3v,Zbt,HB⟩ := hcut
        cases kq with
        | zero => exact absurd HA.out (by simp [Zg.j1])
        | succ Jrc =>
         have H := HA.out
         clear HA
         simp only [Zg.j1] at H
         by_cases c64 : Zy7 = true
         ·subst c64
          have H1 : (some false) = some r := by rw [if_pos rfl] at H;exact H
          clear H
          have H := H1
          clear H1
          obtain rfl := Option.some.inj H
          go_wp2
          go_ret
          exact ⟨Dx,J5⟩
         ·replace c64 := Bool.eq_false_iff.mpr c64
          subst c64
          have H1 : (Zg.l1 Jrc l0 Yn (Yn.length : Int) 0) = some r := by rw [if_neg (show ¬ (false = true) by decide)] at H;exact H
          clear H
          have H := H1
          clear H1
          have H' := Za.mk H
          clear H
          obtain ⟨Ve4,Ve5,Ve6⟩ := Kd.Lg Zbt.out
          subst Ve6
          go_wp2
          go_loopg [87] Jrc (fun kq v87 w' => ∃ (Jj : Int),v87 = .int .i64 Jj ∧ Za (Zg.l1 kq l0 Yn (Yn.length : Int) Jj = some r) ∧ Za (kq ≤ Jrc) ∧ Za (Kd.S k29 29 w' w.heap.size (fun _ => True) (.slice Ve4 Yn.length Ve5) Yn) ∧ Za (Below w.heap.size w w'))
          case atStart => exact ⟨(0),Qg,H',⟨Nat.le_refl _⟩,⟨Xv⟩,⟨J5⟩⟩
          case round =>
           clear H'
           try clear c1
           try clear c2
           try clear p2 p2
           try clear c3
           try clear p3 p3
           try clear q3 q3
           try clear hx3
           try clear c5
           try clear c6
           try clear p6 p6
           try clear hcv6
           try clear c8
           try clear Zfr
           try clear c9
           try clear c10
           try clear c11
           try clear c12
           try clear c13
           try clear Sq
           try clear jf
           try clear Zt2
           try clear c14
           try clear c15
           try clear c20
           try clear Pq
           try clear c24
           try clear Zlx
           try clear Zly
           try clear Jnn
           try clear c30
           try clear p30 p30
           try clear q30 q30
           try clear J3o
           try clear c50
           try clear c56
           try clear Zmc
           try clear Jhb
           try clear c57
           try clear Zr1
           try clear Jhc
           try clear c58
           try clear Ztz
           try clear Jhd
           try clear c59
           try clear Z01
           try clear Jhe
           try clear Jno
           try clear Jnp
           try clear Jnq
           try clear c64
           try clear p64
           try clear Ps Pt Pv Zem Zen Zeo Zep Zeq
           try clear Zgl Zgm Zgn Ja1 Ja2 Ja3 Ja4 Ja5
           try clear Uz U0 U1 Wx Wy Wz W9 Da
           try clear gu gy gz Zew Zex Zey Zez Ze0
           try clear Zc0 Zc1 Zc2 Zc3 Zc4 Zc5 Zc6 Zc7
           try clear Zmw Zmx Zmy Zvu Zvv Zvw Zvx Zvy
           try clear Pw Px Py Zer Zes Zet Zeu Zev
           try clear Zgo Zgp Zgq Ja6 Ja7 Ja8 Ja9 Jba
           try clear U2 U3 U4 Db Dc De Df Dg
           try clear lc lg lh Ze1 Ze2 Ze3 Ze4 Ze5
           try clear Zc8 Zc9 Zda Zdb Zdc Zdd Zde Zdf
           try clear Zmz Zm0 Zm1 Zvz Zv0 Zv1 Zv2 Zv3
           try clear Ke
           try clear Kg
           try clear Kh
           try clear Ki
           try clear Kj
           try clear Kk
           try clear Kl
           try clear Km
           try clear Zbv
           try clear Zbw
           obtain ⟨Jj,rfl,HA,HK3,Zbt,HB⟩ := hrel
           cases gk with
           | zero => exact absurd HA.out (by simp [Zg.l1])
           | succ k3 =>
            have H := HA.out
            clear HA
            simp only [Zg.l1] at H
            by_cases c66 : Jj < (Yn.length : Int)
            ·rw [if_pos c66] at H
             have J3w : decide (Jj < (Yn.length : Int)) = true := decide_eq_true c66
             clear c66
             by_cases c67 : 0 ≤ Jj
             ·rw [if_pos c67] at H
              have Jwv : decide (0 ≤ Jj) = true := decide_eq_true c67
              clear c67
              by_cases c68 : Jj < (Yn.length : Int)
              ·rw [if_pos c68] at H
               have Vi5 : decide (Jj < (Yn.length : Int)) = true := decide_eq_true c68
               clear c68
               by_cases c69 : Jj < (l0.length : Int)
               ·rw [if_pos c69] at H
                have Vi6 : decide (Jj < (l0.length : Int)) = true := decide_eq_true c69
                clear c69
                replace H := Option.bind_eq_some_iff.mp H
                obtain ⟨Jld,J3x,H⟩ := H
                replace H : (if Jld = true then (Zg.l1 k3 l0 Yn (Yn.length : Int) (wrap64 (Jj + 1))) else (some false)) = some r := H
                have A70 := Za.mk J3x
                clear J3x
                by_cases c71 : Jld = true
                ·subst c71
                 have H1 : (Zg.l1 k3 l0 Yn (Yn.length : Int) (wrap64 (Jj + 1))) = some r := by rw [if_pos rfl] at H;exact H
                 clear H
                 have H := H1
                 clear H1
                 have H' := Za.mk H
                 clear H
                 try go_wp2
                 replace Zbt := Za.mk (Kd.Zp0 Zbt.out)
                 replace HB := Za.mk (Zz HB.out)
                 have Zy8 : 0 ≤ (Jj : Int) := of_decide_eq_true Xu
                 have Zy9 : Jj < (Yn.length : Int) := of_decide_eq_true Xu
                 obtain ⟨Uh,Zsf,Zsg,Zsh,Zsi,Jrd,Zjt,Zju,Zjv,Zjw,Zau,Zjx,Zjy,Zav,Zjz,Zj0,Zj1,Zj2⟩ := jb (Kd.Qb Zbt.out).2.2 Jj Zy8 Zy9
                 cases Jrd
                 obtain ⟨J3y,Z4m,Z4n,Zf0⟩ := Kd.Jdh Zbt.out z29 Jj Zy8 (by first | exact Zy9 | exact of_decide_eq_true Xu | (have e_ := (Kd.Qb Zbt.out).1;omega))
                 obtain ⟨Jle,Jlf,rfl,Zaw,Zax⟩ := Zkh Z4n
                 have Ni := Zf0 4 _ rfl
                 rw [Qd _ _ 4 (by omega)] at Ni
                 replace Ni := Option.some.inj (Ni.symm.trans Zau)
                 rw [Ni] at Zaw
                 have Zay := Za.mk (show Kd.R Kd.string 9 _ _ _ _ ((Ze Yn Jj).f4) from Zaw)
                 clear Ni Zaw
                 have Nj := Zf0 7 _ rfl
                 rw [Qd _ _ 7 (by omega)] at Nj
                 replace Nj := Option.some.inj (Nj.symm.trans Zav)
                 rw [Nj] at Zax
                 have Zaz := Za.mk (show Kd.R k44 44 _ _ _ _ ((Ze Yn Jj).f7) from Zax)
                 clear Nj Zax Zf0 Z4m
                 have Zas := Za.mk Zj0
                 have Zza := Za.mk Zjz
                 clear Zj0 Zjz
                 have Zat := Za.mk Zj2
                 have Zzb := Za.mk Zj1
                 clear Zj2 Zj1
                 replace Zy8 := eq_true Zy8
                 replace Zy9 := eq_true Zy9
                 have Z4o : 0 ≤ (Jj : Int) := of_decide_eq_true Xu
                 have Z4p : Jj < (l0.length : Int) := of_decide_eq_true Xu
                 obtain ⟨Ui,Zsj,Zsk,Zsl,Zsm,e323,Nk,Nl,Nn,Np,Nq,Nr,Ns,Nt,Zj3,Zj4,Zj5,Zj6⟩ := jb HR0.out Jj Z4o Z4p
                 have ze := Nt
                 have zf := Ns
                 have zg := Nr
                 have zh := Nq
                 have zi := Np
                 have zk := Nn
                 have zl := Nl
                 have zm := Nk
                 cases e323
                 replace Nk := (HB.out.cell (World.block_lt_of_cell? w _ Nk)).trans Nk
                 replace Nl := (HB.out.cell (World.block_lt_of_cell? w _ Nl)).trans Nl
                 replace Nn := (HB.out.cell (World.block_lt_of_cell? w _ Nn)).trans Nn
                 replace Np := (HB.out.cell (World.block_lt_of_cell? w _ Np)).trans Np
                 replace Nq := (HB.out.cell (World.block_lt_of_cell? w _ Nq)).trans Nq
                 replace Nr := (HB.out.cell (World.block_lt_of_cell? w _ Nr)).trans Nr
                 replace Ns := (HB.out.cell (World.block_lt_of_cell? w _ Ns)).trans Ns
                 replace Nt := (HB.out.cell (World.block_lt_of_cell? w _ Nt)).trans Nt
                 have Zj7 := Za.mk Zj4
                 have Zzc := Za.mk Zj3
                 clear Zj4 Zj3
                 have Zj8 := Za.mk Zj6
                 have Zzd := Za.mk Zj5
                 clear Zj6 Zj5
                 replace Z4o := eq_true Z4o
                 replace Z4p := eq_true Z4p
                 refine Hd (n := 10) (S := fun w' => w'.cell? (Uh.add ((Jj).toNat * 8)) = some (.int .i64 ((Ze Yn Jj).f0)) ∧ w'.cell? ⟨(Uh.add ((Jj).toNat * 8)).block,(Uh.add ((Jj).toNat * 8)).off + 1,none⟩ = some (.string ((Ze Yn Jj).f1)) ∧ w'.cell? ⟨(Uh.add ((Jj).toNat * 8)).block,(Uh.add ((Jj).toNat * 8)).off + 2,none⟩ = some (.string ((Ze Yn Jj).f2)) ∧ w'.cell? ⟨(Uh.add ((Jj).toNat * 8)).block,(Uh.add ((Jj).toNat * 8)).off + 3,none⟩ = some (.bool ((Ze Yn Jj).f3)) ∧ w'.cell? ⟨(Uh.add ((Jj).toNat * 8)).block,(Uh.add ((Jj).toNat * 8)).off + 4,none⟩ = some (.slice Zsf ((Ze Yn Jj).f4).length Zsg) ∧ w'.cell? ⟨(Uh.add ((Jj).toNat * 8)).block,(Uh.add ((Jj).toNat * 8)).off + 5,none⟩ = some (.string ((Ze Yn Jj).f5)) ∧ w'.cell? ⟨(Uh.add ((Jj).toNat * 8)).block,(Uh.add ((Jj).toNat * 8)).off + 6,none⟩ = some (.string ((Ze Yn Jj).f6)) ∧ w'.cell? ⟨(Uh.add ((Jj).toNat * 8)).block,(Uh.add ((Jj).toNat * 8)).off + 7,none⟩ = some (.slice Zsh ((Ze Yn Jj).f7).length Zsi) ∧ w'.cell? (Ui.add ((Jj).toNat * 8)) = some (.int .i64 ((Ze l0 Jj).f0)) ∧ w'.cell? ⟨(Ui.add ((Jj).toNat * 8)).block,(Ui.add ((Jj).toNat * 8)).off + 1,none⟩ = some (.string ((Ze l0 Jj).f1)) ∧ w'.cell? ⟨(Ui.add ((Jj).toNat * 8)).block,(Ui.add ((Jj).toNat * 8)).off + 2,none⟩ = some (.string ((Ze l0 Jj).f2)) ∧ w'.cell? ⟨(Ui.add ((Jj).toNat * 8)).block,(Ui.add ((Jj).toNat * 8)).off + 3,none⟩ = some (.bool ((Ze l0 Jj).f3)) ∧ w'.cell? ⟨(Ui.add ((Jj).toNat * 8)).block,(Ui.add ((Jj).toNat * 8)).off + 4,none⟩ = some (.slice Zsj ((Ze l0 Jj).f4).length Zsk) ∧ w'.cell? ⟨(Ui.add ((Jj).toNat * 8)).block,(Ui.add ((Jj).toNat * 8)).off + 5,none⟩ = some (.string ((Ze l0 Jj).f5)) ∧ w'.cell? ⟨(Ui.add ((Jj).toNat * 8)).block,(Ui.add ((Jj).toNat * 8)).off + 6,none⟩ = some (.string ((Ze l0 Jj).f6)) ∧ w'.cell? ⟨(Ui.add ((Jj).toNat * 8)).block,(Ui.add ((Jj).toNat * 8)).off + 7,none⟩ = some (.slice Zsl ((Ze l0 Jj).f7).length Zsm)) (ds := []) #[false,false,false,false,false,false,false,false,false,false] (by kernel_rfl) rfl rfl ⟨Zjt,Zju,Zjv,Zjw,Zau,Zjx,Zjy,Zav,((HB.out.cell (World.block_lt_of_cell? w _ zm)).trans zm),((HB.out.cell (World.block_lt_of_cell? w _ zl)).trans zl),((HB.out.cell (World.block_lt_of_cell? w _ zk)).trans zk),((HB.out.cell (World.block_lt_of_cell? w _ zi)).trans zi),((HB.out.cell (World.block_lt_of_cell? w _ zh)).trans zh),((HB.out.cell (World.block_lt_of_cell? w _ zg)).trans zg),((HB.out.cell (World.block_lt_of_cell? w _ zf)).trans zf),((HB.out.cell (World.block_lt_of_cell? w _ ze)).trans ze)⟩ (fun hHeld => ?_);refine Dr Zg.Jnm Zg.Jg8 (fun HT_ HW_ => ?_)
                 generalize wr.drew = w72 at Zbt HB Zay Zaz Zas Zat Zj7 Zj8 Zjt Zju Zjv Zjw Zau Zjx Zjy Zav Nk Nl Nn Np Nq Nr Ns Nt hHeld ⊢
                 refine V3 (i := 0) (N := some 90) (v := ?_) (a' := ?_) #[true,false,false,false,false,false,false,false,false,false] rfl rfl (Vk HT_.out (by kernel_rfl)) (fun _ _ _ h => h) (Or.inl ⟨(by rfl),?_⟩) ?_ ?_
                 rotate_left
                 ·intro w'
                  go_simp
                  with_reducible rfl
                 rotate_left
                 ·simp only [Act.put,List.setIfInBounds_toArray,List.set_cons_zero,List.set_cons_succ,Jo,Jq]
                  rfl
                 refine V3 (i := 1) (N := some 91) (v := ?_) (a' := ?_) #[true,true,false,false,false,false,false,false,false,false] rfl rfl (Vk HT_.out (by kernel_rfl)) (fun _ _ _ h => h) (Or.inl ⟨(by rfl),?_⟩) ?_ ?_
                 rotate_left
                 ·intro w'
                  go_simp
                  with_reducible rfl
                 rotate_left
                 ·simp only [Act.put,List.setIfInBounds_toArray,List.set_cons_zero,List.set_cons_succ,Jo,Jq]
                  rfl
                 refine V3 (i := 2) (N := some 92) (v := ?_) (a' := ?_) #[true,true,true,false,false,false,false,false,false,false] rfl rfl (Vk HT_.out (by kernel_rfl)) (fun _ _ _ h => h) (Or.inl ⟨(by rfl),?_⟩) ?_ ?_
                 rotate_left
                 ·intro w'
                  go_simp
                  with_reducible rfl
                 rotate_left
                 ·simp only [Act.put,List.setIfInBounds_toArray,List.set_cons_zero,List.set_cons_succ,Jo,Jq]
                  rfl
                 refine V3 (i := 4) (N := some 94) (v := ?_) (a' := ?_) #[true,true,true,false,true,false,false,false,false,false] rfl rfl (Vk HT_.out (by kernel_rfl)) (fun _ _ _ h => h) (Or.inl ⟨(by rfl),?_⟩) ?_ ?_
                 rotate_left
                 ·intro w'
                  go_simp
                  with_reducible rfl
                 rotate_left
                 ·simp only [Act.put,List.setIfInBounds_toArray,List.set_cons_zero,List.set_cons_succ,Jo,Jq]
                  rfl
                 refine V3 (i := 5) (N := some 95) (v := ?_) (a' := ?_) #[true,true,true,false,true,true,false,false,false,false] rfl rfl (Vk HT_.out (by kernel_rfl)) (fun _ _ _ h => h) (Or.inl ⟨(by rfl),?_⟩) ?_ ?_
                 rotate_left
                 ·intro w'
                  go_simp
                  with_reducible rfl
                 rotate_left
                 ·simp only [Act.put,List.setIfInBounds_toArray,List.set_cons_zero,List.set_cons_succ,Jo,Jq]
                  rfl
                 refine V3 (i := 6) (N := some 96) (v := ?_) (a' := ?_) #[true,true,true,false,true,true,true,false,false,false] rfl rfl (Vk HT_.out (by kernel_rfl)) (fun _ _ _ h => h) (Or.inl ⟨(by rfl),?_⟩) ?_ ?_
                 rotate_left
                 ·intro w'
                  go_simp
                  with_reducible rfl
                 rotate_left
                 ·simp only [Act.put,List.setIfInBounds_toArray,List.set_cons_zero,List.set_cons_succ,Jo,Jq]
                  rfl
                 refine Qx (i := 3) (N := some 93) (v := ?_) (a' := ?_) #[true,true,true,true,true,true,true,false,false,false] rfl rfl (Xj HT_.out HW_.out (by kernel_rfl)) (fun _ _ _ h => h) (Or.inl ⟨(by rfl),?_⟩) hHeld ?_ ?_
                 rotate_left
                 ·rintro w' ⟨s0,s1,s2,s3,s4,s5,s6,s7,s8,s9,s10,s11,s12,s13,s14,s15⟩
                  go_simp
                  with_reducible rfl
                 rotate_left
                 ·simp only [Act.put,List.setIfInBounds_toArray,List.set_cons_zero,List.set_cons_succ,Jo,Jq]
                  rfl
                 refine Qx (i := 7) (N := some 97) (v := ?_) (a' := ?_) #[true,true,true,true,true,true,true,true,false,false] rfl rfl (Xj HT_.out HW_.out (by kernel_rfl)) (fun _ _ _ h => h) (Or.inl ⟨(by rfl),?_⟩) hHeld ?_ ?_
                 rotate_left
                 ·rintro w' ⟨s0,s1,s2,s3,s4,s5,s6,s7,s8,s9,s10,s11,s12,s13,s14,s15⟩
                  go_simp
                  with_reducible rfl
                 rotate_left
                 ·simp only [Act.put,List.setIfInBounds_toArray,List.set_cons_zero,List.set_cons_succ,Jo,Jq]
                  rfl
                 refine F3 (i := 8) (N := some 98) #[true,true,true,true,true,true,true,true,true,false] rfl rfl (Qn HT_.out (by kernel_rfl)) (by decide) (fun K hK => ?_)
                 refine Uk Tryz.func16 (by kernel_rfl) rfl #[.agg #[.int .i64 ((Ze Yn Jj).f0),.string ((Ze Yn Jj).f1),.string ((Ze Yn Jj).f2),.bool ((Ze Yn Jj).f3),.slice Zsf ((Ze Yn Jj).f4).length Zsg,.string ((Ze Yn Jj).f5),.string ((Ze Yn Jj).f6),.slice Zsh ((Ze Yn Jj).f7).length Zsi],.agg #[.int .i64 ((Ze l0 Jj).f0),.string ((Ze l0 Jj).f1),.string ((Ze l0 Jj).f2),.bool ((Ze l0 Jj).f3),.slice Zsj ((Ze l0 Jj).f4).length Zsk,.string ((Ze l0 Jj).f5),.string ((Ze l0 Jj).f6),.slice Zsl ((Ze l0 Jj).f7).length Zsm]] (by rfl) rfl rfl Yb ?_
                 with_reducible refine (Zv.calls k3 ((Ze Yn Jj).f0) ((Ze Yn Jj).f1) ((Ze Yn Jj).f2) ((Ze Yn Jj).f3) _ _ ((Ze Yn Jj).f4) ((Ze Yn Jj).f5) ((Ze Yn Jj).f6) _ _ ((Ze Yn Jj).f7) ((Ze l0 Jj).f0) ((Ze l0 Jj).f1) ((Ze l0 Jj).f2) ((Ze l0 Jj).f3) _ _ ((Ze l0 Jj).f4) ((Ze l0 Jj).f5) ((Ze l0 Jj).f6) _ _ ((Ze l0 Jj).f7) true _ ?side1 ?side2 ?side3 ?side4 ?side5 ?side6 ?side7 ?side8 A70.out).mono ?_
                 (case side1 => repeat (first | exact Wp | (with_reducible refine Kd.Vf ?_ _) | (with_reducible refine Kd.Vg ?_ _) | (with_reducible refine Kd.Vs ?_)))
                 (case side2 => exact Zza.out)
                 (case side3 => repeat (first | exact Sy | (with_reducible refine Kd.Vf ?_ _) | (with_reducible refine Kd.Vg ?_ _) | (with_reducible refine Kd.Vs ?_)))
                 (case side4 => exact Zzb.out)
                 (case side5 => repeat (first | exact (Kd.Vl Zj7.out HB.out) | (with_reducible refine Kd.Vf ?_ _) | (with_reducible refine Kd.Vg ?_ _) | (with_reducible refine Kd.Vs ?_)))
                 (case side6 => exact Zzc.out)
                 (case side7 => repeat (first | exact (Kd.Vl Zj8.out HB.out) | (with_reducible refine Kd.Vf ?_ _) | (with_reducible refine Kd.Vg ?_ _) | (with_reducible refine Kd.Vs ?_)))
                 (case side8 => exact Zzd.out)
                 rintro e w73 ⟨rfl,hb⟩
                 have Jre := (hb.cell (World.block_lt_of_cell? _ _ (hHeld.1))).trans (hHeld.1)
                 have Jrf := (hb.cell (World.block_lt_of_cell? _ _ (hHeld.2.1))).trans (hHeld.2.1)
                 have Jrg := (hb.cell (World.block_lt_of_cell? _ _ (hHeld.2.2.1))).trans (hHeld.2.2.1)
                 have Jrh := (hb.cell (World.block_lt_of_cell? _ _ (hHeld.2.2.2.1))).trans (hHeld.2.2.2.1)
                 have Jri := (hb.cell (World.block_lt_of_cell? _ _ (hHeld.2.2.2.2.1))).trans (hHeld.2.2.2.2.1)
                 have Jrj := (hb.cell (World.block_lt_of_cell? _ _ (hHeld.2.2.2.2.2.1))).trans (hHeld.2.2.2.2.2.1)
                 have Jrk := (hb.cell (World.block_lt_of_cell? _ _ (hHeld.2.2.2.2.2.2.1))).trans (hHeld.2.2.2.2.2.2.1)
                 have Jrl := (hb.cell (World.block_lt_of_cell? _ _ (hHeld.2.2.2.2.2.2.2.1))).trans (hHeld.2.2.2.2.2.2.2.1)
                 refine ⟨_,rfl,?_⟩
                 replace Zbt := Za.mk (Kd.Kz Xv hb)
                 replace Zay := Za.mk (Kd.Qq (by (with_reducible repeat (first | apply Kd.Yv | apply Kd.Yw | apply Kd.Xl));exact Zay.out) hb)
                 replace Zaz := Za.mk (Kd.Qq (by (with_reducible repeat (first | apply Kd.Yv | apply Kd.Yw | apply Kd.Xl));exact Zaz.out) hb)
                 replace Zas := Za.mk (Kd.Vl Wp hb)
                 replace Zat := Za.mk (Kd.Vl Sy hb)
                 replace HB := Za.mk (Zm J5 hb)
                 (try clear hb)
                 (try clear hb2)
                 (try clear hk)
                 (try clear hi)
                 refine hK.out _ _ ⟨Jre,Jrf,Jrg,Jrh,Jri,Jrj,Jrk,Jrl,((HB.out.cell (World.block_lt_of_cell? w _ zm)).trans zm),((HB.out.cell (World.block_lt_of_cell? w _ zl)).trans zl),((HB.out.cell (World.block_lt_of_cell? w _ zk)).trans zk),((HB.out.cell (World.block_lt_of_cell? w _ zi)).trans zi),((HB.out.cell (World.block_lt_of_cell? w _ zh)).trans zh),((HB.out.cell (World.block_lt_of_cell? w _ zg)).trans zg),((HB.out.cell (World.block_lt_of_cell? w _ zf)).trans zf),((HB.out.cell (World.block_lt_of_cell? w _ ze)).trans ze)⟩ (fun hHeld => ?_)
                 clear hK K
                 refine Qr (a' := ?_) ?_ ?_
                 rotate_left
                 ·show Act.put _ (some 98) _ = _
                  simp only [Act.put,List.setIfInBounds_toArray,List.set_cons_zero,List.set_cons_succ,Jo,Jq]
                  rfl
                 refine V3 (i := 9) (N := some 99) (v := ?_) (a' := ?_) #[true,true,true,true,true,true,true,true,true,true] rfl rfl (Vk HT_.out (by kernel_rfl)) (fun _ _ _ h => h) (Or.inl ⟨(by rfl),?_⟩) ?_ ?_
                 rotate_left
                 ·intro w'
                  go_simp
                  with_reducible rfl
                 rotate_left
                 ·simp only [Act.put,List.setIfInBounds_toArray,List.set_cons_zero,List.set_cons_succ,Jo,Jq]
                  rfl
                 refine j5 (Sw HT_.out (by kernel_rfl)) ?_
                 try go_wp2
                 go_roundg k3
                 case measure => have := HK1.out;have := J3v.out;have := HK3.out;omega
                 case rel => exact ⟨(wrap64 (Jj + 1)),Qg,H',⟨(by have := HK1.out;have := J3v.out;have := HK3.out;omega)⟩,⟨Xv⟩,⟨J5⟩⟩
                ·replace c71 := Bool.eq_false_iff.mpr c71
                 subst c71
                 have H1 : (some false) = some r := by rw [if_neg (show ¬ (false = true) by decide)] at H;exact H
                 clear H
                 have H := H1
                 clear H1
                 obtain rfl := Option.some.inj H
                 try go_wp2
                 replace Zbt := Za.mk (Kd.Zp0 Zbt.out)
                 replace HB := Za.mk (Zz HB.out)
                 have Zy8 : 0 ≤ (Jj : Int) := of_decide_eq_true Xu
                 have Zy9 : Jj < (Yn.length : Int) := of_decide_eq_true Xu
                 obtain ⟨Uh,Zsf,Zsg,Zsh,Zsi,Jrd,Zjt,Zju,Zjv,Zjw,Zau,Zjx,Zjy,Zav,Zjz,Zj0,Zj1,Zj2⟩ := jb (Kd.Qb Zbt.out).2.2 Jj Zy8 Zy9
                 cases Jrd
                 obtain ⟨J3y,Z4m,Z4n,Zf0⟩ := Kd.Jdh Zbt.out z29 Jj Zy8 (by first | exact Zy9 | exact of_decide_eq_true Xu | (have e_ := (Kd.Qb Zbt.out).1;omega))
                 obtain ⟨Jle,Jlf,rfl,Zaw,Zax⟩ := Zkh Z4n
                 have Ni := Zf0 4 _ rfl
                 rw [Qd _ _ 4 (by omega)] at Ni
                 replace Ni := Option.some.inj (Ni.symm.trans Zau)
                 rw [Ni] at Zaw
                 have Zay := Za.mk (show Kd.R Kd.string 9 _ _ _ _ ((Ze Yn Jj).f4) from Zaw)
                 clear Ni Zaw
                 have Nj := Zf0 7 _ rfl
                 rw [Qd _ _ 7 (by omega)] at Nj
                 replace Nj := Option.some.inj (Nj.symm.trans Zav)
                 rw [Nj] at Zax
                 have Zaz := Za.mk (show Kd.R k44 44 _ _ _ _ ((Ze Yn Jj).f7) from Zax)
                 clear Nj Zax Zf0 Z4m
                 have Zas := Za.mk Zj0
                 have Zza := Za.mk Zjz
                 clear Zj0 Zjz
                 have Zat := Za.mk Zj2
                 have Zzb := Za.mk Zj1
                 clear Zj2 Zj1
                 replace Zy8 := eq_true Zy8
                 replace Zy9 := eq_true Zy9
                 have Z4o : 0 ≤ (Jj : Int) := of_decide_eq_true Xu
                 have Z4p : Jj < (l0.length : Int) := of_decide_eq_true Xu
                 obtain ⟨Ui,Zsj,Zsk,Zsl,Zsm,e323,Nk,Nl,Nn,Np,Nq,Nr,Ns,Nt,Zj3,Zj4,Zj5,Zj6⟩ := jb HR0.out Jj Z4o Z4p
                 have ze := Nt
                 have zf := Ns
                 have zg := Nr
                 have zh := Nq
                 have zi := Np
                 have zk := Nn
                 have zl := Nl
                 have zm := Nk
                 cases e323
                 replace Nk := (HB.out.cell (World.block_lt_of_cell? w _ Nk)).trans Nk
                 replace Nl := (HB.out.cell (World.block_lt_of_cell? w _ Nl)).trans Nl
                 replace Nn := (HB.out.cell (World.block_lt_of_cell? w _ Nn)).trans Nn
                 replace Np := (HB.out.cell (World.block_lt_of_cell? w _ Np)).trans Np
                 replace Nq := (HB.out.cell (World.block_lt_of_cell? w _ Nq)).trans Nq
                 replace Nr := (HB.out.cell (World.block_lt_of_cell? w _ Nr)).trans Nr
                 replace Ns := (HB.out.cell (World.block_lt_of_cell? w _ Ns)).trans Ns
                 replace Nt := (HB.out.cell (World.block_lt_of_cell? w _ Nt)).trans Nt
                 have Zj7 := Za.mk Zj4
                 have Zzc := Za.mk Zj3
                 clear Zj4 Zj3
                 have Zj8 := Za.mk Zj6
                 have Zzd := Za.mk Zj5
                 clear Zj6 Zj5
                 replace Z4o := eq_true Z4o
                 replace Z4p := eq_true Z4p
                 refine Hd (n := 10) (S := fun w' => w'.cell? (Uh.add ((Jj).toNat * 8)) = some (.int .i64 ((Ze Yn Jj).f0)) ∧ w'.cell? ⟨(Uh.add ((Jj).toNat * 8)).block,(Uh.add ((Jj).toNat * 8)).off + 1,none⟩ = some (.string ((Ze Yn Jj).f1)) ∧ w'.cell? ⟨(Uh.add ((Jj).toNat * 8)).block,(Uh.add ((Jj).toNat * 8)).off + 2,none⟩ = some (.string ((Ze Yn Jj).f2)) ∧ w'.cell? ⟨(Uh.add ((Jj).toNat * 8)).block,(Uh.add ((Jj).toNat * 8)).off + 3,none⟩ = some (.bool ((Ze Yn Jj).f3)) ∧ w'.cell? ⟨(Uh.add ((Jj).toNat * 8)).block,(Uh.add ((Jj).toNat * 8)).off + 4,none⟩ = some (.slice Zsf ((Ze Yn Jj).f4).length Zsg) ∧ w'.cell? ⟨(Uh.add ((Jj).toNat * 8)).block,(Uh.add ((Jj).toNat * 8)).off + 5,none⟩ = some (.string ((Ze Yn Jj).f5)) ∧ w'.cell? ⟨(Uh.add ((Jj).toNat * 8)).block,(Uh.add ((Jj).toNat * 8)).off + 6,none⟩ = some (.string ((Ze Yn Jj).f6)) ∧ w'.cell? ⟨(Uh.add ((Jj).toNat * 8)).block,(Uh.add ((Jj).toNat * 8)).off + 7,none⟩ = some (.slice Zsh ((Ze Yn Jj).f7).length Zsi) ∧ w'.cell? (Ui.add ((Jj).toNat * 8)) = some (.int .i64 ((Ze l0 Jj).f0)) ∧ w'.cell? ⟨(Ui.add ((Jj).toNat * 8)).block,(Ui.add ((Jj).toNat * 8)).off + 1,none⟩ = some (.string ((Ze l0 Jj).f1)) ∧ w'.cell? ⟨(Ui.add ((Jj).toNat * 8)).block,(Ui.add ((Jj).toNat * 8)).off + 2,none⟩ = some (.string ((Ze l0 Jj).f2)) ∧ w'.cell? ⟨(Ui.add ((Jj).toNat * 8)).block,(Ui.add ((Jj).toNat * 8)).off + 3,none⟩ = some (.bool ((Ze l0 Jj).f3)) ∧ w'.cell? ⟨(Ui.add ((Jj).toNat * 8)).block,(Ui.add ((Jj).toNat * 8)).off + 4,none⟩ = some (.slice Zsj ((Ze l0 Jj).f4).length Zsk) ∧ w'.cell? ⟨(Ui.add ((Jj).toNat * 8)).block,(Ui.add ((Jj).toNat * 8)).off + 5,none⟩ = some (.string ((Ze l0 Jj).f5)) ∧ w'.cell? ⟨(Ui.add ((Jj).toNat * 8)).block,(Ui.add ((Jj).toNat * 8)).off + 6,none⟩ = some (.string ((Ze l0 Jj).f6)) ∧ w'.cell? ⟨(Ui.add ((Jj).toNat * 8)).block,(Ui.add ((Jj).toNat * 8)).off + 7,none⟩ = some (.slice Zsl ((Ze l0 Jj).f7).length Zsm)) (ds := []) #[false,false,false,false,false,false,false,false,false,false] (by kernel_rfl) rfl rfl ⟨Zjt,Zju,Zjv,Zjw,Zau,Zjx,Zjy,Zav,((HB.out.cell (World.block_lt_of_cell? w _ zm)).trans zm),((HB.out.cell (World.block_lt_of_cell? w _ zl)).trans zl),((HB.out.cell (World.block_lt_of_cell? w _ zk)).trans zk),((HB.out.cell (World.block_lt_of_cell? w _ zi)).trans zi),((HB.out.cell (World.block_lt_of_cell? w _ zh)).trans zh),((HB.out.cell (World.block_lt_of_cell? w _ zg)).trans zg),((HB.out.cell (World.block_lt_of_cell? w _ zf)).trans zf),((HB.out.cell (World.block_lt_of_cell? w _ ze)).trans ze)⟩ (fun hHeld => ?_);refine Dr Zg.Jnm Zg.Jg8 (fun HT_ HW_ => ?_)
                 generalize wr.drew = w74 at Zbt HB Zay Zaz Zas Zat Zj7 Zj8 Zjt Zju Zjv Zjw Zau Zjx Zjy Zav Nk Nl Nn Np Nq Nr Ns Nt hHeld ⊢
                 refine V3 (i := 0) (N := some 90) (v := ?_) (a' := ?_) #[true,false,false,false,false,false,false,false,false,false] rfl rfl (Vk HT_.out (by kernel_rfl)) (fun _ _ _ h => h) (Or.inl ⟨(by rfl),?_⟩) ?_ ?_
                 rotate_left
                 ·intro w'
                  go_simp
                  with_reducible rfl
                 rotate_left
                 ·simp only [Act.put,List.setIfInBounds_toArray,List.set_cons_zero,List.set_cons_succ,Jo,Jq]
                  rfl
                 refine V3 (i := 1) (N := some 91) (v := ?_) (a' := ?_) #[true,true,false,false,false,false,false,false,false,false] rfl rfl (Vk HT_.out (by kernel_rfl)) (fun _ _ _ h => h) (Or.inl ⟨(by rfl),?_⟩) ?_ ?_
                 rotate_left
                 ·intro w'
                  go_simp
                  with_reducible rfl
                 rotate_left
                 ·simp only [Act.put,List.setIfInBounds_toArray,List.set_cons_zero,List.set_cons_succ,Jo,Jq]
                  rfl
                 refine V3 (i := 2) (N := some 92) (v := ?_) (a' := ?_) #[true,true,true,false,false,false,false,false,false,false] rfl rfl (Vk HT_.out (by kernel_rfl)) (fun _ _ _ h => h) (Or.inl ⟨(by rfl),?_⟩) ?_ ?_
                 rotate_left
                 ·intro w'
                  go_simp
                  with_reducible rfl
                 rotate_left
                 ·simp only [Act.put,List.setIfInBounds_toArray,List.set_cons_zero,List.set_cons_succ,Jo,Jq]
                  rfl
                 refine V3 (i := 4) (N := some 94) (v := ?_) (a' := ?_) #[true,true,true,false,true,false,false,false,false,false] rfl rfl (Vk HT_.out (by kernel_rfl)) (fun _ _ _ h => h) (Or.inl ⟨(by rfl),?_⟩) ?_ ?_
                 rotate_left
                 ·intro w'
                  go_simp
                  with_reducible rfl
                 rotate_left
                 ·simp only [Act.put,List.setIfInBounds_toArray,List.set_cons_zero,List.set_cons_succ,Jo,Jq]
                  rfl
                 refine V3 (i := 5) (N := some 95) (v := ?_) (a' := ?_) #[true,true,true,false,true,true,false,false,false,false] rfl rfl (Vk HT_.out (by kernel_rfl)) (fun _ _ _ h => h) (Or.inl ⟨(by rfl),?_⟩) ?_ ?_
                 rotate_left
                 ·intro w'
                  go_simp
                  with_reducible rfl
                 rotate_left
                 ·simp only [Act.put,List.setIfInBounds_toArray,List.set_cons_zero,List.set_cons_succ,Jo,Jq]
                  rfl
                 refine V3 (i := 6) (N := some 96) (v := ?_) (a' := ?_) #[true,true,true,false,true,true,true,false,false,false] rfl rfl (Vk HT_.out (by kernel_rfl)) (fun _ _ _ h => h) (Or.inl ⟨(by rfl),?_⟩) ?_ ?_
                 rotate_left
                 ·intro w'
                  go_simp
                  with_reducible rfl
                 rotate_left
                 ·simp only [Act.put,List.setIfInBounds_toArray,List.set_cons_zero,List.set_cons_succ,Jo,Jq]
                  rfl
                 refine Qx (i := 3) (N := some 93) (v := ?_) (a' := ?_) #[true,true,true,true,true,true,true,false,false,false] rfl rfl (Xj HT_.out HW_.out (by kernel_rfl)) (fun _ _ _ h => h) (Or.inl ⟨(by rfl),?_⟩) hHeld ?_ ?_
                 rotate_left
                 ·rintro w' ⟨s0,s1,s2,s3,s4,s5,s6,s7,s8,s9,s10,s11,s12,s13,s14,s15⟩
                  go_simp
                  with_reducible rfl
                 rotate_left
                 ·simp only [Act.put,List.setIfInBounds_toArray,List.set_cons_zero,List.set_cons_succ,Jo,Jq]
                  rfl
                 refine Qx (i := 7) (N := some 97) (v := ?_) (a' := ?_) #[true,true,true,true,true,true,true,true,false,false] rfl rfl (Xj HT_.out HW_.out (by kernel_rfl)) (fun _ _ _ h => h) (Or.inl ⟨(by rfl),?_⟩) hHeld ?_ ?_
                 rotate_left
                 ·rintro w' ⟨s0,s1,s2,s3,s4,s5,s6,s7,s8,s9,s10,s11,s12,s13,s14,s15⟩
                  go_simp
                  with_reducible rfl
                 rotate_left
                 ·simp only [Act.put,List.setIfInBounds_toArray,List.set_cons_zero,List.set_cons_succ,Jo,Jq]
                  rfl
                 refine F3 (i := 8) (N := some 98) #[true,true,true,true,true,true,true,true,true,false] rfl rfl (Qn HT_.out (by kernel_rfl)) (by decide) (fun K hK => ?_)
                 refine Uk Tryz.func16 (by kernel_rfl) rfl #[.agg #[.int .i64 ((Ze Yn Jj).f0),.string ((Ze Yn Jj).f1),.string ((Ze Yn Jj).f2),.bool ((Ze Yn Jj).f3),.slice Zsf ((Ze Yn Jj).f4).length Zsg,.string ((Ze Yn Jj).f5),.string ((Ze Yn Jj).f6),.slice Zsh ((Ze Yn Jj).f7).length Zsi],.agg #[.int .i64 ((Ze l0 Jj).f0),.string ((Ze l0 Jj).f1),.string ((Ze l0 Jj).f2),.bool ((Ze l0 Jj).f3),.slice Zsj ((Ze l0 Jj).f4).length Zsk,.string ((Ze l0 Jj).f5),.string ((Ze l0 Jj).f6),.slice Zsl ((Ze l0 Jj).f7).length Zsm]] (by rfl) rfl rfl Yb ?_
                 with_reducible refine (Zv.calls k3 ((Ze Yn Jj).f0) ((Ze Yn Jj).f1) ((Ze Yn Jj).f2) ((Ze Yn Jj).f3) _ _ ((Ze Yn Jj).f4) ((Ze Yn Jj).f5) ((Ze Yn Jj).f6) _ _ ((Ze Yn Jj).f7) ((Ze l0 Jj).f0) ((Ze l0 Jj).f1) ((Ze l0 Jj).f2) ((Ze l0 Jj).f3) _ _ ((Ze l0 Jj).f4) ((Ze l0 Jj).f5) ((Ze l0 Jj).f6) _ _ ((Ze l0 Jj).f7) false _ ?side1 ?side2 ?side3 ?side4 ?side5 ?side6 ?side7 ?side8 A70.out).mono ?_
                 (case side1 => repeat (first | exact Wp | (with_reducible refine Kd.Vf ?_ _) | (with_reducible refine Kd.Vg ?_ _) | (with_reducible refine Kd.Vs ?_)))
                 (case side2 => exact Zza.out)
                 (case side3 => repeat (first | exact Sy | (with_reducible refine Kd.Vf ?_ _) | (with_reducible refine Kd.Vg ?_ _) | (with_reducible refine Kd.Vs ?_)))
                 (case side4 => exact Zzb.out)
                 (case side5 => repeat (first | exact (Kd.Vl Zj7.out HB.out) | (with_reducible refine Kd.Vf ?_ _) | (with_reducible refine Kd.Vg ?_ _) | (with_reducible refine Kd.Vs ?_)))
                 (case side6 => exact Zzc.out)
                 (case side7 => repeat (first | exact (Kd.Vl Zj8.out HB.out) | (with_reducible refine Kd.Vf ?_ _) | (with_reducible refine Kd.Vg ?_ _) | (with_reducible refine Kd.Vs ?_)))
                 (case side8 => exact Zzd.out)
                 rintro e w75 ⟨rfl,hb⟩
                 have Jre := (hb.cell (World.block_lt_of_cell? _ _ (hHeld.1))).trans (hHeld.1)
                 have Jrf := (hb.cell (World.block_lt_of_cell? _ _ (hHeld.2.1))).trans (hHeld.2.1)
                 have Jrg := (hb.cell (World.block_lt_of_cell? _ _ (hHeld.2.2.1))).trans (hHeld.2.2.1)
                 have Jrh := (hb.cell (World.block_lt_of_cell? _ _ (hHeld.2.2.2.1))).trans (hHeld.2.2.2.1)
                 have Jri := (hb.cell (World.block_lt_of_cell? _ _ (hHeld.2.2.2.2.1))).trans (hHeld.2.2.2.2.1)
                 have Jrj := (hb.cell (World.block_lt_of_cell? _ _ (hHeld.2.2.2.2.2.1))).trans (hHeld.2.2.2.2.2.1)
                 have Jrk := (hb.cell (World.block_lt_of_cell? _ _ (hHeld.2.2.2.2.2.2.1))).trans (hHeld.2.2.2.2.2.2.1)
                 have Jrl := (hb.cell (World.block_lt_of_cell? _ _ (hHeld.2.2.2.2.2.2.2.1))).trans (hHeld.2.2.2.2.2.2.2.1)
                 refine ⟨_,rfl,?_⟩
                 replace Zbt := Za.mk (Kd.Kz Xv hb)
                 replace Zay := Za.mk (Kd.Qq (by (with_reducible repeat (first | apply Kd.Yv | apply Kd.Yw | apply Kd.Xl));exact Zay.out) hb)
                 replace Zaz := Za.mk (Kd.Qq (by (with_reducible repeat (first | apply Kd.Yv | apply Kd.Yw | apply Kd.Xl));exact Zaz.out) hb)
                 replace Zas := Za.mk (Kd.Vl Wp hb)
                 replace Zat := Za.mk (Kd.Vl Sy hb)
                 replace HB := Za.mk (Zm J5 hb)
                 (try clear hb)
                 (try clear hb2)
                 (try clear hk)
                 (try clear hi)
                 refine hK.out _ _ ⟨Jre,Jrf,Jrg,Jrh,Jri,Jrj,Jrk,Jrl,((HB.out.cell (World.block_lt_of_cell? w _ zm)).trans zm),((HB.out.cell (World.block_lt_of_cell? w _ zl)).trans zl),((HB.out.cell (World.block_lt_of_cell? w _ zk)).trans zk),((HB.out.cell (World.block_lt_of_cell? w _ zi)).trans zi),((HB.out.cell (World.block_lt_of_cell? w _ zh)).trans zh),((HB.out.cell (World.block_lt_of_cell? w _ zg)).trans zg),((HB.out.cell (World.block_lt_of_cell? w _ zf)).trans zf),((HB.out.cell (World.block_lt_of_cell? w _ ze)).trans ze)⟩ (fun hHeld => ?_)
                 clear hK K
                 refine Qr (a' := ?_) ?_ ?_
                 rotate_left
                 ·show Act.put _ (some 98) _ = _
                  simp only [Act.put,List.setIfInBounds_toArray,List.set_cons_zero,List.set_cons_succ,Jo,Jq]
                  rfl
                 refine V3 (i := 9) (N := some 99) (v := ?_) (a' := ?_) #[true,true,true,true,true,true,true,true,true,true] rfl rfl (Vk HT_.out (by kernel_rfl)) (fun _ _ _ h => h) (Or.inl ⟨(by rfl),?_⟩) ?_ ?_
                 rotate_left
                 ·intro w'
                  go_simp
                  with_reducible rfl
                 rotate_left
                 ·simp only [Act.put,List.setIfInBounds_toArray,List.set_cons_zero,List.set_cons_succ,Jo,Jq]
                  rfl
                 refine j5 (Sw HT_.out (by kernel_rfl)) ?_
                 try go_wp2
                 go_ret
                 exact ⟨Dx,J5⟩
               ·rw [if_neg c69] at H
                exact absurd H (by simp)
              ·rw [if_neg c68] at H
               exact absurd H (by simp)
             ·rw [if_neg c67] at H
              exact absurd H (by simp)
            ·rw [if_neg c66] at H
             have J3w : decide (Jj < (Yn.length : Int)) = false := decide_eq_false c66
             clear c66
             obtain rfl := Option.some.inj H
             go_wp2
             go_ret
             exact ⟨Dx,J5⟩
      ·replace c50 := Bool.eq_false_iff.mpr c50
       subst c50
       have H1 : (if Zbc = 1 then (some ((Sm.length : Int) == 0)) else (some false)) = some r := by rw [if_neg (show ¬ (false = true) by decide)] at H;exact H
       clear H
       have H := H1
       clear H1
       by_cases c76 : Zbc = 1
       ·rw [if_pos c76] at H
        have J3z : (Zbc == 1) = true := beq_iff_eq.mpr c76
        have J30 : (Zbc != 1) = false := bne_eq_false_iff_eq.mpr c76
        clear c76
        obtain rfl := Option.some.inj H
        go_wp2_with (first | ((with_reducible refine Z7 (f := 14) rfl ?_);refine Ju (some 42) rfl rfl Tryz.func14 (by kernel_rfl) rfl #[.slice A0 l0.length c0] rfl Yb ?_;(with_reducible refine (J8.calls _ _ l0 Sm Zbc _ ?side1 ?side2 A49.out).mono ?_);(case side1 => repeat (first | exact (Kd.Vl HR0.out HB.out) | (with_reducible refine Kd.Vf ?_ _) | (with_reducible refine Kd.Vg ?_ _) | (with_reducible refine Kd.Vs ?_)));(case side2 => exact HC0.out);rintro e w77 ⟨J3u,rfl,ho0,hb⟩;refine ⟨_,rfl,?_⟩;have Zbx := Za.mk (Kd.Sv (Kd.fw (ok' := fun k_ => True) ho0 (fun k_ hk_ => trivial)) (Jh J5));replace HB := Za.mk (Zm J5 hb);(try clear hb);(try clear hb2);(try clear hk);(try clear hi);(try clear ho0);obtain ⟨Vmd,Jw1,Jp0⟩ := Kd.fu Zbx.out;subst Jp0))
        go_ret
        exact ⟨Dx,J5⟩
       ·rw [if_neg c76] at H
        have J3z : (Zbc == 1) = false := beq_eq_false_iff_ne.mpr c76
        have J30 : (Zbc != 1) = true := bne_iff_ne.mpr c76
        obtain rfl := Option.some.inj H
        go_wp2_with (first | ((with_reducible refine Z7 (f := 14) rfl ?_);refine Ju (some 42) rfl rfl Tryz.func14 (by kernel_rfl) rfl #[.slice A0 l0.length c0] rfl Yb ?_;(with_reducible refine (J8.calls _ _ l0 Sm Zbc _ ?side1 ?side2 A49.out).mono ?_);(case side1 => repeat (first | exact (Kd.Vl HR0.out HB.out) | (with_reducible refine Kd.Vf ?_ _) | (with_reducible refine Kd.Vg ?_ _) | (with_reducible refine Kd.Vs ?_)));(case side2 => exact HC0.out);rintro e w79 ⟨J3u,rfl,ho0,hb⟩;refine ⟨_,rfl,?_⟩;have Zbx := Za.mk (Kd.Sv (Kd.fw (ok' := fun k_ => True) ho0 (fun k_ hk_ => trivial)) (Jh J5));replace HB := Za.mk (Zm J5 hb);(try clear hb);(try clear hb2);(try clear hk);(try clear hi);(try clear ho0)))
        go_ret
        exact ⟨Dx,J5⟩
  ·replace c5 := Bool.eq_false_iff.mpr c5
   subst c5
   have H1 : (some true) = some r := by rw [if_neg (show ¬ (false = true) by decide)] at H;exact H
   clear H
   have H := H1
   clear H1
   obtain rfl := Option.some.inj H
   go_enter Tryz.func3,Tryz.ntmps3
   go_wp2_with (first | ((with_reducible refine Z7 (f := 9) rfl ?_);refine Ju (some 13) rfl rfl Tryz.func9 (by kernel_rfl) rfl #[] rfl Yb ?_;(with_reducible refine (Ym.calls  true _ A2.out).mono ?_);rintro e w80 ⟨rfl,hb⟩;refine ⟨_,rfl,?_⟩;replace HB := Za.mk (Zm J5 hb);(try clear hb);(try clear hb2);(try clear hk);(try clear hi)) | ((with_reducible refine Z7 (f := 10) rfl ?_);refine Ju (some 16) rfl rfl Tryz.func10 (by kernel_rfl) rfl #[.slice A0 l0.length c0] rfl Yb ?_;(with_reducible refine (Zx.calls k _ _ l0 false _ ?side1 ?side2 A4.out).mono ?_);(case side1 => repeat (first | exact (Kd.Vl HR0.out HB.out) | (with_reducible refine Kd.Vf ?_ _) | (with_reducible refine Kd.Vg ?_ _) | (with_reducible refine Kd.Vs ?_)));(case side2 => exact HC0.out);rintro e w81 ⟨rfl,hb⟩;refine ⟨_,rfl,?_⟩;replace HB := Za.mk (Zm J5 hb);(try clear hb);(try clear hb2);(try clear hk);(try clear hi)))
   go_ret
   exact ⟨Dx,J5⟩
 ·replace c3 := Bool.eq_false_iff.mpr c3
  subst c3
  have H1 : (some false) = some r := by rw [if_neg (show ¬ (false = true) by decide)] at H;exact H
  clear H
  have H := H1
  clear H1
  obtain rfl := Option.some.inj H
  go_enter Tryz.func3,Tryz.ntmps3
  go_wp2_with (first | ((with_reducible refine Z7 (f := 9) rfl ?_);refine Ju (some 13) rfl rfl Tryz.func9 (by kernel_rfl) rfl #[] rfl Yb ?_;(with_reducible refine (Ym.calls  false _ A2.out).mono ?_);rintro e w82 ⟨rfl,hb⟩;refine ⟨_,rfl,?_⟩;replace HB := Za.mk (Zm J5 hb);(try clear hb);(try clear hb2);(try clear hk);(try clear hi)))
  go_ret
  exact ⟨Dx,J5⟩
end Go.Proofs.YtdhpcofnddkcaaaGreatDoor.S
namespace Go.Proofs.YtdhpcofnddkcaaaGreatDoor.S
open Go.RowKit Go.Proofs.YtdhpcofnddkcaaaGreatDoor.G Go.Proofs.YtdhpcofnddkcaaaGreatDoorW.PrintWords Go.Proofs.YtdhpcofnddkcaaaGreatDoorW.PrintLast Go.Proofs.YtdhpcofnddkcaaaGreatDoorW.PrintMore
set_option linter.unusedVariables false
set_option linter.unusedSimpArgs false
attribute [local go_sem] max2_int min2_int max_two min_two max_three min_three max_four min_four
theorem Jlg (t : ByteArray) (h : t.size ≤ 262144) : (Net.V4 t).length ≤ t.size + 8 := by
  unfold Net.V4
  rw [Net.F4]
  have e : (Net.lb t).length = t.size := (sz t).symm
  have := Net.Zms (u := (Net.lb t).length) (by omega)
  omega
theorem Ze6 : ∀ (ps : List ByteArray),(∀ p ∈ ps,p.size ≤ 262144) → (Net.encs ps).length ≤ Gy ps + 8 * ps.length
  | [],_ => by simp [Gy,Net.encs]
  | a :: r,h => by
    rw [Net.J2,List.length_append,List.length_cons]
    have h1 := Jlg a (h a (.head _))
    have h2 := Ze6 r (fun p hp => h p (.tail _ hp))
    have h3 : Gy (a :: r) = a.size + Gy r := by simp [Gy]
    omega
theorem Z17 {l : List ByteArray} {t : ByteArray} (h : t ∈ l) : t.size ≤ Gy l := by
  induction l with
  | nil => cases h
  | cons a r ih =>
    have e : Gy (a :: r) = a.size + Gy r := by simp [Gy]
    rcases List.mem_cons.1 h with rfl | h
    · omega
    · have := ih h;omega
theorem Zj9 {l : List Y4} {a : Y4} (h : a ∈ l) : a.f0.size + a.f2.size ≤ Sb l := by
  induction l with
  | nil => cases h
  | cons b r ih =>
    have e : Sb (b :: r) = (b.f0.size + b.f2.size) + Sb r := by simp [Sb]
    rcases List.mem_cons.1 h with rfl | h
    · omega
    · have := ih h;omega
theorem Zpp {l : List Xx} {s : Xx} (h : s ∈ l) : Zr4 s ≤ tot l := by
  induction l with
  | nil => cases h
  | cons b r ih =>
    rw [Zi2]
    rcases List.mem_cons.1 h with rfl | h
    · omega
    · have := ih h;omega
theorem Jhf (k : Int) : (Net.tnm k).size ≤ 1 := by
  unfold Net.tnm
  split
  · decide
  · split <;> decide
theorem Z18 : ∀ (l : List Y4),(∀ a ∈ l,a.f0.size ≤ 262144 ∧ a.f2.size ≤ 262144) → (Net.encs (Net.Dj (l.map Pb))).length ≤ Sb l + 25 * l.length
  | [],_ => by simp [Sb,Net.encs,Net.Dj]
  | a :: r,h => by
    rw [List.map_cons,Net.He,Net.Ux,List.length_append,List.length_cons]
    have h0 := h a (.head _)
    have h1 := Ze6 (Net.Zzw (Pb a)) (fun p hp => by
      rcases List.mem_cons.1 hp with rfl | hp
      · exact h0.1
      · rcases List.mem_cons.1 hp with rfl | hp
        · have := Jhf a.f1
          show (Net.tnm a.f1).size ≤ _
          omega
        · obtain rfl := List.mem_singleton.1 hp
          exact h0.2)
    have h2 := Z18 r (fun p hp => h p (.tail _ hp))
    have h3 : Sb (a :: r) = (a.f0.size + a.f2.size) + Sb r := by simp [Sb]
    have h4 : Gy (Net.Zzw (Pb a)) = a.f0.size + ((Net.tnm a.f1).size + a.f2.size) := by
      show (([a.f0,Net.tnm a.f1,a.f2] : List ByteArray).map ByteArray.size).sum = _
      simp
    have h5 : (Net.Zzw (Pb a)).length = 3 := rfl
    have h6 := Jhf a.f1
    omega
theorem Z19 {n : Nat} (h : n ≤ 262144) : (Net.Yy n).size ≤ 6 := by
  have h1 := Net.Zms h
  have e : (Net.Yy n).size = (Net.lb (Net.Yy n)).length := sz _
  have e2 : Net.lb (Net.Yy n) = Lib.decDigits n := by unfold Net.Yy;rw [Net.Zbi]
  rw [e2] at e
  omega
theorem Z2a (s : Xx) (h4 : s.f4.length ≤ 20) (h7 : s.f7.length ≤ 20) (hs : Zr4 s ≤ 3000) : (Net.encs (Net.parts (Uq s))).length ≤ Zr4 s + 1000 := by
  have es : Zr4 s = s.f1.size + s.f2.size + s.f5.size + s.f6.size + Gy s.f4 + Sb s.f7 := rfl
  show (Net.encs (if s.f0 = 0 then [Net.cA,s.f1,if s.f3 = true then Net.c1 else Net.c0,s.f2] else if s.f0 = 1 then [Net.cC,s.f1,Net.Yy s.f4.length] ++ s.f4 else [Net.cQ,s.f5,s.f6,Net.Yy (s.f7.map Pb).length] ++ Net.Dj (s.f7.map Pb))).length ≤ _
  by_cases k0 : s.f0 = 0
  · rw [if_pos k0]
    have hc : (if s.f3 = true then Net.c1 else Net.c0).size = 1 := by split <;> decide
    have ha : Net.cA.size = 1 := by decide
    have := Ze6 [Net.cA,s.f1,if s.f3 = true then Net.c1 else Net.c0,s.f2] (fun p hp => by
      simp only [List.mem_cons,List.not_mem_nil,or_false] at hp
      rcases hp with rfl | rfl | rfl | rfl <;> omega)
    have e : Gy [Net.cA,s.f1,if s.f3 = true then Net.c1 else Net.c0,s.f2] = Net.cA.size + (s.f1.size + ((if s.f3 = true then Net.c1 else Net.c0).size + s.f2.size)) := by simp [Gy]
    have e2 : [Net.cA,s.f1,if s.f3 = true then Net.c1 else Net.c0,s.f2].length = 4 := rfl
    omega
  · rw [if_neg k0]
    by_cases k1 : s.f0 = 1
    · rw [if_pos k1,Net.Ux,List.length_append]
      have hc : Net.cC.size = 1 := by decide
      have hi := Z19 (n := s.f4.length) (by omega)
      have h1 := Ze6 [Net.cC,s.f1,Net.Yy s.f4.length] (fun p hp => by
        simp only [List.mem_cons,List.not_mem_nil,or_false] at hp
        rcases hp with rfl | rfl | rfl <;> omega)
      have e : Gy [Net.cC,s.f1,Net.Yy s.f4.length] = Net.cC.size + (s.f1.size + (Net.Yy s.f4.length).size) := by simp [Gy]
      have e2 : [Net.cC,s.f1,Net.Yy s.f4.length].length = 3 := rfl
      have h2 := Ze6 s.f4 (fun p hp => by have := Z17 hp;omega)
      omega
    · rw [if_neg k1,Net.Ux,List.length_append,List.length_map]
      have hc : Net.cQ.size = 1 := by decide
      have hi := Z19 (n := s.f7.length) (by omega)
      have h1 := Ze6 [Net.cQ,s.f5,s.f6,Net.Yy s.f7.length] (fun p hp => by
        simp only [List.mem_cons,List.not_mem_nil,or_false] at hp
        rcases hp with rfl | rfl | rfl | rfl <;> omega)
      have e : Gy [Net.cQ,s.f5,s.f6,Net.Yy s.f7.length] = Net.cQ.size + (s.f5.size + (s.f6.size + (Net.Yy s.f7.length).size)) := by simp [Gy]
      have e2 : [Net.cQ,s.f5,s.f6,Net.Yy s.f7.length].length = 4 := rfl
      have h2 := Z18 s.f7 (fun a ha => by have := Zj9 ha;omega)
      omega
theorem Zka : ∀ (l : List Xx),(∀ s ∈ l,s.f4.length ≤ 20 ∧ s.f7.length ≤ 20) → tot l ≤ 3000 → (Net.encS (l.map Uq)).length ≤ tot l + 1000 * l.length
  | [],_,_ => Nat.le_refl _
  | a :: r,h,ht => by
    rw [Zi2] at ht ⊢
    rw [List.map_cons,Net.zo,List.length_append,List.length_cons]
    have h0 := h a (.head _)
    have h1 := Z2a a h0.1 h0.2 (by omega)
    have h2 := Zka r (fun s hs => h s (.tail _ hs)) (by omega)
    omega
theorem Jcs {l : List Xx} (h : ∀ s ∈ l,s.f4.length ≤ 20 ∧ s.f7.length ≤ 20) (ht : tot l ≤ 3000) : ∀ s ∈ l.map Uq,Net.small s := by
  intro x hx
  obtain ⟨s,hs,rfl⟩ := List.mem_map.1 hx
  have h0 := h s hs
  have h1 := Zpp hs
  have es : Zr4 s = s.f1.size + s.f2.size + s.f5.size + s.f6.size + Gy s.f4 + Sb s.f7 := rfl
  have e : ∀ t : ByteArray,(Net.lb t).length = t.size := fun t => (sz t).symm
  refine ⟨?_,?_,?_,?_,by omega,by rw [List.length_map];omega,fun t ht' => ?_,fun y hy => ?_⟩
  · show (Net.lb s.f1).length ≤ 262144
    rw [e];omega
  · show (Net.lb s.f2).length ≤ 262144
    rw [e];omega
  · show (Net.lb s.f5).length ≤ 262144
    rw [e];omega
  · show (Net.lb s.f6).length ≤ 262144
    rw [e];omega
  · have := Z17 ht'
    show (Net.lb t).length ≤ 262144
    rw [e];omega
  · obtain ⟨a,ha,rfl⟩ := List.mem_map.1 hy
    have := Zj9 ha
    refine ⟨?_,?_⟩
    · show (Net.lb a.f0).length ≤ 262144
      rw [e];omega
    · show (Net.lb a.f2).length ≤ 262144
      rw [e];omega
theorem Jlh (s : Xx) : La (Uq s) = s := by
  obtain ⟨k,t,b,o,ws,n,m,ags⟩ := s
  show (⟨k,t,b,o,ws,n,m,(ags.map Pb).map Zz6⟩ : Xx) = _
  have e : ∀ l : List Y4,(l.map Pb).map Zz6 = l := fun l => by
    induction l with
    | nil => rfl
    | cons a t ih => rw [List.map_cons,List.map_cons,ih];rfl
  rw [e]
theorem Jhg (l : List Xx) : (l.map Uq).map La = l := by
  induction l with
  | nil => rfl
  | cons a t ih => rw [List.map_cons,List.map_cons,ih,Jlh]
theorem Zsn {l : List Xx} (hn : l.length ≤ 20) (h : ∀ s ∈ l,s.f4.length ≤ 20 ∧ s.f7.length ≤ 20) (ht : tot l ≤ 3000) :
    J8.f l = if l.all Kq = true then some (Za8 (Net.encS (l.map Uq)),0) else some ([],1) := by
  have h1 := Zka l h ht
  unfold J8.f
  rw [if_pos (by omega),if_pos ⟨by omega,fun s hs => ⟨by have := h s hs;omega,by have := h s hs;omega,fun a ha => by
    have h2 := Zpp hs
    have h3 := Zj9 ha
    have es : Zr4 s = s.f1.size + s.f2.size + s.f5.size + s.f6.size + Gy s.f4 + Sb s.f7 := rfl
    omega⟩⟩,show (l.map Uq).all (Net.right Fh) = l.all Kq from by rw [List.all_map];rfl]
  rfl
theorem Z4q {l : List Xx} (hn : l.length ≤ 20) (h : ∀ s ∈ l,s.f4.length ≤ 20 ∧ s.f7.length ≤ 20) (ht : tot l ≤ 3000) (hr : l.all Kq = true) :
    Vm.f (Za8 (Net.encS (l.map Uq))) = some (l,((Net.encS (l.map Uq)).length : Int),0) := by
  have h1 := Zka l h ht
  rw [Zt7 (fun s hs => by
    obtain ⟨x,hx,rfl⟩ := List.mem_map.1 hs
    exact List.all_eq_true.1 hr x hx) (Jcs h ht) (by rw [List.length_map];omega) (by omega) (by have := Jfu (l.map Uq);omega),Jhg]
theorem Jbb (s : Xx) (hl : s.f7.length ≤ 1000000) : ∀ (d i : Nat),s.f7.length - i ≤ d → i ≤ s.f7.length → ∀ k,d + 1 ≤ k →
    Zv.l1 k (s.f7.length : Int) (i : Int) s.f0 s.f1 s.f2 s.f3 s.f4 s.f5 s.f6 s.f7 s.f0 s.f1 s.f2 s.f3 s.f4 s.f5 s.f6 s.f7 = some true := by
  intro d
  induction d with
  | zero =>
    intro i h1 h2 k hk
    obtain ⟨m,rfl⟩ : ∃ m,k = m + 1 := ⟨k - 1,by omega⟩
    rw [Zv.l1,if_neg (by omega)]
  | succ d ih =>
    intro i h1 h2 k hk
    obtain ⟨m,rfl⟩ : ∃ m,k = m + 1 := ⟨k - 1,by omega⟩
    by_cases hi : (i : Int) < (s.f7.length : Int)
    · rw [Zv.l1,if_pos hi,if_pos (by omega),if_pos hi,if_pos hi,if_neg (by simp),l5 _ (by omega) (by omega),show (i : Int) + 1 = ((i + 1 : Nat) : Int) by omega]
      exact ih (i + 1) (by omega) (by omega) m (by omega)
    · rw [Zv.l1,if_neg hi]
theorem Jli (s : Xx) (h4 : s.f4.length ≤ 1000000) (h7 : s.f7.length ≤ 1000000) : ∀ (d i : Nat),s.f4.length - i ≤ d → i ≤ s.f4.length → ∀ k,d + s.f7.length + 2 ≤ k →
    Zv.l0 k (s.f4.length : Int) (i : Int) s.f0 s.f1 s.f2 s.f3 s.f4 s.f5 s.f6 s.f7 s.f0 s.f1 s.f2 s.f3 s.f4 s.f5 s.f6 s.f7 = some true := by
  intro d
  induction d with
  | zero =>
    intro i h1 h2 k hk
    obtain ⟨m,rfl⟩ : ∃ m,k = m + 1 := ⟨k - 1,by omega⟩
    rw [Zv.l0,if_neg (by omega)]
    exact Jbb s h7 s.f7.length 0 (by omega) (by omega) m (by omega)
  | succ d ih =>
    intro i h1 h2 k hk
    obtain ⟨m,rfl⟩ : ∃ m,k = m + 1 := ⟨k - 1,by omega⟩
    by_cases hi : (i : Int) < (s.f4.length : Int)
    · rw [Zv.l0,if_pos hi,if_pos (by omega),if_pos hi,if_pos hi,if_pos rfl,l5 _ (by omega) (by omega),show (i : Int) + 1 = ((i + 1 : Nat) : Int) by omega]
      exact ih (i + 1) (by omega) (by omega) m (by omega)
    · rw [Zv.l0,if_neg hi]
      exact Jbb s h7 s.f7.length 0 (by omega) (by omega) m (by omega)
theorem Jct (s : Xx) (h4 : s.f4.length ≤ 1000000) (h7 : s.f7.length ≤ 1000000) (k : Nat) (hk : s.f4.length + s.f7.length + 3 ≤ k) :
    Zv.f k s.f0 s.f1 s.f2 s.f3 s.f4 s.f5 s.f6 s.f7 s.f0 s.f1 s.f2 s.f3 s.f4 s.f5 s.f6 s.f7 = some true := by
  obtain ⟨m,rfl⟩ : ∃ m,k = m + 1 := ⟨k - 1,by omega⟩
  unfold Zv.f
  rw [if_pos rfl,if_pos rfl,if_pos rfl,if_neg (by simp),if_pos rfl,if_pos rfl,if_pos rfl,bne_self_eq_false,Zv.j0,if_neg (by decide)]
  exact Jli s h4 h7 s.f4.length 0 (by omega) (by omega) m (by omega)
theorem J31 (l : List Xx) (hn : l.length ≤ 20) (h : ∀ s ∈ l,s.f4.length ≤ 20 ∧ s.f7.length ≤ 20) : ∀ (d i : Nat),l.length - i ≤ d → i ≤ l.length → ∀ k,d + 50 ≤ k →
    Zg.l1 k l l (l.length : Int) (i : Int) = some true := by
  intro d
  induction d with
  | zero =>
    intro i h1 h2 k hk
    obtain ⟨m,rfl⟩ : ∃ m,k = m + 1 := ⟨k - 1,by omega⟩
    rw [Zg.l1,if_neg (by omega)]
  | succ d ih =>
    intro i h1 h2 k hk
    obtain ⟨m,rfl⟩ : ∃ m,k = m + 1 := ⟨k - 1,by omega⟩
    by_cases hi : i < l.length
    · have hs := h _ (List.getElem_mem hi)
      rw [Zg.l1,if_pos (by omega),if_pos (by omega),if_pos (by omega),if_pos (by omega),Jj5 l i hi,Jct _ (by omega) (by omega) m (by omega),Option.bind_some,if_pos rfl,l5 _ (by omega) (by omega),show (i : Int) + 1 = ((i + 1 : Nat) : Int) by omega]
      exact ih (i + 1) (by omega) (by omega) m (by omega)
    · rw [Zg.l1,if_neg (by omega)]
def Told (l : List Xx) (k : Nat) : Prop := ∀ s ∈ l,Zk.f k s.f0 s.f1 s.f2 s.f3 s.f4 s.f5 s.f6 s.f7 = some (Kq s) ∧ Zu.f k s.f0 s.f1 s.f2 s.f3 s.f4 s.f5 s.f6 s.f7 = some (Kq s) ∧
    (Kq s = true → Zh.f k s.f0 s.f1 s.f2 s.f3 s.f4 s.f5 s.f6 s.f7 = some (Net.bs (Net.encs (Net.parts (Uq s)))))
theorem Jcu (l : List Xx) (h : ∀ s ∈ l,s.f4.length ≤ 20 ∧ s.f7.length ≤ 20) (hz : ∀ s ∈ l,Zur (Uq s) ≤ 100000) (ha : ∀ s ∈ l,∀ a ∈ s.f7,a.f2.size ≤ 100000) : ∃ k0,∀ k,k0 ≤ k → Told l k := by
  induction l with
  | nil => exact ⟨0,fun k _ s hs => by cases hs⟩
  | cons a t ih =>
    obtain ⟨k1,h1⟩ := ih (fun s hs => h s (.tail _ hs)) (fun s hs => hz s (.tail _ hs)) (fun s hs => ha s (.tail _ hs))
    have h0 := h a (.head _)
    have z0 := hz a (.head _)
    obtain ⟨k2,h2⟩ := Jfn a (by omega) (ha a (.head _))
    refine ⟨k1 + k2 + 50,fun k hk s hs => ?_⟩
    rcases List.mem_cons.1 hs with rfl | hs
    · exact ⟨Zws s k (by omega) (by omega) (ha s (.head _)),h2 k (by omega),fun hr => Jj4 s hr (by omega) (by omega) (by omega) k (by omega)⟩
    · exact h1 k (by omega) s hs
theorem Z2b (l : List Xx) (hl : l.length ≤ 20) (k0 : Nat) (hk0 : ∀ k,k0 ≤ k → Told l k) (hE : J8.f l = some ([],1)) : ∀ (d i : Nat) (acc : ByteArray),l.length - i ≤ d → i ≤ l.length → ∀ k,k0 + d + 1 ≤ k →
    Zg.l0 k l false acc l (l.length : Int) (i : Int) = some true := by
  intro d
  induction d with
  | zero =>
    intro i acc h1 h2 k hk
    obtain ⟨m,rfl⟩ : ∃ m,k = m + 1 := ⟨k - 1,by omega⟩
    rw [Zg.l0,if_neg (by omega),hE,Option.bind_some,if_neg (by decide),if_pos rfl]
    rfl
  | succ d ih =>
    intro i acc h1 h2 k hk
    obtain ⟨m,rfl⟩ : ∃ m,k = m + 1 := ⟨k - 1,by omega⟩
    by_cases hi : i < l.length
    · obtain ⟨e1,e2,_⟩ := hk0 m (by omega) _ (List.getElem_mem hi)
      rw [Zg.l0,if_pos (by omega),if_pos (by omega),if_pos (by omega),Jj5 l i hi,e1,Option.bind_some,e2,Option.bind_some,bne_self_eq_false,if_neg (by decide),if_neg (by decide),l5 _ (by omega) (by omega),show (i : Int) + 1 = ((i + 1 : Nat) : Int) by omega]
      exact ih (i + 1) _ (by omega) (by omega) m (by omega)
    · rw [Zg.l0,if_neg (by omega),hE,Option.bind_some,if_neg (by decide),if_pos rfl]
      rfl
theorem Z4r (l : List Xx) (hl : l.length ≤ 20) (h : ∀ s ∈ l,s.f4.length ≤ 20 ∧ s.f7.length ≤ 20) (ht : tot l ≤ 3000) (k0 : Nat) (hk0 : ∀ k,k0 ≤ k → Told l k) : ∀ (d i : Nat) (acc : List UInt8),l.length - i ≤ d → i ≤ l.length → (∀ (j : Nat) (hj : j < l.length),j < i → Kq l[j] = true) → acc ++ Net.encS ((l.drop i).map Uq) = Net.encS (l.map Uq) → ∀ k,k0 + d + 80 ≤ k →
    Zg.l0 k l true (Net.bs acc) l (l.length : Int) (i : Int) = some true := by
  have hz := Zka l h ht
  have hlast : ∀ (i : Nat) (acc : List UInt8) (m : Nat),¬ i < l.length → (∀ (j : Nat) (hj : j < l.length),j < i → Kq l[j] = true) → acc ++ Net.encS ((l.drop i).map Uq) = Net.encS (l.map Uq) → k0 + 79 ≤ m →
      Zg.l0 (m + 1) l true (Net.bs acc) l (l.length : Int) (i : Int) = some true := by
    intro i acc m hi hr ha hm
    obtain ⟨q,rfl⟩ : ∃ q,m = q + 1 := ⟨m - 1,by omega⟩
    have hall : l.all Kq = true := List.all_eq_true.2 fun s hs => by
      obtain ⟨j,hj,rfl⟩ := List.getElem_of_mem hs
      exact hr j hj (by omega)
    rw [List.drop_of_length_le (by omega)] at ha
    have ha' : acc = Net.encS (l.map Uq) := by rw [← ha];show acc = acc ++ [];rw [List.append_nil]
    subst ha'
    rw [Zg.l0,if_neg (by omega),Zsn hl h ht,if_pos hall,Option.bind_some,if_pos rfl]
    show (Vm.f (Za8 (Net.encS (l.map Uq)))).bind _ = _
    rw [Z4q hl h ht hall,Option.bind_some,if_pos rfl,if_pos rfl]
    rw [tl,tl,Zyg,Z1d,if_pos rfl,if_pos (by rw [Zlg]),bne_self_eq_false,Zg.j1,if_neg (by decide)]
    exact J31 l hl h l.length 0 (by omega) (by omega) q (by omega)
  intro d
  induction d with
  | zero =>
    intro i acc h1 h2 hr ha k hk
    obtain ⟨m,rfl⟩ : ∃ m,k = m + 1 := ⟨k - 1,by omega⟩
    exact hlast i acc m (by omega) hr ha (by omega)
  | succ d ih =>
    intro i acc h1 h2 hr ha k hk
    obtain ⟨m,rfl⟩ : ∃ m,k = m + 1 := ⟨k - 1,by omega⟩
    by_cases hi : i < l.length
    · obtain ⟨e1,e2,e3⟩ := hk0 m (by omega) _ (List.getElem_mem hi)
      rw [Zg.l0,if_pos (by omega),if_pos (by omega),if_pos (by omega),Jj5 l i hi,e1,Option.bind_some,e2,Option.bind_some,bne_self_eq_false,if_neg (by decide),if_pos rfl,Option.bind_some]
      by_cases hri : Kq l[i] = true
      · rw [Jb9 l i hi] at ha
        have hlen : acc.length + (Net.encs (Net.parts (Uq l[i]))).length ≤ (Net.encS (l.map Uq)).length := by
          rw [← ha,List.length_append,List.length_append]
          omega
        rw [hri,if_pos rfl,e3 hri,Option.bind_some,if_pos (by rw [Wi,Wi];omega),Pe,l5 _ (by omega) (by omega),show (i : Int) + 1 = ((i + 1 : Nat) : Int) by omega]
        refine ih (i + 1) _ (by omega) (by omega) (fun j hj hji => ?_) (by rw [List.append_assoc];exact ha) m (by omega)
        by_cases hj' : j < i
        · exact hr j hj hj'
        · obtain rfl : j = i := by omega
          exact hri
      · have hf : Kq l[i] = false := Bool.eq_false_iff.2 hri
        have hE : J8.f l = some ([],1) := by
          rw [Zsn hl h ht,if_neg fun hall => hri (List.all_eq_true.1 hall _ (List.getElem_mem hi))]
        rw [hf,if_neg (by decide),l5 _ (by omega) (by omega),show (i : Int) + 1 = ((i + 1 : Nat) : Int) by omega]
        exact Z2b l hl k0 hk0 hE d (i + 1) _ (by omega) (by omega) m (by omega)
    · exact hlast i acc m hi hr ha (by omega)
theorem Z4s (l : List Xx) (hl : l.length ≤ 281474976710656) (hm : ∀ s ∈ l,Mem s) : ∃ k,Zg.f k l = some true := by
  obtain ⟨b,hb,hfew⟩ := Jp6 l hl hm l.length 0 0 (by omega) (by omega)
  rw [List.drop_zero] at hb hfew
  have hF : Zx.f (fuel l) l = some b := hb
  have hFm : ∀ k,fuel l ≤ k → Zx.f k l = some b := by
    intro k hk
    obtain ⟨d,rfl⟩ := Nat.exists_eq_add_of_le hk
    clear hk
    induction d with
    | zero => exact hF
    | succ d ih => exact Zx.mono _ _ _ ih
  cases b with
  | false =>
    refine ⟨fuel l,?_⟩
    unfold Zg.f
    rw [Jg5,Option.bind_some,if_pos rfl,hF,Option.bind_some,if_neg (by decide)]
  | true =>
    obtain ⟨q1,q2,q3⟩ := hfew rfl
    have hsum : tot l ≤ l.length * (4 * 281474976710656 + 20 * 281474976710656 + 20 * 562949953421312) := by
      clear hb hfew hF hFm q1 q3
      induction l with
      | nil => exact Nat.le_refl _
      | cons a t ih =>
        have h1 := ih (by rw [List.length_cons] at hl;omega) (fun s hs => hm s (.tail _ hs)) (fun s hs => q2 s (.tail _ hs))
        obtain ⟨m1,m2,m5,m6,m4,m7,mw,ma⟩ := hm a (.head _)
        have h2 := Jkq a.f4 mw
        have h3 := Jkr a.f7 ma
        have h4 := q2 a (.head _)
        have es : Zr4 a = a.f1.size + a.f2.size + a.f5.size + a.f6.size + Gy a.f4 + Sb a.f7 := rfl
        rw [Zi2,List.length_cons]
        omega
    have ht : tot l ≤ 3000 := by
      have := q3 (by omega) (by omega)
      omega
    have hz := Zka l q2 ht
    obtain ⟨k0,hk0⟩ := Jcu l q2 (fun s hs => by
      have h1 := q2 s hs
      have h2 := Zpp hs
      have := Z2a s h1.1 h1.2 (by omega)
      unfold Zur
      omega) (fun s hs a ha => by
      have h2 := Zpp hs
      have h3 := Zj9 ha
      have es : Zr4 s = s.f1.size + s.f2.size + s.f5.size + s.f6.size + Gy s.f4 + Sb s.f7 := rfl
      omega)
    refine ⟨k0 + l.length + 80 + fuel l,?_⟩
    unfold Zg.f
    rw [Jg5,Option.bind_some,if_pos rfl,hFm _ (by omega),Option.bind_some,if_pos rfl]
    exact Z4r l q1 q2 ht k0 hk0 l.length 0 [] (by omega) (by omega) (fun j _ hj => absurd hj (Nat.not_lt_zero j)) (by rw [List.drop_zero];rfl) _ (by omega)
theorem Z4t (A : Option Addr) (c : Nat) (l : List Xx) (w : World) (hr : Kd.C k29 w A l.length l) (hc : l.length ≤ c) (hl : l.length ≤ 281474976710656) (hm : ∀ s ∈ l,Mem s) (hT : Dt w) (hP : Yg w) (hE : Qs w) :
    Calls Tryz.prog 3 #[.slice A l.length c] w fun e w' => e = .returned (.bool true) ∧ Below w.heap.size w w' := by
  obtain ⟨k,hk⟩ := Z4s l hl hm
  exact Zg.calls k A c l true w hr hc hk hT hP hE
end Go.Proofs.YtdhpcofnddkcaaaGreatDoor.S
namespace Go.Proofs.YtdhpcofnddkcaaaGreatDoor.scriptBytes
open Go.ChangeShapes Go.WideShapes Go.ChangeAt Go.RowKit Go.Proofs.YtdhpcofnddkcaaaGreatDoor.E
open Go.ChangeMaps (open_string shut_string)
set_option linter.unusedVariables false
set_option linter.unusedSimpArgs false
theorem Jhh (os : Os) : laidMet Tryz.prog Rows.scriptBytesRow.laid ((Zki os).forCall (fun _ _ => 0) ⟨#[],#[.slice none 0 0],[]⟩).memory :=
  laidMet_of_run3 8 (by kernel_rfl) (by kernel_rfl) (by kernel_rfl)
set_option maxRecDepth 100000 in
theorem reads (os : Os) {H : Type} (enc : TypeId × Value → H) : ∃ places,DataW.whole enc Tryz.prog ((Zki os).forCall (fun _ _ => 0) ⟨#[],#[.slice none 0 0],[]⟩).memory Tryz.f3.params.toList Rows.scriptBytesSpec.vars false #[Value.slice none 0 0].toList 8 = some ([.nil],[],places) :=
  ⟨[],by kernel_rfl⟩
set_option maxRecDepth 100000 in
theorem contract (H : Type) (enc : TypeId × Value → H) (W : World) (base : Nat) (args : Array Value) (ds gs : List (DataW H)) (before : List MemPlace)
    (hval : ∀ (j : Nat) t v,Tryz.f3.params[j]? = some t → args[j]? = some v → Value.okWide Tryz.prog W .any base t v)
    (hW : DataW.Whole enc Tryz.prog Tryz.f3.params.toList Rows.scriptBytesSpec.vars false W args.toList ds gs before) (hL : laidMetH Tryz.prog Rows.scriptBytesRow.laid W) (hS : W.ShapedOpen Tryz.prog) (hsz : (DataW.weightsEach Tryz.prog (Tryz.f3.params.toList ++ (OpenSpec.ofChange Rows.scriptBytesSpec).bare.plain.varTypes Tryz.prog) (ds ++ gs)).all (· ≤ reachBytes) = true) :
    Calls Tryz.prog 3 args W fun e W' => ∃ v,e = .returned v ∧ Rows.scriptBytesSpec.post enc Tryz.prog Tryz.f3 false true false false W args v W' := by
  have hW' := hW
  obtain ⟨p,q,hA0,hV,rfl,hfz,hnd⟩ := hW
  have hA : DataW.TrodAll enc Tryz.prog W 0 (fun _ => true) true Tryz.f3.params.toList args.toList ds p := hA0
  rw [Tryz.params3] at hA hval
  have hAk := hA
  have hlt : ∀ x ∈ p,x.block < W.heap.size := fun x hx => by simpa using hW'.lt x (List.mem_append.2 (Or.inl hx))
  obtain ⟨v0,vs0,d0,ds0,p0,q0,hargs,rfl,rfl,h0,r0⟩ := trodAll_cons hA
  obtain ⟨rfl,rfl,rfl⟩ := trodAll_nil r0
  obtain rfl : args = #[v0] := by cases args;simp_all
  obtain ⟨rfl,rfl⟩ := trodVars_none hV
  obtain ⟨A0,c0,l0,rfl,hc0,hC0,hl0,hm0⟩ := Z35 (hval 0 22 v0 rfl rfl) h0 (fun n hn => by
    have := of_decide_eq_true (List.all_eq_true.1 hsz n (DataW.weights_mem_each (j := 0) rfl rfl n hn))
    unfold reachBytes at this
    omega)
  clear hA0
  simp only [List.append_nil] at hW' hAk hlt
  have hT := Jof hS
  have hP := Jd8 hL
  have hE := Jea hL
  refine (S.Z4t A0 c0 l0 W hC0 hc0 hl0 hm0 hT hP hE).mono fun e W' ⟨he,hb⟩ => ?_
  subst he
  exact ⟨_,rfl,_,_,_,[],_,[],hW',trodAll_mk1 (shut_bool Tryz.underlying4 _),Zp9 laidOut hb _ _ _ _ (by decide +kernel) hAk hlt,rfl,hb.frame _,fun h => by cases h⟩
set_option maxRecDepth 100000 in
theorem lifted (os : Os) (started : os.Started) (H : Type) (enc : TypeId × Value → H) (F : Stop.Interp) :
    ReturnsInHanded {} Tryz.checked os 3 .any ((OpenSpec.ofChange Rows.scriptBytesSpec).preRow enc Tryz.prog Tryz.f3 Rows.scriptBytesRow.domain false Rows.scriptBytesRow.laid) (((OpenSpec.ofChange Rows.scriptBytesSpec).at F).post enc Tryz.prog Tryz.f3 false true false false) := by
  obtain ⟨places,hx⟩ := reads os enc
  refine returnsInHanded_of_row (C := Tryz.checked) (s := OpenSpec.ofChange Rows.scriptBytesSpec) own started (by kernel_rfl) Tryz.func3
    (witness_row_atRef (enc := enc) (C := Tryz.checked) false (Zki os) #[.slice none 0 0] rfl (by kernel_rfl) (by kernel_rfl) (by kernel_rfl)
      (OpenSpec.preRow_of_cond 8 hx (by kernel_rfl) (fun k hk => by cases hk) (by kernel_rfl) (Jhh os))) ?_
  intro W base args ds gs before hval hW _ _ hsz hL hS _
  exact contract H enc W base args ds gs before hval hW hL hS hsz
theorem said : Rows.ScriptBytesSaid :=
  OpenClaim.holds_of_cond 3 Tryz.f3 rfl rfl rfl rfl rfl rfl rfl ⟨rfl,rfl,rfl,rfl,rfl⟩ rfl rfl rfl rfl rfl (by kernel_rfl) Tryz.func3 (by kernel_rfl)
    (of_decide_eq_true (by kernel_rfl)) (by unfold Func.isWrapper;first | (rw [if_pos (by decide +kernel)];kernel_rfl) | (rw [if_neg (by decide +kernel)];exact ⟨rfl,rfl⟩))
    (fun os started H enc _ F => by rw [OpenClaim.pre_eq_preRow];exact lifted os started H enc F)
theorem plain (f : FuncId) (fn : Func) (hf : Tryz.pinned.checked.prog.funcNamed "polyglot/polyglotlaw18.ScriptBytes" = some f) (hfn : Tryz.pinned.checked.prog.funcs[f]? = some fn) :
    true = Tryz.pinned.checked.prog.looks [] ∧ ∀ (j : Nat) t,fn.params[j]? = some t → Tryz.pinned.checked.prog.wantsStandIn t = false := by
  obtain rfl : f = 3 := Option.some.inj ((show Tryz.prog.funcNamed "polyglot/polyglotlaw18.ScriptBytes" = some 3 by kernel_rfl).symm.trans hf) |>.symm
  obtain rfl : fn = Tryz.f3 := (Option.some.inj (Tryz.func3.symm.trans hfn)).symm
  refine ⟨by kernel_rfl,fun j t ht => ?_⟩
  rw [Tryz.params3] at ht
  have hmem := Array.mem_of_getElem? ht
  have hall : ∀ t ∈ (#[22] : Array TypeId),Tryz.prog.wantsStandIn t = false := by
    intro t ht
    simp at ht
    subst ht
    kernel_rfl
  exact hall t hmem
end Go.Proofs.YtdhpcofnddkcaaaGreatDoor.scriptBytes
namespace Go.Proofs.YtdhpcofnddkcaaaGreatDoor
theorem scriptBytes_holds : Rows.ScriptBytesCardSaid :=
  Claim7.holds_tied_plain_at .later [] _ _ _ _ scriptBytes.said (fun _ h => by cases h) (by kernel_rfl) (fun _ h => by cases h) scriptBytes_row_tie rfl ⟨rfl,rfl⟩ (by kernel_rfl) rfl scriptBytes.plain (by kernel_rfl)
end Go.Proofs.YtdhpcofnddkcaaaGreatDoor
