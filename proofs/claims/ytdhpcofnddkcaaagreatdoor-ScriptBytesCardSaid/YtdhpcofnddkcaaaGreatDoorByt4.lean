/- polyglotlaw18.ScriptBytes: for every slice of steps the call returns true and leaves it unchanged. (Names shortened by a program.) (Text 5 of 10: what the law's proof rests on, joined; walks printed by the kit's print over given contracts, walks and plain laws by hand.) -/
import Derived.Laws.Runes
import Derived.Test.YtdhpcofnddkcaaaGreatDoorByt0
import Derived.Test.YtdhpcofnddkcaaaGreatDoorByt1
import Derived.Test.YtdhpcofnddkcaaaGreatDoorByt2
import Derived.Test.YtdhpcofnddkcaaaGreatDoorByt3
namespace Go.Proofs.YtdhpcofnddkcaaaGreatDoor.S
open Go.RowKit Go.Proofs.YtdhpcofnddkcaaaGreatDoor.G Go.Proofs.YtdhpcofnddkcaaaGreatDoorW.PrintWords Go.Proofs.YtdhpcofnddkcaaaGreatDoorW.PrintLast Go.Proofs.YtdhpcofnddkcaaaGreatDoorW.PrintMore
set_option linter.unusedVariables false
set_option linter.unusedSimpArgs false
namespace Sparts
theorem Va {w : World} {g : Nat} {t : TypeId} {a0 a1 a2 : Value} (h : w.heap[g]? = some (.cells #[a0,a1,a2] t (0,0))) : w.cell? ⟨g,0,none⟩ = some a0 ∧ w.cell? ⟨g,1,none⟩ = some a1 ∧ w.cell? ⟨g,2,none⟩ = some a2 ∧ w.frozen? ⟨g,0,none⟩ = false ∧ w.frozen? ⟨g,1,none⟩ = false ∧ w.frozen? ⟨g,2,none⟩ = false := ⟨(Zd h 0).trans rfl,(Zd h 1).trans rfl,(Zd h 2).trans rfl,Zj h 0,Zj h 1,Zj h 2⟩
theorem Jf {w : World} {g : Nat} {t : TypeId} {a0 a1 a2 a3 a4 a5 a6 a7 : Value} (h : w.heap[g]? = some (.cells #[a0,a1,a2,a3,a4,a5,a6,a7] t (0,0))) : w.cell? ⟨g,0,none⟩ = some a0 ∧ w.cell? ⟨g,1,none⟩ = some a1 ∧ w.cell? ⟨g,2,none⟩ = some a2 ∧ w.cell? ⟨g,3,none⟩ = some a3 ∧ w.cell? ⟨g,4,none⟩ = some a4 ∧ w.cell? ⟨g,5,none⟩ = some a5 ∧ w.cell? ⟨g,6,none⟩ = some a6 ∧ w.cell? ⟨g,7,none⟩ = some a7 ∧ w.frozen? ⟨g,0,none⟩ = false ∧ w.frozen? ⟨g,1,none⟩ = false ∧ w.frozen? ⟨g,2,none⟩ = false ∧ w.frozen? ⟨g,3,none⟩ = false ∧ w.frozen? ⟨g,4,none⟩ = false ∧ w.frozen? ⟨g,5,none⟩ = false ∧ w.frozen? ⟨g,6,none⟩ = false ∧ w.frozen? ⟨g,7,none⟩ = false := ⟨(Zd h 0).trans rfl,(Zd h 1).trans rfl,(Zd h 2).trans rfl,(Zd h 3).trans rfl,(Zd h 4).trans rfl,(Zd h 5).trans rfl,(Zd h 6).trans rfl,(Zd h 7).trans rfl,Zj h 0,Zj h 1,Zj h 2,Zj h 3,Zj h 4,Zj h 5,Zj h 6,Zj h 7⟩
theorem Vh {p_ : Prop} (h_ : p_ := by repeat (first | (with_reducible first | exact HB.out | apply Z4 | apply Zr | apply Zz | refine Z8 ?_ Z04.out) | exact HB.out)) : p_ := h_
theorem J5 {p_ : Prop} (h_ : p_ := by (with_reducible repeat (first | refine Zc ?_ _ | refine Zf ?_ | refine Zb ?_ _));exact J6.out) : p_ := h_
theorem Vz {p_ : Prop} (h_ : p_ := by repeat (first | (with_reducible first | exact HB.out | apply Z4 | apply Zr | apply Zz) | exact HB.out)) : p_ := h_
theorem Yb {p_ : Prop} (h_ : p_ := by repeat (first | (with_reducible first | exact HB.out | apply Z4 | apply Zr | apply Zz | refine Z8 ?_ Z04.out | refine Z8 ?_ Juq.out) | exact HB.out)) : p_ := h_
theorem Qw {p_ : Prop} (h_ : p_ := by (with_reducible repeat (first | apply Kd.Yv | apply Kd.Yw | apply Kd.Xl));exact Zk1.out) : p_ := h_
theorem Xu {p_ : Prop} (h_ : p_ := by first | rfl | (simp [Vd,Ve] <;> rfl) | (simp [*,Vd,Ve] <;> rfl)) : p_ := h_
theorem Qg {p_ : Prop} (h_ : p_ := by rw [hg];exact (Jh Vz)) : p_ := h_
theorem Dx {p_ : Prop} (h_ : p_ := by first | (with_reducible assumption) | assumption) : p_ := h_
theorem Wp {p_ : Prop} (h_ : p_ := by (try simp only [List.map_toArray,List.map_cons,List.map_nil]);first | done | rfl | (simp only [List.length_drop,List.length_take];rfl)) : p_ := h_
theorem Q0 {p_ : Prop} (h_ : p_ := by first | (go_simp;done) | (go_simp;rfl)) : p_ := h_
end Sparts
open Sparts
def Z9.l0 : Nat → List ByteArray → List (Y4) → Int → Int → Option (List ByteArray)
 | 0,_,_,_,_ => none
 | k + 1,x4,x41,x42,x43 => if x43 < x42 then (if 0 ≤ x43 then (if x43 < (x41.length : Int) then (if 0 ≤ ((Z6 x41 x43).f1) then (if ((Z6 x41 x43).f1) < 3 then ((some (([(Z6 x41 x43).f0,Utf8.encode (bt (⟨#[116,110,109]⟩ : ByteArray) ((Z6 x41 x43).f1)),(Z6 x41 x43).f2] : List ByteArray) : List ByteArray)).bind fun Zwt => (if x4.length + Zwt.length < 8796093022208 then (Z9.l0 k (x4 ++ Zwt) x41 x42 (wrap64 (x43 + 1))) else (none))) else (none)) else (none)) else (none)) else (none)) else (some x4)
def Z9.f (k : Nat) (Z5 : Int) (Jb : ByteArray) (Jc : ByteArray) (Jt : Bool) (Jd : List ByteArray) (Jn : ByteArray) (Jm : ByteArray) (Zy : List (Y4)) : Option (List ByteArray) := if Z5 = 0 then (if Jt = true then (some (([(⟨#[97]⟩ : ByteArray),Jb,(⟨#[49]⟩ : ByteArray),Jc] : List ByteArray))) else (some (([(⟨#[97]⟩ : ByteArray),Jb,(⟨#[48]⟩ : ByteArray),Jc] : List ByteArray)))) else (if Z5 = 1 then ((strconv_Itoa.f (Jd.length : Int)).bind fun Zrg => ((some (([(⟨#[99]⟩ : ByteArray),Jb,Zrg] : List ByteArray) : List ByteArray)).bind fun Zim => (if Zim.length + Jd.length < 8796093022208 then (some (Zim ++ Jd)) else (none)))) else ((strconv_Itoa.f (Zy.length : Int)).bind fun Zrh => (Z9.l0 k (([(⟨#[113]⟩ : ByteArray),Jn,Jm,Zrh] : List ByteArray)) Zy (Zy.length : Int) 0)))
theorem Z9.Xy : ∀ k,(∀ y0 y1 y2 y3,Jz (Z9.l0 k y0 y1 y2 y3) (Z9.l0 (k + 1) y0 y1 y2 y3))
 | 0 => fun _ _ _ _ r h => by simp [Z9.l0] at h
 | k + 1 => by
  have ih0 := Z9.Xy k
  ·intro y0 y1 y2 y3
   unfold Z9.l0
   repeat' first
   | (with_reducible exact ih0 _ _ _ _)
   | (with_reducible exact Jz.refl _)
   | (with_reducible exact Jz.none _)
   | (with_reducible refine Jz.ite ?_ ?_)
   | (with_reducible refine Jz.bind ?_ (fun _ => ?_))
   | exact ih0 _ _ _ _
   | exact Jz.none _
   | refine Jz.ite ?_ ?_
   | refine Jz.bind ?_ (fun _ => ?_)
theorem Z9.mono : ∀ a0 a1 a2 a3 a4 a5 a6 a7 k,Jz (Z9.f k a0 a1 a2 a3 a4 a5 a6 a7) (Z9.f (k + 1) a0 a1 a2 a3 a4 a5 a6 a7) := by
 intro a0 a1 a2 a3 a4 a5 a6 a7 k
 have ih0 := Z9.Xy k
 unfold Z9.f
 repeat' first
   | (with_reducible exact ih0 _ _ _ _)
   | (with_reducible exact Jz.refl _)
   | (with_reducible exact Jz.none _)
   | (with_reducible refine Jz.ite ?_ ?_)
   | (with_reducible refine Jz.bind ?_ (fun _ => ?_))
   | exact ih0 _ _ _ _
   | exact Jz.none _
   | refine Jz.ite ?_ ?_
   | refine Jz.bind ?_ (fun _ => ?_)
def Z9.T8 : Bool × List (List Nat × List Nat) := (true,[([],[]),([0],[0]),([],[]),([2],[2]),([3],[3]),([4],[4]),([1,5],[1,5]),([],[]),([7],[7]),([6,8,5],[6,8]),([9,9,0,1,2,3,4,5,6,7,8,9],[9])])
def Z9.B8 : List Nat := [0,1,0,4,12,28,63,0,128,511,1023]
theorem Z9.Vcl : Uy .any (opsOf Tryz.f21 8) = Z9.T8 := by kernel_rfl
theorem Z9.Jur : Uj Z9.T8.2 Z9.B8 = true := by kernel_rfl
def Z9.T9 : Bool × List (List Nat × List Nat) := (true,[([],[]),([0],[0]),([],[]),([2],[2]),([],[]),([4],[4]),([5],[5]),([6],[6]),([1,3,7],[1,3,7]),([8,7,0,1,2,3,4,5,6,7,8],[8])])
def Z9.B9 : List Nat := [0,1,0,4,0,16,48,112,255,511]
theorem Z9.Vcm : Uy .any (opsOf Tryz.f21 9) = Z9.T9 := by kernel_rfl
theorem Z9.Jus : Uj Z9.T9.2 Z9.B9 = true := by kernel_rfl
def Z9.T13 : Bool × List (List Nat × List Nat) := (true,[([],[]),([],[]),([1],[1]),([],[]),([3],[3]),([4],[4]),([5],[5]),([],[]),([7],[7]),([2,6,8],[2,6,8]),([0,9],[0,9]),([10,10,0,1,2,3,4,5,6,7,8,9,10],[0,10])])
def Z9.B13 : List Nat := [0,0,2,0,8,24,56,0,128,510,1023,2047]
theorem Z9.Jfd : Uy .any (opsOf Tryz.f21 13) = Z9.T13 := by kernel_rfl
theorem Z9.Z32 : Uj Z9.T13.2 Z9.B13 = true := by kernel_rfl
set_option maxHeartbeats 8000000 in
set_option maxRecDepth 100000 in
theorem Z9.calls (k : Nat) (Z5 : Int) (Jb : ByteArray) (Jc : ByteArray) (Jt : Bool) (Vw : Option Addr) (Vu : Nat) (Jd : List ByteArray) (Jn : ByteArray) (Jm : ByteArray) (Xf : Option Addr) (Vv : Nat) (Zy : List (Y4)) (r : List ByteArray) (w : World) (qd : Kd.C Kd.string w Vw Jd.length Jd) (qf : Jd.length ≤ Vu) (qg : Kd.C k44 w Xf Zy.length Zy) (qh : Zy.length ≤ Vv) (h : Z9.f k Z5 Jb Jc Jt Jd Jn Jm Zy = some r) (Ue : Yg w := by exact Yg.step Ue (by repeat (first | (with_reducible first | exact HB.out | apply Z4 | apply Zr | apply Zz | refine Z8 ?_ (Za.out (by assumption))) | exact HB.out))) :
  Calls Tryz.prog 21 #[.agg #[.int .i64 Z5,.string Jb,.string Jc,.bool Jt,.slice Vw Jd.length Vu,.string Jn,.string Jm,.slice Xf Zy.length Vv]] w fun e w' => ∃ v0_ : Value,e = .returned (v0_) ∧ Kd.R Kd.string 9 w' w.heap.size (fun _ => True) v0_ r ∧ Below w.heap.size w w' := by
 have Z0x := Tryz.underlying29
 have Z0h := Tryz.underlying44
 have Zl1 := Za.mk qd
 have Z59 := Za.mk qf
 clear qd qf
 have Za5 := Za.mk qg
 have Z6a := Za.mk qh
 clear qg qh
 have HB := Za.mk (Below.refl w.heap.size w)
 have H : (if Z5 = 0 then (if Jt = true then (some (([(⟨#[97]⟩ : ByteArray),Jb,(⟨#[49]⟩ : ByteArray),Jc] : List ByteArray))) else (some (([(⟨#[97]⟩ : ByteArray),Jb,(⟨#[48]⟩ : ByteArray),Jc] : List ByteArray)))) else (if Z5 = 1 then ((strconv_Itoa.f (Jd.length : Int)).bind fun Zrg => ((some (([(⟨#[99]⟩ : ByteArray),Jb,Zrg] : List ByteArray) : List ByteArray)).bind fun Zim => (if Zim.length + Jd.length < 8796093022208 then (some (Zim ++ Jd)) else (none)))) else ((strconv_Itoa.f (Zy.length : Int)).bind fun Zrh => (Z9.l0 k (([(⟨#[113]⟩ : ByteArray),Jn,Jm,Zrh] : List ByteArray)) Zy (Zy.length : Int) 0)))) = some r := h
 clear h
 by_cases c2 : Z5 = 0
 ·rw [if_pos c2] at H
  have wm : (Z5 == 0) = true := beq_iff_eq.mpr c2
  have Zfp : (Z5 != 0) = false := bne_eq_false_iff_eq.mpr c2
  clear c2
  by_cases c3 : Jt = true
  ·subst c3
   have H1 : (some (([(⟨#[97]⟩ : ByteArray),Jb,(⟨#[49]⟩ : ByteArray),Jc] : List ByteArray))) = some r := by rw [if_pos rfl] at H;exact H
   clear H
   have H := H1
   clear H1
   obtain ⟨Vco,Z05⟩ : ∃ y_ : List ByteArray,y_ = (([(⟨#[97]⟩ : ByteArray),Jb,(⟨#[49]⟩ : ByteArray),Jc] : List ByteArray)) := ⟨_,rfl⟩
   replace H : (some Vco) = some r := by first | (rw [Z05];with_reducible exact H) | (have jg := (Option.bind_some _ _).symm.trans H;rw [Z05];with_reducible exact jg) | (have jg := (Option.bind_some _ _).symm.trans H;with_reducible exact jg) | with_reducible exact H | (rw [Z05];exact H) | exact H
   have Jl8 := Za.mk Z05
   clear Z05
   obtain rfl := Option.some.inj H
   go_enter Tryz.func21,Tryz.ntmps21
   go_wp2_with (first | ((with_reducible refine Jg (N := 1) rfl ?_);refine Je ?hg (N := 1) ?hd (cs := #[.int .i64 Z5,.string Jb,.string Jc,.bool true,.slice Vw Jd.length Vu,.string Jn,.string Jm,.slice Xf Zy.length Vv]) (t := 29) ?hr ?_;(case hd => rfl);(case hg => rfl);(case hr => exact Q0);intro Xm hg w4 hbox hb;have J6 := Za.mk (hbox);have Jfe := Za.mk ((Qg : w.heap.size ≤ Xm));have Z04 := Za.mk ((Qg : w.heap.size ≤ Xm));replace HB := Za.mk (Zm Vz hb);clear hb hbox hg;obtain ⟨Zri,Zrj,Zrk,Zrl,Zrm,Zrn,Zro,Zrp,Zrq,Zrr,Zrs,Zrt,Zru,Zrv,Zrw,Zrx⟩ := Jf J6.out) | ((with_reducible refine Jg (N := 18) rfl ?_);refine Kd.Jdc Kd.string _ 9 ?hg (N := 18) ?hd (xs := ([(⟨#[97]⟩ : ByteArray),Jb,(⟨#[49]⟩ : ByteArray),Jc] : List ByteArray)) (inner := [.string (⟨#[97]⟩ : ByteArray),.string Jb,.string (⟨#[49]⟩ : ByteArray),.string Jc]) (ok := fun _ => True) (okp := fun _ => True) ?hr ?hp (fun _ hk => hk) trivial (Below.refl _ _) (Nat.le_refl _) (by simp) ?_;(case hd => rfl);(case hg => rfl);(case hr => exact Q0);(case hp => exact (Vy.one (show Kd.M Kd.string _ _ _ (⟨#[97]⟩ : ByteArray) [.string (⟨#[97]⟩ : ByteArray)] from rfl) (Vy.one (show Kd.M Kd.string _ _ _ Jb [.string Jb] from rfl) (Vy.one (show Kd.M Kd.string _ _ _ (⟨#[49]⟩ : ByteArray) [.string (⟨#[49]⟩ : ByteArray)] from rfl) (Vy.one (show Kd.M Kd.string _ _ _ Jc [.string Jc] from rfl) (Vy.none _ _))))));intro Vjv w6 ho7 hb hg_ hnew_;clear hg_ hnew_;(first | rw [← Jl8.out] at ho7 | (simp only [Int.reduceToNat] at ho7;rw [← Jl8.out] at ho7));have Juu := Za.mk (Kd.Pg ho7 (Jh Vh));replace J6 := Za.mk (Zw (g := Xm) (o := .cells #[.int .i64 Z5,.string Jb,.string Jc,.bool true,.slice Vw Jd.length Vu,.string Jn,.string Jm,.slice Xf Zy.length Vv] 29 (0,0)) J5 hb);replace HB := Za.mk (Zm Vh hb);clear hb ho7))
   go_ret
   exact ⟨_,Xu,(by (with_reducible repeat (first | apply Kd.Yv | apply Kd.Yw | apply Kd.Xl));exact Juu.out),Vh⟩
  ·replace c3 := Bool.eq_false_iff.mpr c3
   subst c3
   have H1 : (some (([(⟨#[97]⟩ : ByteArray),Jb,(⟨#[48]⟩ : ByteArray),Jc] : List ByteArray))) = some r := by rw [if_neg (show ¬ (false = true) by decide)] at H;exact H
   clear H
   have H := H1
   clear H1
   obtain ⟨Vcp,Z06⟩ : ∃ y_ : List ByteArray,y_ = (([(⟨#[97]⟩ : ByteArray),Jb,(⟨#[48]⟩ : ByteArray),Jc] : List ByteArray)) := ⟨_,rfl⟩
   replace H : (some Vcp) = some r := by first | (rw [Z06];with_reducible exact H) | (have jg := (Option.bind_some _ _).symm.trans H;rw [Z06];with_reducible exact jg) | (have jg := (Option.bind_some _ _).symm.trans H;with_reducible exact jg) | with_reducible exact H | (rw [Z06];exact H) | exact H
   have Jl9 := Za.mk Z06
   clear Z06
   obtain rfl := Option.some.inj H
   go_enter Tryz.func21,Tryz.ntmps21
   go_wp2_with (first | ((with_reducible refine Jg (N := 1) rfl ?_);refine Je ?hg (N := 1) ?hd (cs := #[.int .i64 Z5,.string Jb,.string Jc,.bool false,.slice Vw Jd.length Vu,.string Jn,.string Jm,.slice Xf Zy.length Vv]) (t := 29) ?hr ?_;(case hd => rfl);(case hg => rfl);(case hr => exact Q0);intro Xm hg w8 hbox hb;have J6 := Za.mk (hbox);have Jfe := Za.mk ((Qg : w.heap.size ≤ Xm));have Z04 := Za.mk ((Qg : w.heap.size ≤ Xm));replace HB := Za.mk (Zm Vz hb);clear hb hbox hg;obtain ⟨Z2x,Z2y,Z2z,Z20,Z21,Z22,Z23,Z24,Z25,Z26,Z27,Z28,Z29,Z3a,Z3b,Z3c⟩ := Jf J6.out) | ((with_reducible refine Jg (N := 18) rfl ?_);refine Kd.Jdc Kd.string _ 9 ?hg (N := 18) ?hd (xs := ([(⟨#[97]⟩ : ByteArray),Jb,(⟨#[48]⟩ : ByteArray),Jc] : List ByteArray)) (inner := [.string (⟨#[97]⟩ : ByteArray),.string Jb,.string (⟨#[48]⟩ : ByteArray),.string Jc]) (ok := fun _ => True) (okp := fun _ => True) ?hr ?hp (fun _ hk => hk) trivial (Below.refl _ _) (Nat.le_refl _) (by simp) ?_;(case hd => rfl);(case hg => rfl);(case hr => exact Q0);(case hp => exact (Vy.one (show Kd.M Kd.string _ _ _ (⟨#[97]⟩ : ByteArray) [.string (⟨#[97]⟩ : ByteArray)] from rfl) (Vy.one (show Kd.M Kd.string _ _ _ Jb [.string Jb] from rfl) (Vy.one (show Kd.M Kd.string _ _ _ (⟨#[48]⟩ : ByteArray) [.string (⟨#[48]⟩ : ByteArray)] from rfl) (Vy.one (show Kd.M Kd.string _ _ _ Jc [.string Jc] from rfl) (Vy.none _ _))))));intro Vjw w10 Jff hb hg_ hnew_;clear hg_ hnew_;(first | rw [← Jl9.out] at Jff | (simp only [Int.reduceToNat] at Jff;rw [← Jl9.out] at Jff));have Juv := Za.mk (Kd.Pg Jff (Jh Vh));replace J6 := Za.mk (Zw (g := Xm) (o := .cells #[.int .i64 Z5,.string Jb,.string Jc,.bool false,.slice Vw Jd.length Vu,.string Jn,.string Jm,.slice Xf Zy.length Vv] 29 (0,0)) J5 hb);replace HB := Za.mk (Zm Vh hb);clear hb Jff))
   go_ret
   exact ⟨_,Xu,(by (with_reducible repeat (first | apply Kd.Yv | apply Kd.Yw | apply Kd.Xl));exact Juv.out),Vh⟩
 ·rw [if_neg c2] at H
  have wm : (Z5 == 0) = false := beq_eq_false_iff_ne.mpr c2
  have Zfp : (Z5 != 0) = true := bne_iff_ne.mpr c2
  by_cases c12 : Z5 = 1
  ·rw [if_pos c12] at H
   have Zg2 : (Z5 == 1) = true := beq_iff_eq.mpr c12
   have Zlw : (Z5 != 1) = false := bne_eq_false_iff_eq.mpr c12
   clear c12
   replace H := Option.bind_eq_some_iff.mp H
   obtain ⟨Zrg,Zqt,H⟩ := H
   replace H : ((some (([(⟨#[99]⟩ : ByteArray),Jb,Zrg] : List ByteArray) : List ByteArray)).bind fun Zim => (if Zim.length + Jd.length < 8796093022208 then (some (Zim ++ Jd)) else (none))) = some r := H
   have A13 := Za.mk Zqt
   clear Zqt
   obtain ⟨Zim,Z07⟩ : ∃ y_ : List ByteArray,y_ = (([(⟨#[99]⟩ : ByteArray),Jb,Zrg] : List ByteArray)) := ⟨_,rfl⟩
   replace H : (if Zim.length + Jd.length < 8796093022208 then (some (Zim ++ Jd)) else (none)) = some r := by first | (rw [Z07];with_reducible exact H) | (have jg := (Option.bind_some _ _).symm.trans H;rw [Z07];with_reducible exact jg) | (have jg := (Option.bind_some _ _).symm.trans H;with_reducible exact jg) | with_reducible exact H | (rw [Z07];exact H) | exact H
   have Jma := Za.mk Z07
   clear Z07
   by_cases c14 : Zim.length + Jd.length < 8796093022208
   ·rw [if_pos c14] at H
    have Juw := Za.mk c14
    clear c14
    obtain ⟨Vcq,Z08⟩ : ∃ y_ : List ByteArray,y_ = (Zim ++ Jd) := ⟨_,rfl⟩
    replace H : (some Vcq) = some r := by first | (rw [Z08];with_reducible exact H) | (have jg := (Option.bind_some _ _).symm.trans H;rw [Z08];with_reducible exact jg) | (have jg := (Option.bind_some _ _).symm.trans H;with_reducible exact jg) | with_reducible exact H | (rw [Z08];exact H) | exact H
    have Jux := Za.mk Z08
    clear Z08
    obtain rfl := Option.some.inj H
    go_enter Tryz.func21,Tryz.ntmps21
    try go_wp2_with (first | ((with_reducible refine Jg (N := 1) rfl ?_);refine Je ?hg (N := 1) ?hd (cs := #[.int .i64 Z5,.string Jb,.string Jc,.bool Jt,.slice Vw Jd.length Vu,.string Jn,.string Jm,.slice Xf Zy.length Vv]) (t := 29) ?hr ?_;(case hd => rfl);(case hg => rfl);(case hr => exact Q0);intro Xm hg w15 hbox hb;have J6 := Za.mk (hbox);have Jfe := Za.mk ((Qg : w.heap.size ≤ Xm));have Z04 := Za.mk ((Qg : w.heap.size ≤ Xm));replace HB := Za.mk (Zm Vz hb);clear hb hbox hg;obtain ⟨Rt,Ru,Rv,Zhg,Zhh,Zhi,Zhj,Zhk,Rw,Rx,Ry,Zhl,Zhm,Zhn,Zho,Zhp⟩ := Jf J6.out))
    replace J6 := Za.mk (Zf J6.out)
    replace HB := Za.mk (Zz HB.out)
    refine Hd (n := 11) (S := fun w' => w'.cell? ⟨Xm,0,none⟩ = some (.int .i64 Z5) ∧ w'.cell? ⟨Xm,1,none⟩ = some (.string Jb) ∧ w'.cell? ⟨Xm,2,none⟩ = some (.string Jc) ∧ w'.cell? ⟨Xm,3,none⟩ = some (.bool Jt) ∧ w'.cell? ⟨Xm,4,none⟩ = some (.slice Vw Jd.length Vu) ∧ w'.cell? ⟨Xm,5,none⟩ = some (.string Jn) ∧ w'.cell? ⟨Xm,6,none⟩ = some (.string Jm) ∧ w'.cell? ⟨Xm,7,none⟩ = some (.slice Xf Zy.length Vv)) (ds := []) #[false,false,false,false,false,false,false,false,false,false,false] (by kernel_rfl) rfl rfl ⟨(Zd J6.out 0).trans rfl,(Zd J6.out 1).trans rfl,(Zd J6.out 2).trans rfl,(Zd J6.out 3).trans rfl,(Zd J6.out 4).trans rfl,(Zd J6.out 5).trans rfl,(Zd J6.out 6).trans rfl,(Zd J6.out 7).trans rfl⟩ (fun hHeld => ?_);refine Dr Z9.Vcl Z9.Jur (fun HT_ HW_ => ?_)
    generalize w15.drew = w17 at J6 HB hHeld ⊢
    refine V3 (i := 0) (N := some 21) (v := ?_) (a' := ?_) #[true,false,false,false,false,false,false,false,false,false,false] rfl rfl (Vk HT_.out (by kernel_rfl)) (fun _ _ _ h => h) (Or.inl ⟨(by rfl),?_⟩) ?_ ?_
    rotate_left
    ·intro w'
     go_simp
     with_reducible rfl
    rotate_left
    ·simp only [Act.put,List.setIfInBounds_toArray,List.set_cons_zero,List.set_cons_succ,Jo,Jq]
     rfl
    refine V3 (i := 2) (N := some 23) (v := ?_) (a' := ?_) #[true,false,true,false,false,false,false,false,false,false,false] rfl rfl (Vk HT_.out (by kernel_rfl)) (fun _ _ _ h => h) (Or.inl ⟨(by rfl),?_⟩) ?_ ?_
    rotate_left
    ·intro w'
     go_simp
     with_reducible rfl
    rotate_left
    ·simp only [Act.put,List.setIfInBounds_toArray,List.set_cons_zero,List.set_cons_succ,Jo,Jq]
     rfl
    refine V3 (i := 7) (N := some 28) (v := ?_) (a' := ?_) #[true,false,true,false,false,false,false,true,false,false,false] rfl rfl (Vk HT_.out (by kernel_rfl)) (fun _ _ _ h => h) (Or.inl ⟨(by rfl),?_⟩) ?_ ?_
    rotate_left
    ·intro w'
     go_simp
     with_reducible rfl
    rotate_left
    ·simp only [Act.put,List.setIfInBounds_toArray,List.set_cons_zero,List.set_cons_succ,Jo,Jq]
     rfl
    refine Qx (i := 1) (N := some 22) (v := ?_) (a' := ?_) #[true,true,true,false,false,false,false,true,false,false,false] rfl rfl (Xj HT_.out HW_.out (by kernel_rfl)) (fun _ _ _ h => h) (Or.inl ⟨(by rfl),?_⟩) hHeld ?_ ?_
    rotate_left
    ·rintro w' ⟨s0,s1,s2,s3,s4,s5,s6,s7⟩
     go_simp
     with_reducible rfl
    rotate_left
    ·simp only [Act.put,List.setIfInBounds_toArray,List.set_cons_zero,List.set_cons_succ,Jo,Jq]
     rfl
    refine Qx (i := 3) (N := some 24) (v := ?_) (a' := ?_) #[true,true,true,true,false,false,false,true,false,false,false] rfl rfl (Xj HT_.out HW_.out (by kernel_rfl)) (fun _ _ _ h => h) (Or.inl ⟨(by rfl),?_⟩) hHeld ?_ ?_
    rotate_left
    ·rintro w' ⟨s0,s1,s2,s3,s4,s5,s6,s7⟩
     go_simp
     with_reducible rfl
    rotate_left
    ·simp only [Act.put,List.setIfInBounds_toArray,List.set_cons_zero,List.set_cons_succ,Jo,Jq]
     rfl
    refine V3 (i := 4) (N := some 25) (v := ?_) (a' := ?_) #[true,true,true,true,true,false,false,true,false,false,false] rfl rfl (Vk HT_.out (by kernel_rfl)) (fun _ _ _ h => h) (Or.inl ⟨(by rfl),?_⟩) ?_ ?_
    rotate_left
    ·intro w'
     go_simp
     with_reducible rfl
    rotate_left
    ·simp only [Act.put,List.setIfInBounds_toArray,List.set_cons_zero,List.set_cons_succ,Jo,Jq]
     rfl
    refine Qx (i := 8) (N := some 29) (v := ?_) (a' := ?_) #[true,true,true,true,true,false,false,true,true,false,false] rfl rfl (Xj HT_.out HW_.out (by kernel_rfl)) (fun _ _ _ h => h) (Or.inl ⟨(by rfl),?_⟩) hHeld ?_ ?_
    rotate_left
    ·rintro w' ⟨s0,s1,s2,s3,s4,s5,s6,s7⟩
     go_simp
     with_reducible rfl
    rotate_left
    ·simp only [Act.put,List.setIfInBounds_toArray,List.set_cons_zero,List.set_cons_succ,Jo,Jq]
     rfl
    refine F3 (i := 5) (N := some 26) #[true,true,true,true,true,true,false,true,true,false,false] rfl rfl (Qn HT_.out (by kernel_rfl)) (by decide) (fun K hK => ?_)
    refine Uk Tryz.func20 (by kernel_rfl) rfl #[.int .i64 (Jd.length : Int)] (by rfl) rfl rfl Wp ?_
    with_reducible refine (strconv_Itoa.calls (Jd.length : Int) Zrg _ A13.out).mono ?_
    rintro e w18 ⟨rfl,hb⟩
    refine ⟨_,rfl,?_⟩
    replace J6 := Za.mk (Zw (g := Xm) (o := .cells #[.int .i64 Z5,.string Jb,.string Jc,.bool Jt,.slice Vw Jd.length Vu,.string Jn,.string Jm,.slice Xf Zy.length Vv] 29 (0,0)) J5 hb)
    replace HB := Za.mk (Zm Vh hb)
    (try clear hb)
    (try clear hb2)
    (try clear hk)
    (try clear hi)
    refine hK.out _ _ ⟨(Zd J6.out 0).trans rfl,(Zd J6.out 1).trans rfl,(Zd J6.out 2).trans rfl,(Zd J6.out 3).trans rfl,(Zd J6.out 4).trans rfl,(Zd J6.out 5).trans rfl,(Zd J6.out 6).trans rfl,(Zd J6.out 7).trans rfl⟩ (fun hHeld => ?_)
    clear hK K
    refine Qr (a' := ?_) ?_ ?_
    rotate_left
    ·show Act.put _ (some 26) _ = _
     simp only [Act.put,List.setIfInBounds_toArray,List.set_cons_zero,List.set_cons_succ,Jo,Jq]
     rfl
    refine F3 (i := 6) (N := some 27) #[true,true,true,true,true,true,true,true,true,false,false] rfl rfl (Qn HT_.out (by kernel_rfl)) (by decide) (fun K hK => ?_)
    refine Kd.fe Kd.string _ 9 ?hg (N := 27) ?hd (xs := ([(⟨#[99]⟩ : ByteArray),Jb,Zrg] : List ByteArray)) (inner := [.string (⟨#[99]⟩ : ByteArray),.string Jb,.string Zrg]) (ok := fun _ => True) (okp := fun _ => True) ?hr ?hp (fun _ hk => hk) trivial (Below.refl _ _) (Nat.le_refl _) (by simp) ?_;(case hd => rfl);(case hg => rfl);(case hr => exact Q0);(case hp => exact (Vy.one (show Kd.M Kd.string _ _ _ (⟨#[99]⟩ : ByteArray) [.string (⟨#[99]⟩ : ByteArray)] from rfl) (Vy.one (show Kd.M Kd.string _ _ _ Jb [.string Jb] from rfl) (Vy.one (show Kd.M Kd.string _ _ _ Zrg [.string Zrg] from rfl) (Vy.none _ _)))))
    intro Vcr w19 Jfg hb hg_ hnew_
    clear hg_ hnew_
    (first | rw [← Jma.out] at Jfg | (simp only [Int.reduceToNat] at Jfg;rw [← Jma.out] at Jfg))
    have Jfh := Za.mk (Kd.Pg Jfg (Jh Vh))
    replace J6 := Za.mk (Zw (g := Xm) (o := .cells #[.int .i64 Z5,.string Jb,.string Jc,.bool Jt,.slice Vw Jd.length Vu,.string Jn,.string Jm,.slice Xf Zy.length Vv] 29 (0,0)) J5 hb)
    replace HB := Za.mk (Zm Vh hb)
    clear hb Jfg
    refine hK.out _ _ ⟨(Zd J6.out 0).trans rfl,(Zd J6.out 1).trans rfl,(Zd J6.out 2).trans rfl,(Zd J6.out 3).trans rfl,(Zd J6.out 4).trans rfl,(Zd J6.out 5).trans rfl,(Zd J6.out 6).trans rfl,(Zd J6.out 7).trans rfl⟩ (fun hHeld => ?_)
    clear hK K
    refine Qr (a' := ?_) ?_ ?_
    rotate_left
    ·show Act.put _ (some 27) _ = _
     simp only [Act.put,List.setIfInBounds_toArray,List.set_cons_zero,List.set_cons_succ,Jo,Jq]
     rfl
    refine F3 (i := 9) (N := some 30) #[true,true,true,true,true,true,true,true,true,true,false] rfl rfl (Qn HT_.out (by kernel_rfl)) (by decide) (fun K hK => ?_)
    refine Kd.zy Kd.string (w0 := w) w.heap.size (by rfl) (.tmp 27) (.tmp 29) 26 9 (.string ⟨#[]⟩) 16 rfl Tryz.underlying26 Jd4 rfl (by decide) (by omega) Vcr Zim Jd _ _ _ (fun _ => True) (fun _ => False) rfl rfl ?aO ?aR (fun _ _ h => h) (fun _ h => h.elim) ?aF ?aB ?aS ?aL ?_
    (case aR => repeat (first | exact (Kd.Vl Zl1.out HB.out) | (with_reducible refine Kd.Vf ?_ _) | (with_reducible refine Kd.Vg ?_ _) | (with_reducible refine Kd.Vs ?_)))
    (case aB => exact Vh)
    (case aF => exact (fun _ _ => trivial))
    (case aO => exact (by (with_reducible repeat (first | apply Kd.Yv | apply Kd.Yw | apply Kd.Xl));exact Jfh.out))
    (case aS => exact (Jh Vh))
    (case aL => have := Juw.out;omega)
    intro Vjx w21 ho hb hg hat
    rw [← Jux.out] at ho
    replace J6 := Za.mk (Us (g := Xm) (o := .cells #[.int .i64 Z5,.string Jb,.string Jc,.bool Jt,.slice Vw Jd.length Vu,.string Jn,.string Jm,.slice Xf Zy.length Vv] 29 (0,0)) J5 hg (Kd.Zpt Jfh.out J6.out (by decide)))
    replace HB := Za.mk (hb)
    have Juy := Za.mk (ho)
    clear Jfh ho hb hg hat
    refine hK.out _ _ ⟨(Zd J6.out 0).trans rfl,(Zd J6.out 1).trans rfl,(Zd J6.out 2).trans rfl,(Zd J6.out 3).trans rfl,(Zd J6.out 4).trans rfl,(Zd J6.out 5).trans rfl,(Zd J6.out 6).trans rfl,(Zd J6.out 7).trans rfl⟩ (fun hHeld => ?_)
    clear hK K
    refine Qr (a' := ?_) ?_ ?_
    rotate_left
    ·show Act.put _ (some 30) _ = _
     simp only [Act.put,List.setIfInBounds_toArray,List.set_cons_zero,List.set_cons_succ,Jo,Jq]
     rfl
    refine V3 (i := 10) (N := some 2) (v := ?_) (a' := ?_) #[true,true,true,true,true,true,true,true,true,true,true] rfl rfl (Vk HT_.out (by kernel_rfl)) (fun _ _ _ h => h) (Or.inl ⟨(by rfl),?_⟩) ?_ ?_
    rotate_left
    ·intro w'
     go_simp
     with_reducible rfl
    rotate_left
    ·simp only [Act.put,List.setIfInBounds_toArray,List.set_cons_zero,List.set_cons_succ,Jo,Jq]
     rfl
    refine j5 (Sw HT_.out (by kernel_rfl)) ?_
    try go_wp2
    go_ret
    exact ⟨_,Xu,(by (with_reducible repeat (first | apply Kd.Yv | apply Kd.Yw | apply Kd.Xl));exact Juy.out),Vh⟩
   ·rw [if_neg c14] at H
    exact absurd H (by simp)
  ·rw [if_neg c12] at H
   have Zg2 : (Z5 == 1) = false := beq_eq_false_iff_ne.mpr c12
   have Zlw : (Z5 != 1) = true := bne_iff_ne.mpr c12
   replace H := Option.bind_eq_some_iff.mp H
   obtain ⟨Zrh,Juz,H⟩ := H
   replace H : (Z9.l0 k (([(⟨#[113]⟩ : ByteArray),Jn,Jm,Zrh] : List ByteArray)) Zy (Zy.length : Int) 0) = some r := H
   have A22 := Za.mk Juz
   clear Juz
   obtain ⟨Ju0,Z09⟩ : ∃ y_ : List ByteArray,y_ = (([(⟨#[113]⟩ : ByteArray),Jn,Jm,Zrh] : List ByteArray)) := ⟨_,rfl⟩
   replace H : (Z9.l0 k Ju0 Zy (Zy.length : Int) 0) = some r := by first | (rw [Z09];with_reducible exact H) | (have jg := (Option.bind_some _ _).symm.trans H;rw [Z09];with_reducible exact jg) | (have jg := (Option.bind_some _ _).symm.trans H;with_reducible exact jg) | with_reducible exact H | (rw [Z09];exact H) | exact H
   have Jmb := Za.mk Z09
   clear Z09
   have H' := Za.mk H
   clear H
   go_enter Tryz.func21,Tryz.ntmps21
   try go_wp2_with (first | ((with_reducible refine Jg (N := 1) rfl ?_);refine Je ?hg (N := 1) ?hd (cs := #[.int .i64 Z5,.string Jb,.string Jc,.bool Jt,.slice Vw Jd.length Vu,.string Jn,.string Jm,.slice Xf Zy.length Vv]) (t := 29) ?hr ?_;(case hd => rfl);(case hg => rfl);(case hr => exact Q0);intro Xm hg w23 hbox hb;have J6 := Za.mk (hbox);have Jfe := Za.mk ((Qg : w.heap.size ≤ Xm));have Z04 := Za.mk ((Qg : w.heap.size ≤ Xm));replace HB := Za.mk (Zm Vz hb);clear hb hbox hg;obtain ⟨Wq,Ws,Wt,Ri,Rj,Rk,Rl,Rm,Wu,Wv,Ww,Rn,Ro,Rp,Rq,Rs⟩ := Jf J6.out))
   replace J6 := Za.mk (Zf J6.out)
   replace HB := Za.mk (Zz HB.out)
   refine Hd (n := 10) (S := fun w' => w'.cell? ⟨Xm,0,none⟩ = some (.int .i64 Z5) ∧ w'.cell? ⟨Xm,1,none⟩ = some (.string Jb) ∧ w'.cell? ⟨Xm,2,none⟩ = some (.string Jc) ∧ w'.cell? ⟨Xm,3,none⟩ = some (.bool Jt) ∧ w'.cell? ⟨Xm,4,none⟩ = some (.slice Vw Jd.length Vu) ∧ w'.cell? ⟨Xm,5,none⟩ = some (.string Jn) ∧ w'.cell? ⟨Xm,6,none⟩ = some (.string Jm) ∧ w'.cell? ⟨Xm,7,none⟩ = some (.slice Xf Zy.length Vv)) (ds := []) #[false,false,false,false,false,false,false,false,false,false] (by kernel_rfl) rfl rfl ⟨(Zd J6.out 0).trans rfl,(Zd J6.out 1).trans rfl,(Zd J6.out 2).trans rfl,(Zd J6.out 3).trans rfl,(Zd J6.out 4).trans rfl,(Zd J6.out 5).trans rfl,(Zd J6.out 6).trans rfl,(Zd J6.out 7).trans rfl⟩ (fun hHeld => ?_);refine Dr Z9.Vcm Z9.Jus (fun HT_ HW_ => ?_)
   generalize w23.drew = w25 at J6 HB hHeld ⊢
   refine V3 (i := 0) (N := some 31) (v := ?_) (a' := ?_) #[true,false,false,false,false,false,false,false,false,false] rfl rfl (Vk HT_.out (by kernel_rfl)) (fun _ _ _ h => h) (Or.inl ⟨(by rfl),?_⟩) ?_ ?_
   rotate_left
   ·intro w'
    go_simp
    with_reducible rfl
   rotate_left
   ·simp only [Act.put,List.setIfInBounds_toArray,List.set_cons_zero,List.set_cons_succ,Jo,Jq]
    rfl
   refine V3 (i := 2) (N := some 33) (v := ?_) (a' := ?_) #[true,false,true,false,false,false,false,false,false,false] rfl rfl (Vk HT_.out (by kernel_rfl)) (fun _ _ _ h => h) (Or.inl ⟨(by rfl),?_⟩) ?_ ?_
   rotate_left
   ·intro w'
    go_simp
    with_reducible rfl
   rotate_left
   ·simp only [Act.put,List.setIfInBounds_toArray,List.set_cons_zero,List.set_cons_succ,Jo,Jq]
    rfl
   refine V3 (i := 4) (N := some 35) (v := ?_) (a' := ?_) #[true,false,true,false,true,false,false,false,false,false] rfl rfl (Vk HT_.out (by kernel_rfl)) (fun _ _ _ h => h) (Or.inl ⟨(by rfl),?_⟩) ?_ ?_
   rotate_left
   ·intro w'
    go_simp
    with_reducible rfl
   rotate_left
   ·simp only [Act.put,List.setIfInBounds_toArray,List.set_cons_zero,List.set_cons_succ,Jo,Jq]
    rfl
   refine Qx (i := 1) (N := some 32) (v := ?_) (a' := ?_) #[true,true,true,false,true,false,false,false,false,false] rfl rfl (Xj HT_.out HW_.out (by kernel_rfl)) (fun _ _ _ h => h) (Or.inl ⟨(by rfl),?_⟩) hHeld ?_ ?_
   rotate_left
   ·rintro w' ⟨s0,s1,s2,s3,s4,s5,s6,s7⟩
    go_simp
    with_reducible rfl
   rotate_left
   ·simp only [Act.put,List.setIfInBounds_toArray,List.set_cons_zero,List.set_cons_succ,Jo,Jq]
    rfl
   refine Qx (i := 3) (N := some 34) (v := ?_) (a' := ?_) #[true,true,true,true,true,false,false,false,false,false] rfl rfl (Xj HT_.out HW_.out (by kernel_rfl)) (fun _ _ _ h => h) (Or.inl ⟨(by rfl),?_⟩) hHeld ?_ ?_
   rotate_left
   ·rintro w' ⟨s0,s1,s2,s3,s4,s5,s6,s7⟩
    go_simp
    with_reducible rfl
   rotate_left
   ·simp only [Act.put,List.setIfInBounds_toArray,List.set_cons_zero,List.set_cons_succ,Jo,Jq]
    rfl
   refine Qx (i := 5) (N := some 36) (v := ?_) (a' := ?_) #[true,true,true,true,true,true,false,false,false,false] rfl rfl (Xj HT_.out HW_.out (by kernel_rfl)) (fun _ _ _ h => h) (Or.inl ⟨(by rfl),?_⟩) hHeld ?_ ?_
   rotate_left
   ·rintro w' ⟨s0,s1,s2,s3,s4,s5,s6,s7⟩
    go_simp
    with_reducible rfl
   rotate_left
   ·simp only [Act.put,List.setIfInBounds_toArray,List.set_cons_zero,List.set_cons_succ,Jo,Jq]
    rfl
   refine V3 (i := 6) (N := some 37) (v := ?_) (a' := ?_) #[true,true,true,true,true,true,true,false,false,false] rfl rfl (Vk HT_.out (by kernel_rfl)) (fun _ _ _ h => h) (Or.inl ⟨(by rfl),?_⟩) ?_ ?_
   rotate_left
   ·intro w'
    go_simp
    with_reducible rfl
   rotate_left
   ·simp only [Act.put,List.setIfInBounds_toArray,List.set_cons_zero,List.set_cons_succ,Jo,Jq]
    rfl
   refine F3 (i := 7) (N := some 38) #[true,true,true,true,true,true,true,true,false,false] rfl rfl (Qn HT_.out (by kernel_rfl)) (by decide) (fun K hK => ?_)
   refine Uk Tryz.func20 (by kernel_rfl) rfl #[.int .i64 (Zy.length : Int)] (by rfl) rfl rfl Wp ?_
   with_reducible refine (strconv_Itoa.calls (Zy.length : Int) Zrh _ A22.out).mono ?_
   rintro e w26 ⟨rfl,hb⟩
   refine ⟨_,rfl,?_⟩
   replace J6 := Za.mk (Zw (g := Xm) (o := .cells #[.int .i64 Z5,.string Jb,.string Jc,.bool Jt,.slice Vw Jd.length Vu,.string Jn,.string Jm,.slice Xf Zy.length Vv] 29 (0,0)) J5 hb)
   replace HB := Za.mk (Zm Vh hb)
   (try clear hb)
   (try clear hb2)
   (try clear hk)
   (try clear hi)
   refine hK.out _ _ ⟨(Zd J6.out 0).trans rfl,(Zd J6.out 1).trans rfl,(Zd J6.out 2).trans rfl,(Zd J6.out 3).trans rfl,(Zd J6.out 4).trans rfl,(Zd J6.out 5).trans rfl,(Zd J6.out 6).trans rfl,(Zd J6.out 7).trans rfl⟩ (fun hHeld => ?_)
   clear hK K
   refine Qr (a' := ?_) ?_ ?_
   rotate_left
   ·show Act.put _ (some 38) _ = _
    simp only [Act.put,List.setIfInBounds_toArray,List.set_cons_zero,List.set_cons_succ,Jo,Jq]
    rfl
   refine F3 (i := 8) (N := some 39) #[true,true,true,true,true,true,true,true,true,false] rfl rfl (Qn HT_.out (by kernel_rfl)) (by decide) (fun K hK => ?_)
   refine Kd.fe Kd.string _ 9 ?hg (N := 39) ?hd (xs := ([(⟨#[113]⟩ : ByteArray),Jn,Jm,Zrh] : List ByteArray)) (inner := [.string (⟨#[113]⟩ : ByteArray),.string Jn,.string Jm,.string Zrh]) (ok := fun _ => True) (okp := fun _ => True) ?hr ?hp (fun _ hk => hk) trivial (Below.refl _ _) (Nat.le_refl _) (by simp) ?_;(case hd => rfl);(case hg => rfl);(case hr => exact Q0);(case hp => exact (Vy.one (show Kd.M Kd.string _ _ _ (⟨#[113]⟩ : ByteArray) [.string (⟨#[113]⟩ : ByteArray)] from rfl) (Vy.one (show Kd.M Kd.string _ _ _ Jn [.string Jn] from rfl) (Vy.one (show Kd.M Kd.string _ _ _ Jm [.string Jm] from rfl) (Vy.one (show Kd.M Kd.string _ _ _ Zrh [.string Zrh] from rfl) (Vy.none _ _))))))
   intro Vjz w27 Jfi hb hg_ hnew_
   clear hg_ hnew_
   (first | rw [← Jmb.out] at Jfi | (simp only [Int.reduceToNat] at Jfi;rw [← Jmb.out] at Jfi))
   have Ju1 := Za.mk (Kd.Pg Jfi (Jh Vh))
   replace J6 := Za.mk (Zw (g := Xm) (o := .cells #[.int .i64 Z5,.string Jb,.string Jc,.bool Jt,.slice Vw Jd.length Vu,.string Jn,.string Jm,.slice Xf Zy.length Vv] 29 (0,0)) J5 hb)
   replace HB := Za.mk (Zm Vh hb)
   clear hb Jfi
   refine hK.out _ _ ⟨(Zd J6.out 0).trans rfl,(Zd J6.out 1).trans rfl,(Zd J6.out 2).trans rfl,(Zd J6.out 3).trans rfl,(Zd J6.out 4).trans rfl,(Zd J6.out 5).trans rfl,(Zd J6.out 6).trans rfl,(Zd J6.out 7).trans rfl⟩ (fun hHeld => ?_)
   clear hK K
   refine Qr (a' := ?_) ?_ ?_
   rotate_left
   ·show Act.put _ (some 39) _ = _
    simp only [Act.put,List.setIfInBounds_toArray,List.set_cons_zero,List.set_cons_succ,Jo,Jq]
    rfl
   refine V3 (i := 9) (N := some 4) (v := ?_) (a' := ?_) #[true,true,true,true,true,true,true,true,true,true] rfl rfl (Vk HT_.out (by kernel_rfl)) (fun _ _ _ h => h) (Or.inl ⟨(by rfl),?_⟩) ?_ ?_
   rotate_left
   ·intro w'
    go_simp
    with_reducible rfl
   rotate_left
   ·simp only [Act.put,List.setIfInBounds_toArray,List.set_cons_zero,List.set_cons_succ,Jo,Jq]
    rfl
   refine j5 (Sw HT_.out (by kernel_rfl)) ?_
   obtain ⟨Mh,Mi,Mj,Mk,Ml,Mm,Mo,Mq,Mr,Ms,Mt,Mv,Mw,Mx,M0,M3⟩ := Jf J6.out
   try go_wp2
   go_loopg [4,43] k (fun kq v4 v43 w' => ∃ (Yj : List ByteArray) (Vo : Int),v43 = .int .i64 Vo ∧ Za (Z9.l0 kq Yj Zy (Zy.length : Int) Vo = some r) ∧ Za (kq ≤ k) ∧ Za (Kd.R Kd.string 9 w' w.heap.size (fun _ => True) v4 Yj) ∧ Za (w'.heap[Xm]? = some (.cells #[.int .i64 Z5,.string Jb,.string Jc,.bool Jt,(.slice Vw Jd.length Vu),.string Jn,.string Jm,(.slice Xf Zy.length Vv)] 29 (0,0))) ∧ Za (Below w.heap.size w w'))
   case atStart => exact ⟨(Ju0),(0),(by first | rfl | (simp;done) | (simp [*];done)),H',⟨Nat.le_refl _⟩,⟨(by (with_reducible repeat (first | apply Kd.Yv | apply Kd.Yw | apply Kd.Xl));exact Ju1.out)⟩,⟨J5⟩,⟨Vh⟩⟩
   case round =>
    clear H'
    try clear c1
    try clear c2
    try clear wm
    try clear Zfp
    try clear p2
    try clear c3
    try clear c12
    try clear Zg2
    try clear Zlw
    try clear c14
    try clear c20
    try clear c21
    try clear Rt Ru Rv Zhg Zhh Zhi Zhj Zhk
    try clear Wq Ws Wt Ri Rj Rk Rl Rm
    try clear Mh Mi Mj Mk Ml Mm Mo Mq
    try clear Zri Zrj Zrk Zrl Zrm Zrn Zro Zrp
    try clear Z2x Z2y Z2z Z20 Z21 Z22 Z23 Z24
    try clear Rw Rx Ry Zhl Zhm Zhn Zho Zhp
    try clear Wu Wv Ww Rn Ro Rp Rq Rs
    try clear Mr Ms Mt Mv Mw Mx M0 M3
    try clear Zrq Zrr Zrs Zrt Zru Zrv Zrw Zrx
    try clear Z25 Z26 Z27 Z28 Z29 Z3a Z3b Z3c
    obtain ⟨Yj,Vo,rfl,HA,HK1,Zk1,J6,HB⟩ := hrel
    cases gk with
    | zero => exact absurd HA.out (by simp [Z9.l0])
    | succ k1 =>
     have H := HA.out
     clear HA
     simp only [Z9.l0] at H
     by_cases c30 : Vo < (Zy.length : Int)
     ·rw [if_pos c30] at H
      have Ju2 : decide (Vo < (Zy.length : Int)) = true := decide_eq_true c30
      clear c30
      by_cases c31 : 0 ≤ Vo
      ·rw [if_pos c31] at H
       have Jlt : decide (0 ≤ Vo) = true := decide_eq_true c31
       clear c31
       by_cases c32 : Vo < (Zy.length : Int)
       ·rw [if_pos c32] at H
        have Zry : decide (Vo < (Zy.length : Int)) = true := decide_eq_true c32
        clear c32
        by_cases c33 : 0 ≤ ((Z6 Zy Vo).f1)
        ·rw [if_pos c33] at H
         have Za3 : decide (0 ≤ ((Z6 Zy Vo).f1)) = true := decide_eq_true c33
         clear c33
         by_cases c34 : ((Z6 Zy Vo).f1) < 3
         ·rw [if_pos c34] at H
          have Zgs : decide (((Z6 Zy Vo).f1) < 3) = true := decide_eq_true c34
          clear c34
          obtain ⟨Zwt,Z1a⟩ : ∃ y_ : List ByteArray,y_ = (([(Z6 Zy Vo).f0,Utf8.encode (bt (⟨#[116,110,109]⟩ : ByteArray) ((Z6 Zy Vo).f1)),(Z6 Zy Vo).f2] : List ByteArray)) := ⟨_,rfl⟩
          replace H : (if Yj.length + Zwt.length < 8796093022208 then (Z9.l0 k1 (Yj ++ Zwt) Zy (Zy.length : Int) (wrap64 (Vo + 1))) else (none)) = some r := by first | (rw [Z1a];with_reducible exact H) | (have jg := (Option.bind_some _ _).symm.trans H;rw [Z1a];with_reducible exact jg) | (have jg := (Option.bind_some _ _).symm.trans H;with_reducible exact jg) | with_reducible exact H | (rw [Z1a];exact H) | exact H
          have Jmc := Za.mk Z1a
          clear Z1a
          by_cases c36 : Yj.length + Zwt.length < 8796093022208
          ·rw [if_pos c36] at H
           have Ju3 := Za.mk c36
           clear c36
           obtain ⟨Ju4,Z1b⟩ : ∃ y_ : List ByteArray,y_ = (Yj ++ Zwt) := ⟨_,rfl⟩
           replace H : (Z9.l0 k1 Ju4 Zy (Zy.length : Int) (wrap64 (Vo + 1))) = some r := by first | (rw [Z1b];with_reducible exact H) | (have jg := (Option.bind_some _ _).symm.trans H;rw [Z1b];with_reducible exact jg) | (have jg := (Option.bind_some _ _).symm.trans H;with_reducible exact jg) | with_reducible exact H | (rw [Z1b];exact H) | exact H
           have Ju5 := Za.mk Z1b
           clear Z1b
           have H' := Za.mk H
           clear H
           have Jpg : 0 ≤ (Vo : Int) := of_decide_eq_true Dx
           have Jph : Vo < (Zy.length : Int) := of_decide_eq_true Dx
           obtain ⟨Zt0,Vcs,Zwu,Zwv,Zww⟩ := ja Za5.out Vo Jpg Jph
           cases Vcs
           replace Zwu := (HB.out.cell (World.block_lt_of_cell? w _ Zwu)).trans Zwu
           replace Zwv := (HB.out.cell (World.block_lt_of_cell? w _ Zwv)).trans Zwv
           replace Zww := (HB.out.cell (World.block_lt_of_cell? w _ Zww)).trans Zww
           replace Jpg := eq_true Jpg
           replace Jph := eq_true Jph
           try go_wp2_with (first | ((with_reducible refine Jg (N := 6) rfl ?_);refine Je ?hg (N := 6) ?hd (cs := #[.string (⟨#[]⟩ : ByteArray),.int .i64 0,.string (⟨#[]⟩ : ByteArray)]) (t := 44) ?hr ?_;(case hd => rfl);(case hg => rfl);(case hr => exact Q0);intro Kt hg w37 hbox hb;replace Zk1 := Za.mk (Kd.Qq Qw hb);have Gu := Za.mk (hbox);have Vgj := Za.mk (((by rw [hg];exact (Jh Vh)) : w.heap.size ≤ Kt));have Juq := Za.mk (((by rw [hg];exact (Jh Vh)) : w.heap.size ≤ Kt));replace HB := Za.mk (Zm Vh hb);have Zdh := Za.mk (((by rw [hg];exact Nat.ne_of_lt (Y3 (g := Xm) (o := .cells #[.int .i64 Z5,.string Jb,.string Jc,.bool Jt,.slice Vw Jd.length Vu,.string Jn,.string Jm,.slice (some Zt0) Zy.length Vv] 29 (0,0)) J5)) : Xm ≠ Kt));have Jb2 := Za.mk (((by rw [hg];exact Nat.ne_of_gt (Y3 (g := Xm) (o := .cells #[.int .i64 Z5,.string Jb,.string Jc,.bool Jt,.slice Vw Jd.length Vu,.string Jn,.string Jm,.slice (some Zt0) Zy.length Vv] 29 (0,0)) J5)) : Kt ≠ Xm));replace J6 := Za.mk (Zw (g := Xm) (o := .cells #[.int .i64 Z5,.string Jb,.string Jc,.bool Jt,.slice Vw Jd.length Vu,.string Jn,.string Jm,.slice (some Zt0) Zy.length Vv] 29 (0,0)) J5 hb);clear hb hbox hg;have Ju6 := Jb2.out;have Ju7 := Zdh.out;obtain ⟨ll,lm,lq,lu,lv,lw⟩ := Va Gu.out))
           have Gt : Za (Kd.R Kd.string 9 (((w37.setCell ⟨Kt,0,none⟩ (.string ((Z6 Zy Vo).f0))).setCell ⟨Kt,1,none⟩ (.int .i64 ((Z6 Zy Vo).f1))).setCell ⟨Kt,2,none⟩ (.string ((Z6 Zy Vo).f2))) w.heap.size (fun _ => True) u4 Yj) := ⟨(by (with_reducible repeat (first | apply Kd.Yv | apply Kd.Yw | apply Kd.Xl));exact Kd.Xc (Kd.Xw (p := ⟨Kt,2,none⟩) (Kd.Xw (p := ⟨Kt,1,none⟩) (Kd.Xw (p := ⟨Kt,0,none⟩) (Kd.jy Zk1.out Gu.out (by decide)) (fun _ hk => hk.2) (.string ((Z6 Zy Vo).f0))) (fun _ hk => hk.2) (.int .i64 ((Z6 Zy Vo).f1))) (fun _ hk => hk.2) (.string ((Z6 Zy Vo).f2))) (fun _ hk => trivial))⟩
           have Hy : Za ((((w37.setCell ⟨Kt,0,none⟩ (.string ((Z6 Zy Vo).f0))).setCell ⟨Kt,1,none⟩ (.int .i64 ((Z6 Zy Vo).f1))).setCell ⟨Kt,2,none⟩ (.string ((Z6 Zy Vo).f2))).heap[Xm]? = some (.cells #[.int .i64 Z5,.string Jb,.string Jc,.bool Jt,.slice Vw Jd.length Vu,.string Jn,.string Jm,.slice (some Zt0) Zy.length Vv] 29 (0,0))) := ⟨(by (with_reducible repeat (first | refine Zc ?_ _ | refine Zf ?_ | refine Zb ?_ _));refine Jl ?_ Zdh.out _;(with_reducible repeat (first | refine Zc ?_ _ | refine Zf ?_ | refine Zb ?_ _));refine Jl ?_ Zdh.out _;(with_reducible repeat (first | refine Zc ?_ _ | refine Zf ?_ | refine Zb ?_ _));refine Jl ?_ Zdh.out _;(with_reducible repeat (first | refine Zc ?_ _ | refine Zf ?_ | refine Zb ?_ _));exact J6.out)⟩
           have n2_ : Za ((((w37.setCell ⟨Kt,0,none⟩ (.string ((Z6 Zy Vo).f0))).setCell ⟨Kt,1,none⟩ (.int .i64 ((Z6 Zy Vo).f1))).setCell ⟨Kt,2,none⟩ (.string ((Z6 Zy Vo).f2))).heap[Kt]? = some (.cells #[.string ((Z6 Zy Vo).f0),.int .i64 ((Z6 Zy Vo).f1),.string ((Z6 Zy Vo).f2)] 44 (0,0))) := ⟨(by (with_reducible repeat (first | refine Zc ?_ _ | refine Zf ?_ | refine Zb ?_ _));refine Zo (cs := #[.string ((Z6 Zy Vo).f0),.int .i64 ((Z6 Zy Vo).f1),.string (⟨#[]⟩ : ByteArray)]) ?_ 2 _ rfl;(with_reducible repeat (first | refine Zc ?_ _ | refine Zf ?_ | refine Zb ?_ _));refine Zo (cs := #[.string ((Z6 Zy Vo).f0),.int .i64 0,.string (⟨#[]⟩ : ByteArray)]) ?_ 1 _ rfl;(with_reducible repeat (first | refine Zc ?_ _ | refine Zf ?_ | refine Zb ?_ _));refine Zo (cs := #[.string (⟨#[]⟩ : ByteArray),.int .i64 0,.string (⟨#[]⟩ : ByteArray)]) ?_ 0 _ rfl;(with_reducible repeat (first | refine Zc ?_ _ | refine Zf ?_ | refine Zb ?_ _));exact Gu.out)⟩
           have n3_ : Za (Below w.heap.size w (((w37.setCell ⟨Kt,0,none⟩ (.string ((Z6 Zy Vo).f0))).setCell ⟨Kt,1,none⟩ (.int .i64 ((Z6 Zy Vo).f1))).setCell ⟨Kt,2,none⟩ (.string ((Z6 Zy Vo).f2)))) := ⟨Yb⟩
           (try clear Zk1)
           (try clear J6)
           (try clear Gu)
           (try clear HB)
           generalize (((w37.setCell ⟨Kt,0,none⟩ (.string ((Z6 Zy Vo).f0))).setCell ⟨Kt,1,none⟩ (.int .i64 ((Z6 Zy Vo).f1))).setCell ⟨Kt,2,none⟩ (.string ((Z6 Zy Vo).f2))) = w40 at Gt Hy n2_ n3_ ⊢
           have Zk1 := Gt
           have J6 := Hy
           have Gu := n2_
           have HB := n3_
           clear Gt Hy n2_ n3_
           replace Zk1 := Za.mk (Kd.Xl Zk1.out)
           replace J6 := Za.mk (Zf J6.out)
           replace Gu := Za.mk (Zf Gu.out)
           replace HB := Za.mk (Zz HB.out)
           have p35 : 0 ≤ (((Z6 Zy Vo).f1) : Int) := of_decide_eq_true Dx
           have q35 : ((Z6 Zy Vo).f1) < (3 : Int) := of_decide_eq_true Dx
           have Vj0 := Fz (⟨#[116,110,109]⟩ : ByteArray) ((Z6 Zy Vo).f1)
           replace p35 := eq_true p35
           replace q35 := eq_true q35
           refine Hd (n := 12) (S := fun w' => w'.cell? ⟨Kt,0,none⟩ = some (.string ((Z6 Zy Vo).f0)) ∧ w'.cell? ⟨Kt,1,none⟩ = some (.int .i64 ((Z6 Zy Vo).f1)) ∧ w'.cell? ⟨Kt,2,none⟩ = some (.string ((Z6 Zy Vo).f2))) (ds := []) #[false,false,false,false,false,false,false,false,false,false,false,false] (by kernel_rfl) rfl rfl ⟨(Zd Gu.out 0).trans rfl,(Zd Gu.out 1).trans rfl,(Zd Gu.out 2).trans rfl⟩ (fun hHeld => ?_);refine Dr Z9.Jfd Z9.Z32 (fun HT_ HW_ => ?_)
           generalize w40.drew = w41 at Zk1 J6 Gu HB hHeld ⊢
           refine V3 (i := 0) (N := some 47) (v := ?_) (a' := ?_) #[true,false,false,false,false,false,false,false,false,false,false,false] rfl rfl (Vk HT_.out (by kernel_rfl)) (fun _ _ _ h => h) (Or.inl ⟨(by rfl),?_⟩) ?_ ?_
           rotate_left
           ·intro w'
            go_simp
            with_reducible rfl
           rotate_left
           ·simp only [Act.put,List.setIfInBounds_toArray,List.set_cons_zero,List.set_cons_succ,Jo,Jq]
            rfl
           refine V3 (i := 1) (N := some 48) (v := ?_) (a' := ?_) #[true,true,false,false,false,false,false,false,false,false,false,false] rfl rfl (Vk HT_.out (by kernel_rfl)) (fun _ _ _ h => h) (Or.inl ⟨(by rfl),?_⟩) ?_ ?_
           rotate_left
           ·intro w'
            go_simp
            with_reducible rfl
           rotate_left
           ·simp only [Act.put,List.setIfInBounds_toArray,List.set_cons_zero,List.set_cons_succ,Jo,Jq]
            rfl
           refine V3 (i := 3) (N := some 50) (v := ?_) (a' := ?_) #[true,true,false,true,false,false,false,false,false,false,false,false] rfl rfl (Vk HT_.out (by kernel_rfl)) (fun _ _ _ h => h) (Or.inl ⟨(by rfl),?_⟩) ?_ ?_
           rotate_left
           ·intro w'
            go_simp
            with_reducible rfl
           rotate_left
           ·simp only [Act.put,List.setIfInBounds_toArray,List.set_cons_zero,List.set_cons_succ,Jo,Jq]
            rfl
           refine V3 (i := 7) (N := some 54) (v := ?_) (a' := ?_) #[true,true,false,true,false,false,false,true,false,false,false,false] rfl rfl (Vk HT_.out (by kernel_rfl)) (fun _ _ _ h => h) (Or.inl ⟨(by rfl),?_⟩) ?_ ?_
           rotate_left
           ·intro w'
            go_simp
            with_reducible rfl
           rotate_left
           ·simp only [Act.put,List.setIfInBounds_toArray,List.set_cons_zero,List.set_cons_succ,Jo,Jq]
            rfl
           refine Qx (i := 2) (N := some 49) (v := ?_) (a' := ?_) #[true,true,true,true,false,false,false,true,false,false,false,false] rfl rfl (Xj HT_.out HW_.out (by kernel_rfl)) (fun _ _ _ h => h) (Or.inl ⟨(by rfl),?_⟩) hHeld ?_ ?_
           rotate_left
           ·rintro w' ⟨s0,s1,s2⟩
            go_simp
            with_reducible rfl
           rotate_left
           ·simp only [Act.put,List.setIfInBounds_toArray,List.set_cons_zero,List.set_cons_succ,Jo,Jq]
            rfl
           refine Qx (i := 4) (N := some 51) (v := ?_) (a' := ?_) #[true,true,true,true,true,false,false,true,false,false,false,false] rfl rfl (Xj HT_.out HW_.out (by kernel_rfl)) (fun _ _ _ h => h) (Or.inl ⟨(by rfl),?_⟩) hHeld ?_ ?_
           rotate_left
           ·rintro w' ⟨s0,s1,s2⟩
            go_simp
            with_reducible rfl
           rotate_left
           ·simp only [Act.put,List.setIfInBounds_toArray,List.set_cons_zero,List.set_cons_succ,Jo,Jq]
            rfl
           refine Qx (i := 5) (N := some 52) (v := ?_) (a' := ?_) #[true,true,true,true,true,true,false,true,false,false,false,false] rfl rfl (Xj HT_.out HW_.out (by kernel_rfl)) (fun _ _ _ h => h) (Or.inl ⟨(by rfl),?_⟩) hHeld ?_ ?_
           rotate_left
           ·rintro w' ⟨s0,s1,s2⟩
            go_simp
            with_reducible rfl
           rotate_left
           ·simp only [Act.put,List.setIfInBounds_toArray,List.set_cons_zero,List.set_cons_succ,Jo,Jq]
            rfl
           refine V3 (i := 6) (N := some 53) (v := ?_) (a' := ?_) #[true,true,true,true,true,true,true,true,false,false,false,false] rfl rfl (Vk HT_.out (by kernel_rfl)) (fun _ _ _ h => h) (Or.inl ⟨(by rfl),?_⟩) ?_ ?_
           rotate_left
           ·intro w'
            go_simp
            with_reducible rfl
           rotate_left
           ·simp only [Act.put,List.setIfInBounds_toArray,List.set_cons_zero,List.set_cons_succ,Jo,Jq]
            rfl
           refine Qx (i := 8) (N := some 55) (v := ?_) (a' := ?_) #[true,true,true,true,true,true,true,true,true,false,false,false] rfl rfl (Xj HT_.out HW_.out (by kernel_rfl)) (fun _ _ _ h => h) (Or.inl ⟨(by rfl),?_⟩) hHeld ?_ ?_
           rotate_left
           ·rintro w' ⟨s0,s1,s2⟩
            go_simp
            with_reducible rfl
           rotate_left
           ·simp only [Act.put,List.setIfInBounds_toArray,List.set_cons_zero,List.set_cons_succ,Jo,Jq]
            rfl
           refine F3 (i := 9) (N := some 56) #[true,true,true,true,true,true,true,true,true,true,false,false] rfl rfl (Qn HT_.out (by kernel_rfl)) (by decide) (fun K hK => ?_)
           refine Kd.fe Kd.string _ 9 ?hg (N := 56) ?hd (xs := ([(Z6 Zy Vo).f0,Utf8.encode (bt (⟨#[116,110,109]⟩ : ByteArray) ((Z6 Zy Vo).f1)),(Z6 Zy Vo).f2] : List ByteArray)) (inner := [.string ((Z6 Zy Vo).f0),.string (Utf8.encode (bt (⟨#[116,110,109]⟩ : ByteArray) ((Z6 Zy Vo).f1))),.string ((Z6 Zy Vo).f2)]) (ok := fun _ => True) (okp := fun _ => True) ?hr ?hp (fun _ hk => hk) trivial (Below.refl _ _) (Nat.le_refl _) (by simp) ?_;(case hd => rfl);(case hg => rfl);(case hr => exact Q0);(case hp => exact (Vy.one (show Kd.M Kd.string _ _ _ ((Z6 Zy Vo).f0) [.string ((Z6 Zy Vo).f0)] from rfl) (Vy.one (show Kd.M Kd.string _ _ _ (Utf8.encode (bt (⟨#[116,110,109]⟩ : ByteArray) ((Z6 Zy Vo).f1))) [.string (Utf8.encode (bt (⟨#[116,110,109]⟩ : ByteArray) ((Z6 Zy Vo).f1)))] from rfl) (Vy.one (show Kd.M Kd.string _ _ _ ((Z6 Zy Vo).f2) [.string ((Z6 Zy Vo).f2)] from rfl) (Vy.none _ _)))))
           intro Vj1 w42 Jb3 hb hg_ hnew_
           clear hg_ hnew_
           (first | rw [← Jmc.out] at Jb3 | (simp only [Int.reduceToNat] at Jb3;rw [← Jmc.out] at Jb3))
           have Z1c := Za.mk (Kd.Pg (Kd.Jde Jb3 (Kd.Jnt Qw)) (Jh Yb))
           replace Zk1 := Za.mk (Kd.Zzn Qw (Kd.Jda Jb3) hb)
           replace J6 := Za.mk (Zw (g := Xm) (o := .cells #[.int .i64 Z5,.string Jb,.string Jc,.bool Jt,.slice Vw Jd.length Vu,.string Jn,.string Jm,.slice (some Zt0) Zy.length Vv] 29 (0,0)) J5 hb)
           replace Gu := Za.mk (Zw (g := Kt) (o := .cells #[.string ((Z6 Zy Vo).f0),.int .i64 ((Z6 Zy Vo).f1),.string ((Z6 Zy Vo).f2)] 44 (0,0)) (by (with_reducible repeat (first | refine Zc ?_ _ | refine Zf ?_ | refine Zb ?_ _));exact Gu.out) hb)
           replace HB := Za.mk (Zm Yb hb)
           clear hb Jb3
           obtain ⟨Vcu,Vcv,Ju8⟩ := Kd.Dw Z1c.out
           (first | subst Ju8 | (injection Ju8 with f1_ f2_ f3_;have f4_ := f1_.symm;have f5_ := f3_.symm;clear f1_ f2_ f3_;subst f4_;subst f5_))
           refine hK.out _ _ ⟨(Zd Gu.out 0).trans rfl,(Zd Gu.out 1).trans rfl,(Zd Gu.out 2).trans rfl⟩ (fun hHeld => ?_)
           clear hK K
           refine Qr (a' := ?_) ?_ ?_
           rotate_left
           ·show Act.put _ (some 56) _ = _
            simp only [Act.put,List.setIfInBounds_toArray,List.set_cons_zero,List.set_cons_succ,Jo,Jq]
            rfl
           refine F3 (i := 10) (N := some 57) #[true,true,true,true,true,true,true,true,true,true,true,false] rfl rfl (Qn HT_.out (by kernel_rfl)) (by decide) (fun K hK => ?_)
           refine Kd.zy Kd.string (w0 := w) w.heap.size (by rfl) (.tmp 47) (.tmp 56) 26 9 (.string ⟨#[]⟩) 16 rfl Tryz.underlying26 Jd4 rfl (by decide) (by omega) u4 Yj Zwt _ _ _ (fun k_ => some k_ ≠ (.slice Vcu Zwt.length Vcv : Value).ownBlock) (fun _ => False) rfl rfl ?aO ?aR (fun _ _ h => h) (fun _ h => h.elim) ?aF ?aB ?aS ?aL ?_
           (case aR => repeat (first | exact (Kd.Ld Z1c.out).2.2 | (with_reducible refine Kd.Vf ?_ _) | (with_reducible refine Kd.Vg ?_ _) | (with_reducible refine Kd.Vs ?_)))
           (case aB => exact Yb)
           (case aF => exact (fun k_ hk => Kd.fresh' (Kd.Jnt (by (with_reducible repeat (first | apply Kd.Yv | apply Kd.Yw | apply Kd.Xl));exact Z1c.out)) k_ hk))
           (case aO => exact (by (with_reducible repeat (first | apply Kd.Yv | apply Kd.Yw | apply Kd.Xl));exact Kd.Xc Zk1.out (fun _ hk => hk.2)))
           (case aS => exact (Jh Yb))
           (case aL => have := Ju3.out;omega)
           intro Vj2 w44 ho hb hg hat
           rw [← Ju5.out] at ho
           replace J6 := Za.mk (Us (g := Xm) (o := .cells #[.int .i64 Z5,.string Jb,.string Jc,.bool Jt,.slice Vw Jd.length Vu,.string Jn,.string Jm,.slice (some Zt0) Zy.length Vv] 29 (0,0)) J5 hg (Kd.Zpt Zk1.out J6.out (by decide)))
           replace Gu := Za.mk (Us (g := Kt) (o := .cells #[.string ((Z6 Zy Vo).f0),.int .i64 ((Z6 Zy Vo).f1),.string ((Z6 Zy Vo).f2)] 44 (0,0)) (by (with_reducible repeat (first | refine Zc ?_ _ | refine Zf ?_ | refine Zb ?_ _));exact Gu.out) hg (Kd.Zpt Zk1.out Gu.out (by decide)))
           replace Z1c := Za.mk (Kd.Jhs (ok := (fun _ => True)) (by (with_reducible repeat (first | apply Kd.Yv | apply Kd.Yw | apply Kd.Xl));exact Z1c.out) hg hat)
           replace HB := Za.mk (hb)
           have Jvb := Za.mk (ho)
           clear Zk1 ho hb hg hat
           refine hK.out _ _ ⟨(Zd Gu.out 0).trans rfl,(Zd Gu.out 1).trans rfl,(Zd Gu.out 2).trans rfl⟩ (fun hHeld => ?_)
           clear hK K
           refine Qr (a' := ?_) ?_ ?_
           rotate_left
           ·show Act.put _ (some 57) _ = _
            simp only [Act.put,List.setIfInBounds_toArray,List.set_cons_zero,List.set_cons_succ,Jo,Jq]
            rfl
           refine V3 (i := 11) (N := some 4) (v := ?_) (a' := ?_) #[true,true,true,true,true,true,true,true,true,true,true,true] rfl rfl (Vk HT_.out (by kernel_rfl)) (fun _ _ _ h => h) (Or.inl ⟨(by rfl),?_⟩) ?_ ?_
           rotate_left
           ·intro w'
            go_simp
            with_reducible rfl
           rotate_left
           ·simp only [Act.put,List.setIfInBounds_toArray,List.set_cons_zero,List.set_cons_succ,Jo,Jq]
            rfl
           refine j5 (Sw HT_.out (by kernel_rfl)) ?_
           try go_wp2
           go_roundg k1
           case measure => have := HK1.out;omega
           case rel => exact ⟨(Ju4),(wrap64 (Vo + 1)),(by first | rfl | (simp;done) | (simp [*];done)),H',⟨(by have := HK1.out;omega)⟩,⟨(by (with_reducible repeat (first | apply Kd.Yv | apply Kd.Yw | apply Kd.Xl));exact Kd.Xc Jvb.out (fun _ hk => trivial))⟩,⟨J5⟩,⟨Yb⟩⟩
          ·rw [if_neg c36] at H
           exact absurd H (by simp)
         ·rw [if_neg c34] at H
          exact absurd H (by simp)
        ·rw [if_neg c33] at H
         exact absurd H (by simp)
       ·rw [if_neg c32] at H
        exact absurd H (by simp)
      ·rw [if_neg c31] at H
       exact absurd H (by simp)
     ·rw [if_neg c30] at H
      have Ju2 : decide (Vo < (Zy.length : Int)) = false := decide_eq_false c30
      clear c30
      obtain rfl := Option.some.inj H
      go_wp2
      go_ret
      exact ⟨_,Xu,Qw,Vh⟩
end Go.Proofs.YtdhpcofnddkcaaaGreatDoor.S
namespace Go.Proofs.YtdhpcofnddkcaaaGreatDoor.S
open Go.RowKit Go.Proofs.YtdhpcofnddkcaaaGreatDoor.G Go.Proofs.YtdhpcofnddkcaaaGreatDoorW.PrintWords Go.Proofs.YtdhpcofnddkcaaaGreatDoorW.PrintLast Go.Proofs.YtdhpcofnddkcaaaGreatDoorW.PrintMore
set_option linter.unusedVariables false
set_option linter.unusedSimpArgs false
theorem Jmd (n0 : Nat) (ht : n0 ≤ 1000000) : (Lib.decDigits n0).length ≤ 20 := by
  rw [Lib.decDigits_length]
  have : ∀ (n u : Nat),u ≤ n → Lib.nDigits u ≤ u + 1 := by
    intro n
    induction n with
    | zero =>
      intro u hu
      rw [Lib.nDigits_small (by omega)]
      omega
    | succ n ih =>
      intro u hu
      by_cases h : u < 10
      · rw [Lib.nDigits_small h];omega
      · rw [Lib.nDigits_big h]
        have := ih (u / 10) (by omega)
        omega
  have h1 : Lib.nDigits n0 ≤ 7 := by
    rcases Nat.lt_or_ge n0 1000000 with h | h
    · rcases Nat.lt_or_ge (Lib.nDigits n0) 8 with h2 | h2
      · omega
      · exfalso
        have key : ∀ (k u : Nat),k + 1 < Lib.nDigits u → 10 ^ (k + 1) ≤ u := by
          intro k
          induction k with
          | zero =>
            intro u hk
            by_cases h : u < 10
            · rw [Lib.nDigits_small h] at hk;omega
            · omega
          | succ k ih =>
            intro u hk
            by_cases h : u < 10
            · rw [Lib.nDigits_small h] at hk;omega
            · rw [Lib.nDigits_big h] at hk
              have := ih (u / 10) (by omega)
              rw [Nat.pow_succ]
              omega
        have := key 6 n0 (by omega)
        omega
    · have : n0 = 1000000 := by omega
      rw [this]
      rw [show (1000000 : Nat) = 10 ^ 6 from rfl] at *
      rw [Lib.nDigits_unique 6 _ (Nat.le_refl _) (by decide)]
      decide
  omega
theorem Z1d (l : List UInt8) : bl (Net.bs l) = l := Net.Zbi l
theorem Pe (a b : List UInt8) : Net.bs a ++ Net.bs b = Net.bs (a ++ b) := jd (by rw [wu,Z1d,Z1d,Z1d])
theorem Wi (l : List UInt8) : (Net.bs l).size = l.length := by rw [sz,Z1d]
theorem K3 (t : ByteArray) : t.size ≤ (Net.V4 t).length := by
  unfold Net.V4
  rw [Net.F4,sz]
  show (bl t).length ≤ _ + (bl t).length + 2
  omega
theorem Zwx (n : Nat) (h : n ≤ 1000000) : strconv_Itoa.f (n : Int) = some (Net.Yy n) := by
  unfold strconv_Itoa.f
  rw [if_pos (by omega),Lib.itoa_nonneg]
  rfl
theorem Zl7 {s : Xx} (h : Kq s = true) : (s.f0 = 0 ∨ s.f0 = 1 ∨ s.f0 = 2) ∧ ∀ a ∈ s.f7,a.f1 = 0 ∨ a.f1 = 1 ∨ a.f1 = 2 := by
  rw [Zk0] at h
  obtain ⟨h1,h2⟩ := Bool.and_eq_true _ _ ▸ h
  refine ⟨?_,fun a ha => Zqa _ (List.all_eq_true.1 h1 a ha)⟩
  unfold Zkz at h2
  split at h2
  · rename_i c;exact Or.inl c
  · split at h2
    · rename_i c;exact Or.inr (Or.inl c)
    · split at h2
      · rename_i c;exact Or.inr (Or.inr c)
      · cases h2
theorem Jpj (t : ByteArray) (ht : t.size ≤ 1000000) : H5.f t = some (Net.bs (Net.V4 t)) := by
  have hz : t.size = (bl t).length := sz t
  unfold H5.f strconv_Itoa.f
  rw [if_pos (by omega),Option.bind_some,Lib.itoa_nonneg]
  have hd := Jmd t.size ht
  have h1 : (⟨(Lib.decDigits t.size).toArray⟩ : ByteArray).size = (Lib.decDigits t.size).length := sz _
  rw [if_pos (by rw [h1];omega),if_pos (by rw [Zfq,h1];show _ + 1 + _ ≤ _;omega),if_pos (by rw [Zfq,Zfq,h1];show _ + 1 + _ + 1 ≤ _;omega)]
  refine congrArg some (jd ?_)
  rw [wu,wu,wu]
  show Lib.decDigits t.size ++ [58] ++ bl t ++ [44] = bl (Net.bs (Net.V4 t))
  have : bl (Net.bs (Net.V4 t)) = Net.V4 t := Net.Zbi _
  rw [this]
  unfold Net.V4 Net.enc
  rw [hz]
  simp
theorem Jjs (k : Int) (h : k = 0 ∨ k = 1 ∨ k = 2) : Utf8.encode (bt (⟨#[116,110,109]⟩ : ByteArray) k) = Net.tnm k := by
  rcases h with rfl | rfl | rfl <;> decide
theorem Jfj (l : List Y4) (hl : l.length ≤ 1000000) (hk : ∀ a ∈ l,a.f1 = 0 ∨ a.f1 = 1 ∨ a.f1 = 2) : ∀ (d i : Nat) (acc : List ByteArray),l.length - i ≤ d → i ≤ l.length → acc.length ≤ 10 + 3 * i → ∀ k,d + 1 ≤ k →
    Z9.l0 k acc l (l.length : Int) (i : Int) = some (acc ++ Net.Dj ((l.drop i).map Pb)) := by
  intro d
  induction d with
  | zero =>
    intro i acc h1 h2 h3 k hkk
    obtain ⟨m,rfl⟩ : ∃ m,k = m + 1 := ⟨k - 1,by omega⟩
    rw [Z9.l0,if_neg (by omega),List.drop_of_length_le (by omega)]
    show _ = some (acc ++ [])
    rw [List.append_nil]
  | succ d ih =>
    intro i acc h1 h2 h3 k hkk
    obtain ⟨m,rfl⟩ : ∃ m,k = m + 1 := ⟨k - 1,by omega⟩
    by_cases hi : i < l.length
    · have hki := hk _ (List.getElem_mem hi)
      rw [Z9.l0,if_pos (by omega),if_pos (by omega),if_pos (by omega),Jfa l i hi,if_pos (by omega),if_pos (by omega),Option.bind_some,if_pos (by show acc.length + 3 < _;omega),Jjs _ hki,l5 _ (by omega) (by omega),
        show (i : Int) + 1 = ((i + 1 : Nat) : Int) by omega,ih (i + 1) _ (by omega) (by omega) (by rw [List.length_append];show _ + 3 ≤ _;omega) m (by omega),List.drop_eq_getElem_cons hi,List.map_cons,Net.He,List.append_assoc]
      rfl
    · rw [Z9.l0,if_neg (by omega),List.drop_of_length_le (by omega)]
      show _ = some (acc ++ [])
      rw [List.append_nil]
theorem Jjt (s : Xx) (hr : Kq s = true) (hl : s.f7.length ≤ 1000000) (hw : s.f4.length ≤ 1000000) (k : Nat) (hk : s.f7.length + 2 ≤ k) :
    Z9.f k s.f0 s.f1 s.f2 s.f3 s.f4 s.f5 s.f6 s.f7 = some (Net.parts (Uq s)) := by
  obtain ⟨hk0,hk7⟩ := Zl7 hr
  obtain ⟨f0,f1,f2,f3,f4,f5,f6,f7⟩ := s
  simp only at *
  unfold Z9.f
  show _ = some (if f0 = 0 then [Net.cA,f1,if f3 = true then Net.c1 else Net.c0,f2] else if f0 = 1 then [Net.cC,f1,Net.Yy f4.length] ++ f4 else [Net.cQ,f5,f6,Net.Yy (f7.map Pb).length] ++ Net.Dj (f7.map Pb))
  by_cases h0 : f0 = 0
  · rw [if_pos h0,if_pos h0]
    cases f3 <;> rfl
  · rw [if_neg h0,if_neg h0]
    by_cases h1 : f0 = 1
    · rw [if_pos h1,if_pos h1,Zwx _ (by omega),Option.bind_some,Option.bind_some,if_pos (by show 3 + _ < _;omega)]
      rfl
    · rw [if_neg h1,if_neg h1,Zwx _ (by omega),Option.bind_some,List.length_map]
      have := Jfj f7 (by omega) hk7 f7.length 0 [(⟨#[113]⟩ : ByteArray),f5,f6,Net.Yy f7.length] (by omega) (by omega) (by show 4 ≤ 10 + 3 * 0;omega) k (by omega)
      rw [List.drop_zero] at this
      exact this
theorem Jju (s : Net.St) : Uq (La s) = s := by
  obtain ⟨k,tag,by_,ov,ws,nm,at_,ags⟩ := s
  show (k,tag,by_,ov,ws,nm,at_,(ags.map Zz6).map Pb) = _
  rw [List.map_map]
  have : (Pb ∘ Zz6) = id := rfl
  rw [this,List.map_id]
end Go.Proofs.YtdhpcofnddkcaaaGreatDoor.S
namespace Go.Proofs.YtdhpcofnddkcaaaGreatDoor.S
open Go.RowKit Go.Proofs.YtdhpcofnddkcaaaGreatDoor.G Go.Proofs.YtdhpcofnddkcaaaGreatDoorW.PrintWords Go.Proofs.YtdhpcofnddkcaaaGreatDoorW.PrintLast Go.Proofs.YtdhpcofnddkcaaaGreatDoorW.PrintMore
set_option linter.unusedVariables false
set_option linter.unusedSimpArgs false
namespace Jvc
theorem Va {w : World} {g : Nat} {t : TypeId} {a0 a1 a2 : Value} (h : w.heap[g]? = some (.cells #[a0,a1,a2] t (0,0))) : w.cell? ⟨g,0,none⟩ = some a0 ∧ w.cell? ⟨g,1,none⟩ = some a1 ∧ w.cell? ⟨g,2,none⟩ = some a2 ∧ w.frozen? ⟨g,0,none⟩ = false ∧ w.frozen? ⟨g,1,none⟩ = false ∧ w.frozen? ⟨g,2,none⟩ = false := ⟨(Zd h 0).trans rfl,(Zd h 1).trans rfl,(Zd h 2).trans rfl,Zj h 0,Zj h 1,Zj h 2⟩
theorem Jf {w : World} {g : Nat} {t : TypeId} {a0 a1 a2 a3 a4 a5 a6 a7 : Value} (h : w.heap[g]? = some (.cells #[a0,a1,a2,a3,a4,a5,a6,a7] t (0,0))) : w.cell? ⟨g,0,none⟩ = some a0 ∧ w.cell? ⟨g,1,none⟩ = some a1 ∧ w.cell? ⟨g,2,none⟩ = some a2 ∧ w.cell? ⟨g,3,none⟩ = some a3 ∧ w.cell? ⟨g,4,none⟩ = some a4 ∧ w.cell? ⟨g,5,none⟩ = some a5 ∧ w.cell? ⟨g,6,none⟩ = some a6 ∧ w.cell? ⟨g,7,none⟩ = some a7 ∧ w.frozen? ⟨g,0,none⟩ = false ∧ w.frozen? ⟨g,1,none⟩ = false ∧ w.frozen? ⟨g,2,none⟩ = false ∧ w.frozen? ⟨g,3,none⟩ = false ∧ w.frozen? ⟨g,4,none⟩ = false ∧ w.frozen? ⟨g,5,none⟩ = false ∧ w.frozen? ⟨g,6,none⟩ = false ∧ w.frozen? ⟨g,7,none⟩ = false := ⟨(Zd h 0).trans rfl,(Zd h 1).trans rfl,(Zd h 2).trans rfl,(Zd h 3).trans rfl,(Zd h 4).trans rfl,(Zd h 5).trans rfl,(Zd h 6).trans rfl,(Zd h 7).trans rfl,Zj h 0,Zj h 1,Zj h 2,Zj h 3,Zj h 4,Zj h 5,Zj h 6,Zj h 7⟩
theorem Xk {w : World} {g : Nat} {t : TypeId} {a0 a1 a2 a3 a4 a5 a6 a7 a8 a9 a10 a11 : Value} (h : w.heap[g]? = some (.cells #[a0,a1,a2,a3,a4,a5,a6,a7,a8,a9,a10,a11] t (0,0))) : w.cell? ⟨g,0,none⟩ = some a0 ∧ w.cell? ⟨g,1,none⟩ = some a1 ∧ w.cell? ⟨g,2,none⟩ = some a2 ∧ w.cell? ⟨g,3,none⟩ = some a3 ∧ w.cell? ⟨g,4,none⟩ = some a4 ∧ w.cell? ⟨g,5,none⟩ = some a5 ∧ w.cell? ⟨g,6,none⟩ = some a6 ∧ w.cell? ⟨g,7,none⟩ = some a7 ∧ w.cell? ⟨g,8,none⟩ = some a8 ∧ w.cell? ⟨g,9,none⟩ = some a9 ∧ w.cell? ⟨g,10,none⟩ = some a10 ∧ w.cell? ⟨g,11,none⟩ = some a11 ∧ w.frozen? ⟨g,0,none⟩ = false ∧ w.frozen? ⟨g,1,none⟩ = false ∧ w.frozen? ⟨g,2,none⟩ = false ∧ w.frozen? ⟨g,3,none⟩ = false ∧ w.frozen? ⟨g,4,none⟩ = false ∧ w.frozen? ⟨g,5,none⟩ = false ∧ w.frozen? ⟨g,6,none⟩ = false ∧ w.frozen? ⟨g,7,none⟩ = false ∧ w.frozen? ⟨g,8,none⟩ = false ∧ w.frozen? ⟨g,9,none⟩ = false ∧ w.frozen? ⟨g,10,none⟩ = false ∧ w.frozen? ⟨g,11,none⟩ = false := ⟨(Zd h 0).trans rfl,(Zd h 1).trans rfl,(Zd h 2).trans rfl,(Zd h 3).trans rfl,(Zd h 4).trans rfl,(Zd h 5).trans rfl,(Zd h 6).trans rfl,(Zd h 7).trans rfl,(Zd h 8).trans rfl,(Zd h 9).trans rfl,(Zd h 10).trans rfl,(Zd h 11).trans rfl,Zj h 0,Zj h 1,Zj h 2,Zj h 3,Zj h 4,Zj h 5,Zj h 6,Zj h 7,Zj h 8,Zj h 9,Zj h 10,Zj h 11⟩
theorem Vh {p_ : Prop} (h_ : p_ := by repeat (first | (with_reducible first | exact HB.out | apply Z4 | apply Zr | apply Zz | refine Z8 ?_ Jfk.out) | exact HB.out)) : p_ := h_
theorem J5 {p_ : Prop} (h_ : p_ := by (with_reducible repeat (first | refine Zc ?_ _ | refine Zf ?_ | refine Zb ?_ _));exact Wj.out) : p_ := h_
theorem Vz {p_ : Prop} (h_ : p_ := by repeat (first | (with_reducible first | exact HB.out | apply Z4 | apply Zr | apply Zz | refine Z8 ?_ Jfk.out | refine Z8 ?_ Jfl.out) | exact HB.out)) : p_ := h_
theorem Yb {p_ : Prop} (h_ : p_ := by (with_reducible repeat (first | refine Zc ?_ _ | refine Zf ?_ | refine Zb ?_ _));refine Zo (cs := #[.string ((Z6 Zy Jk).f0),.int .i64 ((Z6 Zy Jk).f1),.string (⟨#[]⟩ : ByteArray)]) ?_ 2 _ rfl;(with_reducible repeat (first | refine Zc ?_ _ | refine Zf ?_ | refine Zb ?_ _));refine Zo (cs := #[.string ((Z6 Zy Jk).f0),.int .i64 0,.string (⟨#[]⟩ : ByteArray)]) ?_ 1 _ rfl;(with_reducible repeat (first | refine Zc ?_ _ | refine Zf ?_ | refine Zb ?_ _));refine Zo (cs := #[.string (⟨#[]⟩ : ByteArray),.int .i64 0,.string (⟨#[]⟩ : ByteArray)]) ?_ 0 _ rfl;(with_reducible repeat (first | refine Zc ?_ _ | refine Zf ?_ | refine Zb ?_ _));exact Zin.out) : p_ := h_
theorem Qw {p_ : Prop} (h_ : p_ := by first | rfl | (simp [Vd,Ve] <;> rfl) | (simp [*,Vd,Ve] <;> rfl)) : p_ := h_
theorem Xu {p_ : Prop} (h_ : p_ := by rw [hg];exact Nat.ne_of_lt (Y3 (g := G6) (o := .cells #[.int .i64 Z5,.string Jb,.string Jc,.bool Jt,.slice Vw Jd.length Vu,.string Jn,.string Jm,.slice (some Zio) Zy.length Vv] 29 (0,0)) J5)) : p_ := h_
theorem Qg {p_ : Prop} (h_ : p_ := by rw [hg];exact Nat.ne_of_gt (Y3 (g := G6) (o := .cells #[.int .i64 Z5,.string Jb,.string Jc,.bool Jt,.slice Vw Jd.length Vu,.string Jn,.string Jm,.slice (some Zio) Zy.length Vv] 29 (0,0)) J5)) : p_ := h_
theorem Dx {p_ : Prop} (h_ : p_ := by (with_reducible repeat (first | refine Zc ?_ _ | refine Zf ?_ | refine Zb ?_ _));exact Zin.out) : p_ := h_
theorem Wp {p_ : Prop} (h_ : p_ := by (with_reducible repeat (first | refine Zc ?_ _ | refine Zf ?_ | refine Zb ?_ _));refine Jl ?_ zw.out _;(with_reducible repeat (first | refine Zc ?_ _ | refine Zf ?_ | refine Zb ?_ _));refine Jl ?_ zw.out _;(with_reducible repeat (first | refine Zc ?_ _ | refine Zf ?_ | refine Zb ?_ _));refine Jl ?_ zw.out _;(with_reducible repeat (first | refine Zc ?_ _ | refine Zf ?_ | refine Zb ?_ _));exact Wj.out) : p_ := h_
theorem Sy {p_ : Prop} (h_ : p_ := by first | rfl | (simp;done) | (simp [*];done)) : p_ := h_
theorem Qy {p_ : Prop} (h_ : p_ := by repeat (first | (with_reducible first | exact HB.out | apply Z4 | apply Zr | apply Zz) | exact HB.out)) : p_ := h_
theorem Xv {p_ : Prop} (h_ : p_ := by repeat (first | (with_reducible first | exact HB.out | apply Z4 | apply Zr | apply Zz | refine Z8 ?_ Jfk.out | refine Z8 ?_ Jfl.out | refine Z8 ?_ Jme.out) | exact HB.out)) : p_ := h_
theorem Ye {p_ : Prop} (h_ : p_ := by rw [hg];exact Nat.ne_of_lt (Y3 (g := M4) (o := .cells #[.string ((Z6 Zy Jk).f0),.int .i64 ((Z6 Zy Jk).f1),.string ((Z6 Zy Jk).f2)] 44 (0,0)) Dx)) : p_ := h_
theorem Pd {p_ : Prop} (h_ : p_ := by rw [hg];exact Nat.ne_of_gt (Y3 (g := M4) (o := .cells #[.string ((Z6 Zy Jk).f0),.int .i64 ((Z6 Zy Jk).f1),.string ((Z6 Zy Jk).f2)] 44 (0,0)) Dx)) : p_ := h_
theorem je {p_ : Prop} (h_ : p_ := by first | (with_reducible assumption) | assumption) : p_ := h_
theorem Zml {p_ : Prop} (h_ : p_ := by (try simp only [List.map_toArray,List.map_cons,List.map_nil]);first | done | rfl | (simp only [List.length_drop,List.length_take];rfl)) : p_ := h_
theorem Q0 {p_ : Prop} (h_ : p_ := by first | (go_simp;done) | (go_simp;rfl)) : p_ := h_
end Jvc
open Jvc
mutual
def Zu.l0 : Nat → List (Y4) → Int → Int → Int → ByteArray → ByteArray → Bool → List ByteArray → ByteArray → ByteArray → List (Y4) → Option (Bool)
 | 0,_,_,_,_,_,_,_,_,_,_,_ => none
 | k + 1,x10,x11,x12,M5,Ti,Tj,Tk,R8,Tm,Tn,Tp => if x12 < x11 then (if 0 ≤ x12 then (if x12 < (x10.length : Int) then ((Jy.f k ((Z6 x10 x12).f0) ((Z6 x10 x12).f1) ((Z6 x10 x12).f2)).bind fun Jvd => (if Jvd.2.2.2.2.2.2.2.2.2.2.2.2 = true then (Zu.l0 k x10 x11 (wrap64 (x12 + 1)) M5 Ti Tj Tk R8 Tm Tn Tp) else (some false))) else (none)) else (none)) else (if Tm.toList = ([] : List UInt8) then (if Tn.toList = ([] : List UInt8) then (Zu.j1 k (decide ((Tp.length : Int) > 0)) M5 Ti Tj Tk R8 Tm Tn Tp) else (Zu.j1 k true M5 Ti Tj Tk R8 Tm Tn Tp)) else (Zu.j1 k true M5 Ti Tj Tk R8 Tm Tn Tp))
def Zu.j1 : Nat → Bool → Int → ByteArray → ByteArray → Bool → List ByteArray → ByteArray → ByteArray → List (Y4) → Option (Bool)
 | 0,_,_,_,_,_,_,_,_,_ => none
 | k + 1,x7,M5,Ti,Tj,Tk,R8,Tm,Tn,Tp => if Tj.toList = ([] : List UInt8) then (Zu.j2 k x7 Tk M5 Ti Tj Tk R8 Tm Tn Tp) else (Zu.j2 k x7 true M5 Ti Tj Tk R8 Tm Tn Tp)
def Zu.j2 : Nat → Bool → Bool → Int → ByteArray → ByteArray → Bool → List ByteArray → ByteArray → ByteArray → List (Y4) → Option (Bool)
 | 0,_,_,_,_,_,_,_,_,_,_ => none
 | k + 1,x7,x8,M5,Ti,Tj,Tk,R8,Tm,Tn,Tp => if M5 = 0 then (if x7 = true then (some false) else (some ((R8.length : Int) == 0))) else (if M5 = 1 then (if x7 = true then (some false) else (some (!x8))) else (if M5 = 2 then (if x8 = true then (some false) else (if Ti.toList = ([] : List UInt8) then (some ((R8.length : Int) == 0)) else (some false))) else (some false)))
end
def Zu.f (k : Nat) (Z5 : Int) (Jb : ByteArray) (Jc : ByteArray) (Jt : Bool) (Jd : List ByteArray) (Jn : ByteArray) (Jm : ByteArray) (Zy : List (Y4)) : Option (Bool) := Zu.l0 k Zy (Zy.length : Int) 0 Z5 Jb Jc Jt Jd Jn Jm Zy
theorem Zu.Xy : ∀ k,(∀ y0 y1 y2 y3 y4 y5 y6 y7 y8 y9 y10,Jz (Zu.l0 k y0 y1 y2 y3 y4 y5 y6 y7 y8 y9 y10) (Zu.l0 (k + 1) y0 y1 y2 y3 y4 y5 y6 y7 y8 y9 y10)) ∧ (∀ y0 y1 y2 y3 y4 y5 y6 y7 y8,Jz (Zu.j1 k y0 y1 y2 y3 y4 y5 y6 y7 y8) (Zu.j1 (k + 1) y0 y1 y2 y3 y4 y5 y6 y7 y8)) ∧ (∀ y0 y1 y2 y3 y4 y5 y6 y7 y8 y9,Jz (Zu.j2 k y0 y1 y2 y3 y4 y5 y6 y7 y8 y9) (Zu.j2 (k + 1) y0 y1 y2 y3 y4 y5 y6 y7 y8 y9))
 | 0 => ⟨fun _ _ _ _ _ _ _ _ _ _ _ r h => by simp [Zu.l0] at h,fun _ _ _ _ _ _ _ _ _ r h => by simp [Zu.j1] at h,fun _ _ _ _ _ _ _ _ _ _ r h => by simp [Zu.j2] at h⟩
 | k + 1 => by
  obtain ⟨ih0,ih1,ih2⟩ := Zu.Xy k
  refine ⟨?_,?_,?_⟩
  ·intro y0 y1 y2 y3 y4 y5 y6 y7 y8 y9 y10
   unfold Zu.l0
   repeat' first
   | (with_reducible exact ih0 _ _ _ _ _ _ _ _ _ _ _)
   | (with_reducible exact ih1 _ _ _ _ _ _ _ _ _)
   | (with_reducible exact ih2 _ _ _ _ _ _ _ _ _ _)
   | (with_reducible exact Jy.mono _ _ _ _)
   | (with_reducible exact Jz.refl _)
   | (with_reducible exact Jz.none _)
   | (with_reducible refine Jz.ite ?_ ?_)
   | (with_reducible refine Jz.bind ?_ (fun _ => ?_))
   | exact ih0 _ _ _ _ _ _ _ _ _ _ _
   | exact ih1 _ _ _ _ _ _ _ _ _
   | exact ih2 _ _ _ _ _ _ _ _ _ _
   | exact Jy.mono _ _ _ _
   | exact Jz.none _
   | refine Jz.ite ?_ ?_
   | refine Jz.bind ?_ (fun _ => ?_)
  ·intro y0 y1 y2 y3 y4 y5 y6 y7 y8
   unfold Zu.j1
   repeat' first
   | (with_reducible exact ih0 _ _ _ _ _ _ _ _ _ _ _)
   | (with_reducible exact ih1 _ _ _ _ _ _ _ _ _)
   | (with_reducible exact ih2 _ _ _ _ _ _ _ _ _ _)
   | (with_reducible exact Jy.mono _ _ _ _)
   | (with_reducible exact Jz.refl _)
   | (with_reducible exact Jz.none _)
   | (with_reducible refine Jz.ite ?_ ?_)
   | (with_reducible refine Jz.bind ?_ (fun _ => ?_))
   | exact ih0 _ _ _ _ _ _ _ _ _ _ _
   | exact ih1 _ _ _ _ _ _ _ _ _
   | exact ih2 _ _ _ _ _ _ _ _ _ _
   | exact Jy.mono _ _ _ _
   | exact Jz.none _
   | refine Jz.ite ?_ ?_
   | refine Jz.bind ?_ (fun _ => ?_)
  ·intro y0 y1 y2 y3 y4 y5 y6 y7 y8 y9
   unfold Zu.j2
   repeat' first
   | (with_reducible exact ih0 _ _ _ _ _ _ _ _ _ _ _)
   | (with_reducible exact ih1 _ _ _ _ _ _ _ _ _)
   | (with_reducible exact ih2 _ _ _ _ _ _ _ _ _ _)
   | (with_reducible exact Jy.mono _ _ _ _)
   | (with_reducible exact Jz.refl _)
   | (with_reducible exact Jz.none _)
   | (with_reducible refine Jz.ite ?_ ?_)
   | (with_reducible refine Jz.bind ?_ (fun _ => ?_))
   | exact ih0 _ _ _ _ _ _ _ _ _ _ _
   | exact ih1 _ _ _ _ _ _ _ _ _
   | exact ih2 _ _ _ _ _ _ _ _ _ _
   | exact Jy.mono _ _ _ _
   | exact Jz.none _
   | refine Jz.ite ?_ ?_
   | refine Jz.bind ?_ (fun _ => ?_)
theorem Zu.mono : ∀ a0 a1 a2 a3 a4 a5 a6 a7 k,Jz (Zu.f k a0 a1 a2 a3 a4 a5 a6 a7) (Zu.f (k + 1) a0 a1 a2 a3 a4 a5 a6 a7) := by
 intro a0 a1 a2 a3 a4 a5 a6 a7 k
 obtain ⟨ih0,ih1,ih2⟩ := Zu.Xy k
 unfold Zu.f
 repeat' first
   | (with_reducible exact ih0 _ _ _ _ _ _ _ _ _ _ _)
   | (with_reducible exact ih1 _ _ _ _ _ _ _ _ _)
   | (with_reducible exact ih2 _ _ _ _ _ _ _ _ _ _)
   | (with_reducible exact Jy.mono _ _ _ _)
   | (with_reducible exact Jz.refl _)
   | (with_reducible exact Jz.none _)
   | (with_reducible refine Jz.ite ?_ ?_)
   | (with_reducible refine Jz.bind ?_ (fun _ => ?_))
   | exact ih0 _ _ _ _ _ _ _ _ _ _ _
   | exact ih1 _ _ _ _ _ _ _ _ _
   | exact ih2 _ _ _ _ _ _ _ _ _ _
   | exact Jy.mono _ _ _ _
   | exact Jz.none _
   | refine Jz.ite ?_ ?_
   | refine Jz.bind ?_ (fun _ => ?_)
set_option maxHeartbeats 8000000 in
set_option maxRecDepth 100000 in
theorem Zu.calls (k : Nat) (Z5 : Int) (Jb : ByteArray) (Jc : ByteArray) (Jt : Bool) (Vw : Option Addr) (Vu : Nat) (Jd : List ByteArray) (Jn : ByteArray) (Jm : ByteArray) (Xf : Option Addr) (Vv : Nat) (Zy : List (Y4)) (r : Bool) (w : World) (qd : Kd.C Kd.string w Vw Jd.length Jd) (qf : Jd.length ≤ Vu) (qg : Kd.C k44 w Xf Zy.length Zy) (qh : Zy.length ≤ Vv) (h : Zu.f k Z5 Jb Jc Jt Jd Jn Jm Zy = some r) :
  Calls Tryz.prog 12 #[.agg #[.int .i64 Z5,.string Jb,.string Jc,.bool Jt,.slice Vw Jd.length Vu,.string Jn,.string Jm,.slice Xf Zy.length Vv]] w fun e w' => e = .returned (.bool r) ∧ Below w.heap.size w w' := by
 have Z0x := Tryz.underlying29
 have Z0h := Tryz.underlying44
 have Jbq := Tryz.underlying51
 have Zl1 := Za.mk qd
 have Z59 := Za.mk qf
 clear qd qf
 have Za5 := Za.mk qg
 have Z6a := Za.mk qh
 clear qg qh
 have HB := Za.mk (Below.refl w.heap.size w)
 have H : (Zu.l0 k Zy (Zy.length : Int) 0 Z5 Jb Jc Jt Jd Jn Jm Zy) = some r := h
 clear h
 have H' := Za.mk H
 clear H
 go_enter Tryz.func12,Tryz.ntmps12
 go_wp2_with (first | ((with_reducible refine Jg (N := 1) rfl ?_);(try (refine Jr (by rfl) ?_;dsimp only));refine Je ?hg (N := 1) ?hd (cs := #[.int .i64 Z5,.string Jb,.string Jc,.bool Jt,.slice Vw Jd.length Vu,.string Jn,.string Jm,.slice Xf Zy.length Vv]) (t := 29) ?hr ?_;(case hd => rfl);(case hg => rfl);(case hr => exact Q0);intro G6 hg w2 hbox hb;have Wj := Za.mk (hbox);have Vgl := Za.mk (((by rw [hg];exact (Jh Qy)) : w.heap.size ≤ G6));have Jfk := Za.mk (((by rw [hg];exact (Jh Qy)) : w.heap.size ≤ G6));replace HB := Za.mk (Zm Qy hb);clear hb hbox hg;obtain ⟨Zqb,Zqc,Zqd,Zqe,Zqf,Zqg,Zqh,Zqi,Zqj,Zqk,Zql,Zqm,Zqn,Zqo,Zqp,Zqq⟩ := Jf Wj.out))
 go_loopg [12] k (fun kq v12 w' => ∃ (Jk : Int),v12 = .int .i64 Jk ∧ Za (Zu.l0 kq Zy (Zy.length : Int) Jk Z5 Jb Jc Jt Jd Jn Jm Zy = some r) ∧ Za (kq ≤ k) ∧ Za (w'.heap[G6]? = some (.cells #[.int .i64 Z5,.string Jb,.string Jc,.bool Jt,(.slice Vw Jd.length Vu),.string Jn,.string Jm,(.slice Xf Zy.length Vv)] 29 (0,0))) ∧ Za (Below w.heap.size w w'))
 case atStart => exact ⟨(0),Sy,H',⟨Nat.le_refl _⟩,⟨J5⟩,⟨Vh⟩⟩
 case round =>
  clear H'
  try clear c1
  try clear p2
  try clear Zqb Zqc Zqd Zqe Zqf Zqg Zqh Zqi
  try clear Zqj Zqk Zql Zqm Zqn Zqo Zqp Zqq
  obtain ⟨Jk,rfl,HA,HK1,Wj,HB⟩ := hrel
  cases gk with
  | zero => exact absurd HA.out (by simp [Zu.l0])
  | succ k1 =>
   have H := HA.out
   clear HA
   simp only [Zu.l0] at H
   by_cases c4 : Jk < (Zy.length : Int)
   ·rw [if_pos c4] at H
    have Sj : decide (Jk < (Zy.length : Int)) = true := decide_eq_true c4
    clear c4
    by_cases c5 : 0 ≤ Jk
    ·rw [if_pos c5] at H
     have wo : decide (0 ≤ Jk) = true := decide_eq_true c5
     clear c5
     by_cases c6 : Jk < (Zy.length : Int)
     ·rw [if_pos c6] at H
      have Zk2 : decide (Jk < (Zy.length : Int)) = true := decide_eq_true c6
      clear c6
      replace H := Option.bind_eq_some_iff.mp H
      obtain ⟨⟨Jve,Jvf,Jvg,Jvh,Jvi,Jvj,Jvk,Jvl,Jvm,Jvn,Jvo,Jvp,Jvq⟩,A70,H⟩ := H
      replace H : (if Jvq = true then (Zu.l0 k1 Zy (Zy.length : Int) (wrap64 (Jk + 1)) Z5 Jb Jc Jt Jd Jn Jm Zy) else (some false)) = some r := H
      have A7 := Za.mk A70
      clear A70
      by_cases c8 : Jvq = true
      ·subst c8
       have H1 : (Zu.l0 k1 Zy (Zy.length : Int) (wrap64 (Jk + 1)) Z5 Jb Jc Jt Jd Jn Jm Zy) = some r := by rw [if_pos rfl] at H;exact H
       clear H
       have H := H1
       clear H1
       have H' := Za.mk H
       clear H
       have Zwy : 0 ≤ (Jk : Int) := of_decide_eq_true je
       have Zwz : Jk < (Zy.length : Int) := of_decide_eq_true je
       obtain ⟨Zio,e257,Tq,Tt,Tu⟩ := ja Za5.out Jk Zwy Zwz
       cases e257
       replace Tq := (HB.out.cell (World.block_lt_of_cell? w _ Tq)).trans Tq
       replace Tt := (HB.out.cell (World.block_lt_of_cell? w _ Tt)).trans Tt
       replace Tu := (HB.out.cell (World.block_lt_of_cell? w _ Tu)).trans Tu
       replace Zwy := eq_true Zwy
       replace Zwz := eq_true Zwz
       go_wp2_with (first | ((with_reducible refine Jg (N := 4) rfl ?_);(try (refine Jr (by rfl) ?_;dsimp only));refine Je ?hg (N := 4) ?hd (cs := #[.string (⟨#[]⟩ : ByteArray),.int .i64 0,.string (⟨#[]⟩ : ByteArray)]) (t := 44) ?hr ?_;(case hd => rfl);(case hg => rfl);(case hr => exact Q0);intro M4 hg w9 hbox hb;have Zin := Za.mk (hbox);have Jvr := Za.mk (((by rw [hg];exact (Jh Vh)) : w.heap.size ≤ M4));have Jfl := Za.mk (((by rw [hg];exact (Jh Vh)) : w.heap.size ≤ M4));replace HB := Za.mk (Zm Vh hb);have zw := Za.mk ((Xu : G6 ≠ M4));have Zk3 := Za.mk ((Qg : M4 ≠ G6));replace Wj := Za.mk (Zw (g := G6) (o := .cells #[.int .i64 Z5,.string Jb,.string Jc,.bool Jt,.slice Vw Jd.length Vu,.string Jn,.string Jm,.slice (some Zio) Zy.length Vv] 29 (0,0)) J5 hb);clear hb hbox hg;have Jvs := Zk3.out;have Jvt := zw.out;obtain ⟨vo,vv,vw,vz,yc,yf⟩ := Va Zin.out) | ((with_reducible refine Z7 (f := 18) rfl ?_);refine Ju (some 18) rfl rfl Tryz.func18 (by kernel_rfl) rfl #[.agg #[.string ((Z6 Zy Jk).f0),.int .i64 ((Z6 Zy Jk).f1),.string ((Z6 Zy Jk).f2)]] rfl Zml ?_;(with_reducible refine (Jy.calls k1 ((Z6 Zy Jk).f0) ((Z6 Zy Jk).f1) ((Z6 Zy Jk).f2) Jve Jvf Jvg Jvh Jvi Jvj Jvk Jvl Jvm Jvn Jvo Jvp true _ A7.out).mono ?_);rintro e w12 ⟨rfl,hb⟩;refine ⟨_,rfl,?_⟩;replace Wj := Za.mk (Zw (g := G6) (o := .cells #[.int .i64 Z5,.string Jb,.string Jc,.bool Jt,.slice Vw Jd.length Vu,.string Jn,.string Jm,.slice (some Zio) Zy.length Vv] 29 (0,0)) Wp hb);replace Zin := Za.mk (Zw (g := M4) (o := .cells #[.string ((Z6 Zy Jk).f0),.int .i64 ((Z6 Zy Jk).f1),.string ((Z6 Zy Jk).f2)] 44 (0,0)) Yb hb);replace HB := Za.mk (Zm Vz hb);(try clear hb);(try clear hb2);(try clear hk);(try clear hi)) | ((with_reducible refine Jg (N := 5) rfl ?_);(try (refine Jr (by rfl) ?_;dsimp only));refine Je ?hg (N := 5) ?hd (cs := #[.int .i64 0,.string (⟨#[]⟩ : ByteArray),.bool false,.string (⟨#[]⟩ : ByteArray),.int .i64 0,.int .i64 0,.int .i64 0,.int .i64 0,.bool false,.bool false,.int .i64 0,.int .i64 0]) (t := 51) ?hr ?_;(case hd => rfl);(case hg => rfl);(case hr => exact Q0);intro dn hg w13 hbox hb;have Jfm := Za.mk (hbox);have Jvu := Za.mk (((by rw [hg];exact (Jh Vz)) : w.heap.size ≤ dn));have Jme := Za.mk (((by rw [hg];exact (Jh Vz)) : w.heap.size ≤ dn));replace HB := Za.mk (Zm Vz hb);have Qk := Za.mk ((Xu : G6 ≠ dn));have Zk4 := Za.mk ((Qg : dn ≠ G6));replace Wj := Za.mk (Zw (g := G6) (o := .cells #[.int .i64 Z5,.string Jb,.string Jc,.bool Jt,.slice Vw Jd.length Vu,.string Jn,.string Jm,.slice (some Zio) Zy.length Vv] 29 (0,0)) J5 hb);have Zk5 := Za.mk ((Ye : M4 ≠ dn));have Zk6 := Za.mk ((Pd : dn ≠ M4));replace Zin := Za.mk (Zw (g := M4) (o := .cells #[.string ((Z6 Zy Jk).f0),.int .i64 ((Z6 Zy Jk).f1),.string ((Z6 Zy Jk).f2)] 44 (0,0)) Dx hb);clear hb hbox hg;have Vgm := Zk4.out;have Vgn := Qk.out;have Jvv := Zk6.out;have Jvw := Zk5.out;obtain ⟨Rt,Ru,Rv,Zhg,Zhh,Zhi,Zhj,Zhk,Z7r,Z7s,Z1f,Z1g,Rw,Rx,Ry,Zhl,Zhm,Zhn,Zho,Zhp,Z7t,Z7u,Z1h,Z1i⟩ := Xk Jfm.out))
       go_roundg k1
       case measure => have := HK1.out;omega
       case rel => exact ⟨(wrap64 (Jk + 1)),Sy,H',⟨(by have := HK1.out;omega)⟩,⟨(by (with_reducible repeat (first | refine Zc ?_ _ | refine Zf ?_ | refine Zb ?_ _));refine Jl ?_ Qk.out _;(with_reducible repeat (first | refine Zc ?_ _ | refine Zf ?_ | refine Zb ?_ _));refine Jl ?_ Qk.out _;(with_reducible repeat (first | refine Zc ?_ _ | refine Zf ?_ | refine Zb ?_ _));refine Jl ?_ Qk.out _;(with_reducible repeat (first | refine Zc ?_ _ | refine Zf ?_ | refine Zb ?_ _));refine Jl ?_ Qk.out _;(with_reducible repeat (first | refine Zc ?_ _ | refine Zf ?_ | refine Zb ?_ _));refine Jl ?_ Qk.out _;(with_reducible repeat (first | refine Zc ?_ _ | refine Zf ?_ | refine Zb ?_ _));refine Jl ?_ Qk.out _;(with_reducible repeat (first | refine Zc ?_ _ | refine Zf ?_ | refine Zb ?_ _));refine Jl ?_ Qk.out _;(with_reducible repeat (first | refine Zc ?_ _ | refine Zf ?_ | refine Zb ?_ _));refine Jl ?_ Qk.out _;(with_reducible repeat (first | refine Zc ?_ _ | refine Zf ?_ | refine Zb ?_ _));refine Jl ?_ Qk.out _;(with_reducible repeat (first | refine Zc ?_ _ | refine Zf ?_ | refine Zb ?_ _));refine Jl ?_ Qk.out _;(with_reducible repeat (first | refine Zc ?_ _ | refine Zf ?_ | refine Zb ?_ _));refine Jl ?_ Qk.out _;(with_reducible repeat (first | refine Zc ?_ _ | refine Zf ?_ | refine Zb ?_ _));refine Jl ?_ Qk.out _;(with_reducible repeat (first | refine Zc ?_ _ | refine Zf ?_ | refine Zb ?_ _));exact Wj.out)⟩,⟨Xv⟩⟩
      ·replace c8 := Bool.eq_false_iff.mpr c8
       subst c8
       have H1 : (some false) = some r := by rw [if_neg (show ¬ (false = true) by decide)] at H;exact H
       clear H
       have H := H1
       clear H1
       obtain rfl := Option.some.inj H
       have Zwy : 0 ≤ (Jk : Int) := of_decide_eq_true je
       have Zwz : Jk < (Zy.length : Int) := of_decide_eq_true je
       obtain ⟨Zio,e257,Tq,Tt,Tu⟩ := ja Za5.out Jk Zwy Zwz
       cases e257
       replace Tq := (HB.out.cell (World.block_lt_of_cell? w _ Tq)).trans Tq
       replace Tt := (HB.out.cell (World.block_lt_of_cell? w _ Tt)).trans Tt
       replace Tu := (HB.out.cell (World.block_lt_of_cell? w _ Tu)).trans Tu
       replace Zwy := eq_true Zwy
       replace Zwz := eq_true Zwz
       go_wp2_with (first | ((with_reducible refine Jg (N := 4) rfl ?_);(try (refine Jr (by rfl) ?_;dsimp only));refine Je ?hg (N := 4) ?hd (cs := #[.string (⟨#[]⟩ : ByteArray),.int .i64 0,.string (⟨#[]⟩ : ByteArray)]) (t := 44) ?hr ?_;(case hd => rfl);(case hg => rfl);(case hr => exact Q0);intro M4 hg w17 hbox hb;have Zin := Za.mk (hbox);have Jvr := Za.mk (((by rw [hg];exact (Jh Vh)) : w.heap.size ≤ M4));have Jfl := Za.mk (((by rw [hg];exact (Jh Vh)) : w.heap.size ≤ M4));replace HB := Za.mk (Zm Vh hb);have zw := Za.mk ((Xu : G6 ≠ M4));have Zk3 := Za.mk ((Qg : M4 ≠ G6));replace Wj := Za.mk (Zw (g := G6) (o := .cells #[.int .i64 Z5,.string Jb,.string Jc,.bool Jt,.slice Vw Jd.length Vu,.string Jn,.string Jm,.slice (some Zio) Zy.length Vv] 29 (0,0)) J5 hb);clear hb hbox hg;have Vgo := Zk3.out;have Vgp := zw.out;obtain ⟨Zdj,Zdk,Zdl,Zdm,Zdn,Zdo⟩ := Va Zin.out) | ((with_reducible refine Z7 (f := 18) rfl ?_);refine Ju (some 18) rfl rfl Tryz.func18 (by kernel_rfl) rfl #[.agg #[.string ((Z6 Zy Jk).f0),.int .i64 ((Z6 Zy Jk).f1),.string ((Z6 Zy Jk).f2)]] rfl Zml ?_;(with_reducible refine (Jy.calls k1 ((Z6 Zy Jk).f0) ((Z6 Zy Jk).f1) ((Z6 Zy Jk).f2) Jve Jvf Jvg Jvh Jvi Jvj Jvk Jvl Jvm Jvn Jvo Jvp false _ A7.out).mono ?_);rintro e w20 ⟨rfl,hb⟩;refine ⟨_,rfl,?_⟩;replace Wj := Za.mk (Zw (g := G6) (o := .cells #[.int .i64 Z5,.string Jb,.string Jc,.bool Jt,.slice Vw Jd.length Vu,.string Jn,.string Jm,.slice (some Zio) Zy.length Vv] 29 (0,0)) Wp hb);replace Zin := Za.mk (Zw (g := M4) (o := .cells #[.string ((Z6 Zy Jk).f0),.int .i64 ((Z6 Zy Jk).f1),.string ((Z6 Zy Jk).f2)] 44 (0,0)) Yb hb);replace HB := Za.mk (Zm Vz hb);(try clear hb);(try clear hb2);(try clear hk);(try clear hi)) | ((with_reducible refine Jg (N := 5) rfl ?_);(try (refine Jr (by rfl) ?_;dsimp only));refine Je ?hg (N := 5) ?hd (cs := #[.int .i64 0,.string (⟨#[]⟩ : ByteArray),.bool false,.string (⟨#[]⟩ : ByteArray),.int .i64 0,.int .i64 0,.int .i64 0,.int .i64 0,.bool false,.bool false,.int .i64 0,.int .i64 0]) (t := 51) ?hr ?_;(case hd => rfl);(case hg => rfl);(case hr => exact Q0);intro dn hg w21 hbox hb;have Jfm := Za.mk (hbox);have Jvu := Za.mk (((by rw [hg];exact (Jh Vz)) : w.heap.size ≤ dn));have Jme := Za.mk (((by rw [hg];exact (Jh Vz)) : w.heap.size ≤ dn));replace HB := Za.mk (Zm Vz hb);have Qk := Za.mk ((Xu : G6 ≠ dn));have Zk4 := Za.mk ((Qg : dn ≠ G6));replace Wj := Za.mk (Zw (g := G6) (o := .cells #[.int .i64 Z5,.string Jb,.string Jc,.bool Jt,.slice Vw Jd.length Vu,.string Jn,.string Jm,.slice (some Zio) Zy.length Vv] 29 (0,0)) J5 hb);have Zk5 := Za.mk ((Ye : M4 ≠ dn));have Zk6 := Za.mk ((Pd : dn ≠ M4));replace Zin := Za.mk (Zw (g := M4) (o := .cells #[.string ((Z6 Zy Jk).f0),.int .i64 ((Z6 Zy Jk).f1),.string ((Z6 Zy Jk).f2)] 44 (0,0)) Dx hb);clear hb hbox hg;have Jvx := Zk4.out;have Jvy := Qk.out;have Vgq := Zk6.out;have Vgr := Zk5.out;obtain ⟨Wq,Ws,Wt,Ri,Rj,Rk,Rl,Rm,Zm8,Zm9,Zgw,Zgx,Wu,Wv,Ww,Rn,Ro,Rp,Rq,Rs,Zna,Znb,Zgy,Zgz⟩ := Xk Jfm.out))
       go_ret
       exact ⟨Qw,Xv⟩
     ·rw [if_neg c6] at H
      exact absurd H (by simp)
    ·rw [if_neg c5] at H
     exact absurd H (by simp)
   ·rw [if_neg c4] at H
    have Sj : decide (Jk < (Zy.length : Int)) = false := decide_eq_false c4
    clear c4
    have Jpk := Za.mk H
    clear H
    go_upto_region 8 with (fail)
    go_cut [7] (fun v7 wc => ∃ (kq : Nat) (Zt1 : Bool),v7 = .bool Zt1 ∧ Za (Zu.j1 kq Zt1 Z5 Jb Jc Jt Jd Jn Jm Zy = some r) ∧ Za (kq ≤ k1) ∧ Za (wc.heap[G6]? = some (.cells #[.int .i64 Z5,.string Jb,.string Jc,.bool Jt,(.slice Vw Jd.length Vu),.string Jn,.string Jm,(.slice Xf Zy.length Vv)] 29 (0,0))) ∧ Za (Below w.heap.size w wc))
    case first =>
     have H := Jpk.out
     clear Jpk
     by_cases c26 : Jn.toList = ([] : List UInt8)
     ·rw [if_pos c26] at H
      have di : (Jn.toList == ([] : List UInt8)) = true := beq_iff_eq.mpr c26
      have Zrb : (Jn.toList != ([] : List UInt8)) = false := bne_eq_false_iff_eq.mpr c26
      clear c26
      (first | rw [di] | (simp only [Jo,Jq];rw [di]) | skip)
      by_cases c27 : Jm.toList = ([] : List UInt8)
      ·rw [if_pos c27] at H
       have Zrc : (Jm.toList == ([] : List UInt8)) = true := beq_iff_eq.mpr c27
       have Zrd : (Jm.toList != ([] : List UInt8)) = false := bne_eq_false_iff_eq.mpr c27
       clear c27
       have H' := Za.mk H
       clear H
       obtain ⟨l6,l8,l9,Zhs,Zht,Zhu,Zhv,Zhw,mf,mg,mh,Zhx,Zhy,Zhz,Zh0,Zh1⟩ := Jf Wj.out
       go_wp2
       go_meet
       case rel => exact ⟨_,(decide ((Zy.length : Int) > 0)),Sy,H',⟨(by have := HK1.out;first | omega | exact Nat.le_refl _)⟩,⟨J5⟩,⟨Vh⟩⟩
      ·rw [if_neg c27] at H
       have Zrc : (Jm.toList == ([] : List UInt8)) = false := beq_eq_false_iff_ne.mpr c27
       have Zrd : (Jm.toList != ([] : List UInt8)) = true := bne_iff_ne.mpr c27
       have H' := Za.mk H
       clear H
       obtain ⟨Mh,Mi,Mj,Mk,Ml,Mm,Mo,Mq,Mr,Ms,Mt,Mv,Mw,Mx,M0,M3⟩ := Jf Wj.out
       go_wp2
       go_meet
       case rel => exact ⟨_,(true),Sy,H',⟨(by have := HK1.out;first | omega | exact Nat.le_refl _)⟩,⟨J5⟩,⟨Vh⟩⟩
     ·rw [if_neg c26] at H
      have di : (Jn.toList == ([] : List UInt8)) = false := beq_eq_false_iff_ne.mpr c26
      have Zrb : (Jn.toList != ([] : List UInt8)) = true := bne_iff_ne.mpr c26
      (first | rw [di] | (simp only [Jo,Jq];rw [di]) | skip)
      have H' := Za.mk H
      clear H
      obtain ⟨Dy,Dz,D5,Gd,Gf,Gg,Gh,Gi,D6,D7,D8,Gj,Gl,Gm,Gn,Gp⟩ := Jf Wj.out
      go_wp2
      go_meet
      case rel => exact ⟨_,(true),Sy,H',⟨(by have := HK1.out;first | omega | exact Nat.le_refl _)⟩,⟨J5⟩,⟨Vh⟩⟩
    case rest =>
     clear Jpk
     try clear c1
     try clear c2
     try clear p2 p2
     try clear q2
     try clear hx2
     try clear c4
     try clear Sj
     try clear c5
     try clear wo
     try clear c6
     try clear Zk2
     try clear p6
     try clear c8
     try clear c10
     try clear c12
     try clear c14
     try clear c15
     try clear c18
     try clear Pq
     try clear c23
     try clear p25
     try clear q25
     try clear hx25
     try clear c26
     try clear di
     try clear Zrb
     try clear c27
     try clear Zrc
     try clear Zrd
     try clear vo vv vw
     try clear Rt Ru Z1f Z1g Rv Zhg Zhh Zhi Zhj Zhk Z7r Z7s
     try clear Zdj Zdk Zdl
     try clear Wq Ws Zgw Zgx Wt Ri Rj Rk Rl Rm Zm8 Zm9
     try clear l6 l8 l9 Zhs Zht Zhu Zhv Zhw
     try clear Mh Mi Mj Mk Ml Mm Mo Mq
     try clear Dy Dz D5 Gd Gf Gg Gh Gi
     try clear Zqb Zqc Zqd Zqe Zqf Zqg Zqh Zqi
     try clear vz yc yf
     try clear Rw Rx Z1h Z1i Ry Zhl Zhm Zhn Zho Zhp Z7t Z7u
     try clear Zdm Zdn Zdo
     try clear Wu Wv Zgy Zgz Ww Rn Ro Rp Rq Rs Zna Znb
     try clear mf mg mh Zhx Zhy Zhz Zh0 Zh1
     try clear Mr Ms Mt Mv Mw Mx M0 M3
     try clear D6 D7 D8 Gj Gl Gm Gn Gp
     try clear Zqj Zqk Zql Zqm Zqn Zqo Zqp Zqq
     try clear Tq
     try clear Tt
     try clear Tu
     try clear Zwy
     try clear Zwz
     obtain ⟨kq,Zt1,rfl,HA,Jvz,Wj,HB⟩ := hcut
     cases kq with
     | zero => exact absurd HA.out (by simp [Zu.j1])
     | succ Vcz =>
      have H := HA.out
      clear HA
      simp only [Zu.j1] at H
      have Jpl := Za.mk H
      clear H
      go_upto_region 9 with (fail)
      go_cut [8] (fun v8 wc => ∃ (kq : Nat) (Z1j : Bool),v8 = .bool Z1j ∧ Za (Zu.j2 kq Zt1 Z1j Z5 Jb Jc Jt Jd Jn Jm Zy = some r) ∧ Za (kq ≤ Vcz) ∧ Za (wc.heap[G6]? = some (.cells #[.int .i64 Z5,.string Jb,.string Jc,.bool Jt,(.slice Vw Jd.length Vu),.string Jn,.string Jm,(.slice Xf Zy.length Vv)] 29 (0,0))) ∧ Za (Below w.heap.size w wc))
      case first =>
       have H := Jpl.out
       clear Jpl
       by_cases c32 : Jc.toList = ([] : List UInt8)
       ·rw [if_pos c32] at H
        have Zry : (Jc.toList == ([] : List UInt8)) = true := beq_iff_eq.mpr c32
        have Jmf : (Jc.toList != ([] : List UInt8)) = false := bne_eq_false_iff_eq.mpr c32
        clear c32
        (first | rw [Zry] | (simp only [Jo,Jq];rw [Zry]) | skip)
        have H' := Za.mk H
        clear H
        obtain ⟨Uz,U0,U1,Wx,Wy,Wz,W9,Da,U2,U3,U4,Db,Dc,De,Df,Dg⟩ := Jf Wj.out
        go_wp2
        go_meet
        case rel => exact ⟨_,(Jt),Sy,H',⟨(by have := HK1.out;have := Jvz.out;first | omega | exact Nat.le_refl _)⟩,⟨J5⟩,⟨Vh⟩⟩
       ·rw [if_neg c32] at H
        have Zry : (Jc.toList == ([] : List UInt8)) = false := beq_eq_false_iff_ne.mpr c32
        have Jmf : (Jc.toList != ([] : List UInt8)) = true := bne_iff_ne.mpr c32
        (first | rw [Zry] | (simp only [Jo,Jq];rw [Zry]) | skip)
        have H' := Za.mk H
        clear H
        obtain ⟨Zu2,Zu3,Zu4,Zu5,Zu6,Zu7,Zu8,Zu9,Zva,Zvb,Zvc,Zvd,Zve,Zvf,Zvg,Zvh⟩ := Jf Wj.out
        go_wp2
        go_meet
        case rel => exact ⟨_,(true),Sy,H',⟨(by have := HK1.out;have := Jvz.out;first | omega | exact Nat.le_refl _)⟩,⟨J5⟩,⟨Vh⟩⟩
      case rest =>
       clear Jpl
       try clear c1
       try clear c2
       try clear p2 p2
       try clear q2 q2
       try clear hx2
       try clear c3
       try clear c4
       try clear Sj
       try clear c5
       try clear wo
       try clear c6
       try clear Zk2
       try clear p6 p6
       try clear c8
       try clear c10
       try clear c12
       try clear c14
       try clear c15
       try clear c18
       try clear Pq
       try clear c23
       try clear p25 p25
       try clear q25 q25
       try clear hx25
       try clear c26
       try clear di
       try clear Zrb
       try clear c27
       try clear Zrc
       try clear Zrd
       try clear c32
       try clear Zry
       try clear Jmf
       try clear vo vv vw
       try clear Rt Ru Z1f Z1g Rv Zhg Zhh Zhi Zhj Zhk Z7r Z7s
       try clear Zdj Zdk Zdl
       try clear Wq Ws Zgw Zgx Wt Ri Rj Rk Rl Rm Zm8 Zm9
       try clear l6 l8 l9 Zhs Zht Zhu Zhv Zhw
       try clear Mh Mi Mj Mk Ml Mm Mo Mq
       try clear Dy Dz D5 Gd Gf Gg Gh Gi
       try clear Uz U0 U1 Wx Wy Wz W9 Da
       try clear Zu2 Zu3 Zu4 Zu5 Zu6 Zu7 Zu8 Zu9
       try clear Zqb Zqc Zqd Zqe Zqf Zqg Zqh Zqi
       try clear vz yc yf
       try clear Rw Rx Z1h Z1i Ry Zhl Zhm Zhn Zho Zhp Z7t Z7u
       try clear Zdm Zdn Zdo
       try clear Wu Wv Zgy Zgz Ww Rn Ro Rp Rq Rs Zna Znb
       try clear mf mg mh Zhx Zhy Zhz Zh0 Zh1
       try clear Mr Ms Mt Mv Mw Mx M0 M3
       try clear D6 D7 D8 Gj Gl Gm Gn Gp
       try clear U2 U3 U4 Db Dc De Df Dg
       try clear Zva Zvb Zvc Zvd Zve Zvf Zvg Zvh
       try clear Zqj Zqk Zql Zqm Zqn Zqo Zqp Zqq
       try clear Tq
       try clear Tt
       try clear Tu
       try clear Zwy
       try clear Zwz
       obtain ⟨kq,Z1j,rfl,HA,Vj3,Wj,HB⟩ := hcut
       cases kq with
       | zero => exact absurd HA.out (by simp [Zu.j2])
       | succ Vj4 =>
        have H := HA.out
        clear HA
        simp only [Zu.j2] at H
        by_cases jc : Z5 = 0
        ·rw [if_pos jc] at H
         have Za4 : (Z5 == 0) = true := beq_iff_eq.mpr jc
         have Zfg : (Z5 != 0) = false := bne_eq_false_iff_eq.mpr jc
         clear jc
         by_cases c36 : Zt1 = true
         ·subst c36
          have H1 : (some false) = some r := by rw [if_pos rfl] at H;exact H
          clear H
          have H := H1
          clear H1
          obtain rfl := Option.some.inj H
          obtain ⟨mi,mo,mq,mr,ng,ni,nk,nu,ny,nz,pg,pq,pu,pz,p8,p9⟩ := Jf Wj.out
          go_wp2
          go_ret
          exact ⟨Qw,Vh⟩
         ·replace c36 := Bool.eq_false_iff.mpr c36
          subst c36
          have H1 : (some ((Jd.length : Int) == 0)) = some r := by rw [if_neg (show ¬ (false = true) by decide)] at H;exact H
          clear H
          have H := H1
          clear H1
          obtain rfl := Option.some.inj H
          obtain ⟨J7w,J7x,J7y,J7z,J70,J71,J72,J73,J74,J75,J76,J77,J78,J79,J8a,J8b⟩ := Jf Wj.out
          go_wp2
          go_ret
          exact ⟨Qw,Vh⟩
        ·rw [if_neg jc] at H
         have Za4 : (Z5 == 0) = false := beq_eq_false_iff_ne.mpr jc
         have Zfg : (Z5 != 0) = true := bne_iff_ne.mpr jc
         by_cases c39 : Z5 = 1
         ·rw [if_pos c39] at H
          have Jv0 : (Z5 == 1) = true := beq_iff_eq.mpr c39
          have Jv1 : (Z5 != 1) = false := bne_eq_false_iff_eq.mpr c39
          clear c39
          by_cases c40 : Zt1 = true
          ·subst c40
           have H1 : (some false) = some r := by rw [if_pos rfl] at H;exact H
           clear H
           have H := H1
           clear H1
           obtain rfl := Option.some.inj H
           obtain ⟨Zc0,Zc1,Zc2,Zc3,Zc4,Zc5,Zc6,Zc7,Zc8,Zc9,Zda,Zdb,Zdc,Zdd,Zde,Zdf⟩ := Jf Wj.out
           go_wp2
           go_ret
           exact ⟨Qw,Vh⟩
          ·replace c40 := Bool.eq_false_iff.mpr c40
           subst c40
           have H1 : (some (!Z1j)) = some r := by rw [if_neg (show ¬ (false = true) by decide)] at H;exact H
           clear H
           have H := H1
           clear H1
           obtain rfl := Option.some.inj H
           obtain ⟨Z5j,Z5k,Z5l,J8c,J8d,J8e,J8f,J8g,Z5m,Z5n,Z5o,J8h,J8i,J8j,J8k,J8l⟩ := Jf Wj.out
           go_wp2
           go_ret
           exact ⟨Qw,Vh⟩
         ·rw [if_neg c39] at H
          have Jv0 : (Z5 == 1) = false := beq_eq_false_iff_ne.mpr c39
          have Jv1 : (Z5 != 1) = true := bne_iff_ne.mpr c39
          by_cases c43 : Z5 = 2
          ·rw [if_pos c43] at H
           have Zrf : (Z5 == 2) = true := beq_iff_eq.mpr c43
           have Z00 : (Z5 != 2) = false := bne_eq_false_iff_eq.mpr c43
           clear c43
           by_cases c44 : Z1j = true
           ·subst c44
            have H1 : (some false) = some r := by rw [if_pos rfl] at H;exact H
            clear H
            have H := H1
            clear H1
            obtain rfl := Option.some.inj H
            obtain ⟨yh,yj,yl,ym,yn,yo,yt,yu,yw,yx,yz,xc,xe,xg,xh,xk⟩ := Jf Wj.out
            go_wp2
            go_ret
            exact ⟨Qw,Vh⟩
           ·replace c44 := Bool.eq_false_iff.mpr c44
            subst c44
            have H1 : (if Jb.toList = ([] : List UInt8) then (some ((Jd.length : Int) == 0)) else (some false)) = some r := by rw [if_neg (show ¬ (false = true) by decide)] at H;exact H
            clear H
            have H := H1
            clear H1
            by_cases c46 : Jb.toList = ([] : List UInt8)
            ·rw [if_pos c46] at H
             have Jv2 : (Jb.toList == ([] : List UInt8)) = true := beq_iff_eq.mpr c46
             have Jv3 : (Jb.toList != ([] : List UInt8)) = false := bne_eq_false_iff_eq.mpr c46
             clear c46
             obtain rfl := Option.some.inj H
             obtain ⟨S9,Ta,Tc,Zic,Zid,Zie,Zif,Zig,Td,Te,Tf,Zih,Zii,Zij,Zik,Zil⟩ := Jf Wj.out
             go_wp2
             go_ret
             exact ⟨Qw,Vh⟩
            ·rw [if_neg c46] at H
             have Jv2 : (Jb.toList == ([] : List UInt8)) = false := beq_eq_false_iff_ne.mpr c46
             have Jv3 : (Jb.toList != ([] : List UInt8)) = true := bne_iff_ne.mpr c46
             obtain rfl := Option.some.inj H
             obtain ⟨Zg8,Zg9,Zha,Zns,Znt,Znu,Znv,Znw,Zhb,Zhc,Zhd,Znx,Zny,Znz,Zn0,Zn1⟩ := Jf Wj.out
             go_wp2
             go_ret
             exact ⟨Qw,Vh⟩
          ·rw [if_neg c43] at H
           have Zrf : (Z5 == 2) = false := beq_eq_false_iff_ne.mpr c43
           have Z00 : (Z5 != 2) = true := bne_iff_ne.mpr c43
           obtain rfl := Option.some.inj H
           obtain ⟨Pj,Pk,Pm,xn,xq,xu,xw,xx,Pn,Po,Pp,xy,xz,qa,qb,qc⟩ := Jf Wj.out
           go_wp2
           go_ret
           exact ⟨Qw,Vh⟩
end Go.Proofs.YtdhpcofnddkcaaaGreatDoor.S
namespace Go.Proofs.YtdhpcofnddkcaaaGreatDoor.S
open Go.RowKit Go.Proofs.YtdhpcofnddkcaaaGreatDoor.G Go.Proofs.YtdhpcofnddkcaaaGreatDoorW.PrintWords Go.Proofs.YtdhpcofnddkcaaaGreatDoorW.PrintLast Go.Proofs.YtdhpcofnddkcaaaGreatDoorW.PrintMore
set_option linter.unusedVariables false
set_option linter.unusedSimpArgs false
def Z0.f (a0 : ByteArray) : Option (ByteArray) := (strconv_Itoa.f (a0.size : Int)).bind fun Tv => (if Tv.size + 1 ≤ 9223372036854775807 then (if (Tv ++ (⟨#[58]⟩ : ByteArray)).size + a0.size ≤ 9223372036854775807 then (if ((Tv ++ (⟨#[58]⟩ : ByteArray)) ++ a0).size + 1 ≤ 9223372036854775807 then (some (((Tv ++ (⟨#[58]⟩ : ByteArray)) ++ a0) ++ (⟨#[44]⟩ : ByteArray))) else (none)) else (none)) else (none))
set_option maxHeartbeats 8000000 in
set_option maxRecDepth 100000 in
theorem Z0.calls (a0 : ByteArray) (r : ByteArray) (w : World) (h : Z0.f a0 = some r) (Ue : Yg w := by exact Yg.step Ue (by repeat (first | (with_reducible first | exact HB.out | apply Z4 | apply Zr | apply Zz | refine Z8 ?_ (Za.out (by assumption))) | exact HB.out))) :
    Calls Tryz.prog 19 #[.string a0] w fun e w' => e = .returned (.string r) ∧ Below w.heap.size w w' := by
  have HB := Za.mk (Below.refl w.heap.size w)
  have H : ((strconv_Itoa.f (a0.size : Int)).bind fun Tv => (if Tv.size + 1 ≤ 9223372036854775807 then (if (Tv ++ (⟨#[58]⟩ : ByteArray)).size + a0.size ≤ 9223372036854775807 then (if ((Tv ++ (⟨#[58]⟩ : ByteArray)) ++ a0).size + 1 ≤ 9223372036854775807 then (some (((Tv ++ (⟨#[58]⟩ : ByteArray)) ++ a0) ++ (⟨#[44]⟩ : ByteArray))) else (none)) else (none)) else (none))) = some r := h
  clear h
  replace H := Option.bind_eq_some_iff.mp H
  obtain ⟨Tv,A20,H⟩ := H
  replace H : (if Tv.size + 1 ≤ 9223372036854775807 then (if (Tv ++ (⟨#[58]⟩ : ByteArray)).size + a0.size ≤ 9223372036854775807 then (if ((Tv ++ (⟨#[58]⟩ : ByteArray)) ++ a0).size + 1 ≤ 9223372036854775807 then (some (((Tv ++ (⟨#[58]⟩ : ByteArray)) ++ a0) ++ (⟨#[44]⟩ : ByteArray))) else (none)) else (none)) else (none)) = some r := H
  have A2 := Za.mk A20
  clear A20
  by_cases c3 : Tv.size + 1 ≤ 9223372036854775807
  · rw [if_pos c3] at H
    have ww := eq_true c3
    have Zg1 : decide (Tv.size + 1 ≤ 9223372036854775807) = true := decide_eq_true c3
    try have Vci : (9223372036854775807 < Tv.size + 1) = False := eq_false (Nat.not_lt.2 c3)
    by_cases c4 : (Tv ++ (⟨#[58]⟩ : ByteArray)).size + a0.size ≤ 9223372036854775807
    · rw [if_pos c4] at H
      have Sj := eq_true c4
      try have c4n := c4
      try simp only [ByteArray.size_append,show (⟨#[58]⟩ : ByteArray).size = 1 from rfl] at c4n
      try have c4m := eq_false (Nat.not_lt.2 c4n)
      try have c4k := eq_true c4n
      have Zgi : decide ((Tv ++ (⟨#[58]⟩ : ByteArray)).size + a0.size ≤ 9223372036854775807) = true := decide_eq_true c4
      try have Vcj : (9223372036854775807 < (Tv ++ (⟨#[58]⟩ : ByteArray)).size + a0.size) = False := eq_false (Nat.not_lt.2 c4)
      by_cases c5 : ((Tv ++ (⟨#[58]⟩ : ByteArray)) ++ a0).size + 1 ≤ 9223372036854775807
      · rw [if_pos c5] at H
        have wo := eq_true c5
        try have c5n := c5
        try simp only [ByteArray.size_append,show (⟨#[58]⟩ : ByteArray).size = 1 from rfl] at c5n
        try have c5m := eq_false (Nat.not_lt.2 c5n)
        try have c5k := eq_true c5n
        have Zsu : decide (((Tv ++ (⟨#[58]⟩ : ByteArray)) ++ a0).size + 1 ≤ 9223372036854775807) = true := decide_eq_true c5
        try have Vck : (9223372036854775807 < ((Tv ++ (⟨#[58]⟩ : ByteArray)) ++ a0).size + 1) = False := eq_false (Nat.not_lt.2 c5)
        obtain rfl := Option.some.inj H
        go_enter Tryz.func19,Tryz.ntmps19
        go_wp2_with (first | ((with_reducible refine Z7 (f := 20) rfl ?_);refine Ju (some 5) rfl rfl Tryz.func20 (by kernel_rfl) rfl #[.int .i64 (a0.size : Int)] rfl (by (try simp only [List.map_toArray,List.map_cons,List.map_nil]);first | done | rfl | (simp only [List.length_drop,List.length_take];rfl)) ?_;(with_reducible refine (strconv_Itoa.calls (a0.size : Int) Tv _ A2.out).mono ?_);rintro e w6 ⟨rfl,hb⟩;refine ⟨_,rfl,?_⟩;have Gt := Za.mk (Zm (by repeat (first | (with_reducible first | exact HB.out | apply Z4 | apply Zr | apply Zz) | exact HB.out)) hb);clear HB;have HB := Gt;clear Gt;(try clear hb);(try clear hb2);(try clear hk);(try clear hi)))
        go_ret
        exact ⟨by first | rfl | (simp [Vd,Ve] <;> rfl) | (simp [*,Vd,Ve] <;> rfl),by repeat (first | (with_reducible first | exact HB.out | apply Z4 | apply Zr | apply Zz) | exact HB.out)⟩
      · rw [if_neg c5] at H
        exact absurd H (by simp)
    · rw [if_neg c4] at H
      exact absurd H (by simp)
  · rw [if_neg c3] at H
    exact absurd H (by simp)
end Go.Proofs.YtdhpcofnddkcaaaGreatDoor.S
namespace Go.Proofs.YtdhpcofnddkcaaaGreatDoor.S
open Go.RowKit Go.Proofs.YtdhpcofnddkcaaaGreatDoor.G Go.Proofs.YtdhpcofnddkcaaaGreatDoorW.PrintWords Go.Proofs.YtdhpcofnddkcaaaGreatDoorW.PrintLast Go.Proofs.YtdhpcofnddkcaaaGreatDoorW.PrintMore
set_option linter.unusedVariables false
set_option linter.unusedSimpArgs false
theorem Zrz (s : Xx) (k : Nat) (hk : 3 ≤ k) (l : List Y4) (n i : Int) (hi : ¬ i < n) : Zu.l0 k l n i s.f0 s.f1 s.f2 s.f3 s.f4 s.f5 s.f6 s.f7 = some (Zkz s) := by
  obtain ⟨m,rfl⟩ : ∃ m,k = m + 1 + 1 + 1 := ⟨k - 3,by omega⟩
  have h4 : (s.f4.length : Int) = 0 ∨ (s.f4.length : Int) > 0 := by omega
  have h7 : (s.f7.length : Int) = 0 ∨ (s.f7.length : Int) > 0 := by omega
  rw [Zu.l0,if_neg hi]
  simp only [Zu.j1,Zu.j2]
  unfold Zkz
  simp only [Jfc,Zl5,Zl6]
  generalize (s.f7.length : Int) = n7 at *
  generalize (s.f4.length : Int) = n4 at *
  obtain ⟨f0,f1,f2,f3,f4,f5,f6,f7⟩ := s
  have e7 : (n7 > 0) = ¬ (n7 = 0) := by
    rw [eq_iff_iff]
    omega
  simp only [e7] at *
  have hf : f0 = 0 ∨ f0 = 1 ∨ f0 = 2 ∨ (f0 ≠ 0 ∧ f0 ≠ 1 ∧ f0 ≠ 2) := by omega
  rcases hf with rfl | rfl | rfl | ⟨g0,g1,g2⟩
  · by_cases c4 : n4 = 0 <;> by_cases c5 : f5.toList = [] <;> by_cases c6 : f6.toList = [] <;> by_cases c7 : n7 = 0 <;> by_cases c2 : f2.toList = [] <;> simp [c2,c4,c5,c6,c7]
  · cases f3 <;> by_cases c2 : f2.toList = [] <;> by_cases c5 : f5.toList = [] <;> by_cases c6 : f6.toList = [] <;> by_cases c7 : n7 = 0 <;> simp [c2,c5,c6,c7]
  · cases f3 <;> by_cases c2 : f2.toList = [] <;> by_cases c1 : f1.toList = [] <;> by_cases c4 : n4 = 0 <;> by_cases c5 : f5.toList = [] <;> by_cases c6 : f6.toList = [] <;> simp [c1,c2,c4,c5,c6]
  · by_cases c2 : f2.toList = [] <;> by_cases c5 : f5.toList = [] <;> by_cases c6 : f6.toList = [] <;> simp [c2,c5,c6,g0,g1,g2]
theorem Z33 (s : Xx) (l : List Y4) (hl : l.length ≤ 1000000) (k0 : Nat) (hv : ∀ k,k0 ≤ k → ∀ a ∈ l,Jy.f k a.f0 a.f1 a.f2 = some (Zvp a.f1 a.f2)) : ∀ (d i : Nat),l.length - i ≤ d → i ≤ l.length → ∀ k,k0 + d + 3 ≤ k →
    Zu.l0 k l (l.length : Int) (i : Int) s.f0 s.f1 s.f2 s.f3 s.f4 s.f5 s.f6 s.f7 = some ((l.drop i).all okS && Zkz s) := by
  intro d
  induction d with
  | zero =>
    intro i h1 h2 k hk
    rw [Zrz s k (by omega) _ _ _ (by omega),List.drop_of_length_le (by omega)]
    rfl
  | succ d ih =>
    intro i h1 h2 k hk
    by_cases hi : i < l.length
    · obtain ⟨m,rfl⟩ : ∃ m,k = m + 1 := ⟨k - 1,by omega⟩
      rw [Zu.l0,if_pos (by omega),if_pos (by omega),if_pos (by omega),Jfa l i hi,hv m (by omega) _ (List.getElem_mem hi),Option.bind_some,Z7q,Z02 l i hi]
      cases h : okS l[i]
      · rfl
      · rw [if_pos rfl,l5 _ (by omega) (by omega),show (i : Int) + 1 = ((i + 1 : Nat) : Int) by omega,ih (i + 1) (by omega) (by omega) m (by omega)]
        rfl
    · rw [Zrz s k (by omega) _ _ _ (by omega),List.drop_of_length_le (by omega)]
      rfl
theorem Jfn (s : Xx) (hl : s.f7.length ≤ 1000000) (hs : ∀ a ∈ s.f7,a.f2.size ≤ 100000) : ∃ k0,∀ k,k0 ≤ k → Zu.f k s.f0 s.f1 s.f2 s.f3 s.f4 s.f5 s.f6 s.f7 = some (Kq s) := by
  obtain ⟨k0,hv⟩ := Z03 s.f7 hl hs
  refine ⟨k0 + s.f7.length + 3,fun k hk => ?_⟩
  unfold Zu.f
  have := Z33 s s.f7 hl k0 hv s.f7.length 0 (by omega) (by omega) k hk
  rw [List.drop_zero] at this
  rw [Zk0]
  exact this
theorem Hm (t : ByteArray) (ht : t.size ≤ 1000000) : Z0.f t = some (Net.bs (Net.V4 t)) := by
  have hz : t.size = (bl t).length := sz t
  have hz : t.size = (bl t).length := sz t
  unfold Z0.f strconv_Itoa.f
  rw [if_pos (by omega),Option.bind_some,Lib.itoa_nonneg]
  have hd : (Lib.decDigits t.size).length ≤ 20 := Jmd t.size ht
  have h1 : (⟨(Lib.decDigits t.size).toArray⟩ : ByteArray).size = (Lib.decDigits t.size).length := sz _
  rw [if_pos (by rw [h1];omega),if_pos (by rw [Zfq,h1];show _ + 1 + _ ≤ _;omega),if_pos (by rw [Zfq,Zfq,h1];show _ + 1 + _ + 1 ≤ _;omega)]
  refine congrArg some (jd ?_)
  rw [wu,wu,wu]
  show Lib.decDigits t.size ++ [58] ++ bl t ++ [44] = bl (Net.bs (Net.V4 t))
  have : bl (Net.bs (Net.V4 t)) = Net.V4 t := Net.Zbi _
  rw [this]
  unfold Net.V4 Net.enc
  rw [hz]
  simp
end Go.Proofs.YtdhpcofnddkcaaaGreatDoor.S
