/- polyglotlaw18.ScriptBytes: for every slice of steps the call returns true and leaves it unchanged. (Names shortened by a program.) (Text 6 of 10: what the law's proof rests on, joined; walks printed by the kit's print over given contracts, walks and plain laws by hand.) -/
import Derived.SizedLaws
import Derived.Deep.Slices
import Derived.Deep.Fields
import Derived.Test.YtdhpcofnddkcaaaGreatDoorProg
import Derived.Lib.FrozenHead2
import Derived.Lib.OthersKept
import Derived.Lib.Buffer
import Derived.WalkKit
import Derived.BigCall
import Derived.BigGuard
import Derived.RowKit
import Derived.KernelRfl
import Derived.Test.YtdhpcofnddkcaaaGreatDoorByt0
import Derived.Test.YtdhpcofnddkcaaaGreatDoorByt1
import Derived.Test.YtdhpcofnddkcaaaGreatDoorByt2
import Derived.Test.YtdhpcofnddkcaaaGreatDoorByt3
import Derived.Test.YtdhpcofnddkcaaaGreatDoorByt4
namespace Go.Proofs.YtdhpcofnddkcaaaGreatDoor.S
open Go.RowKit Go.Proofs.YtdhpcofnddkcaaaGreatDoor.G Go.Proofs.YtdhpcofnddkcaaaGreatDoorW.PrintWords Go.Proofs.YtdhpcofnddkcaaaGreatDoorW.PrintLast Go.Proofs.YtdhpcofnddkcaaaGreatDoorW.PrintMore
set_option linter.unusedVariables false
set_option linter.unusedSimpArgs false
namespace Jv4
theorem Va {w : World} {g : Nat} {t : TypeId} {a0 a1 a2 : Value} (h : w.heap[g]? = some (.cells #[a0,a1,a2] t (0,0))) : w.cell? ⟨g,0,none⟩ = some a0 ∧ w.cell? ⟨g,1,none⟩ = some a1 ∧ w.cell? ⟨g,2,none⟩ = some a2 ∧ w.frozen? ⟨g,0,none⟩ = false ∧ w.frozen? ⟨g,1,none⟩ = false ∧ w.frozen? ⟨g,2,none⟩ = false := ⟨(Zd h 0).trans rfl,(Zd h 1).trans rfl,(Zd h 2).trans rfl,Zj h 0,Zj h 1,Zj h 2⟩
theorem Jf {w : World} {g : Nat} {t : TypeId} {a0 a1 a2 a3 a4 a5 a6 a7 : Value} (h : w.heap[g]? = some (.cells #[a0,a1,a2,a3,a4,a5,a6,a7] t (0,0))) : w.cell? ⟨g,0,none⟩ = some a0 ∧ w.cell? ⟨g,1,none⟩ = some a1 ∧ w.cell? ⟨g,2,none⟩ = some a2 ∧ w.cell? ⟨g,3,none⟩ = some a3 ∧ w.cell? ⟨g,4,none⟩ = some a4 ∧ w.cell? ⟨g,5,none⟩ = some a5 ∧ w.cell? ⟨g,6,none⟩ = some a6 ∧ w.cell? ⟨g,7,none⟩ = some a7 ∧ w.frozen? ⟨g,0,none⟩ = false ∧ w.frozen? ⟨g,1,none⟩ = false ∧ w.frozen? ⟨g,2,none⟩ = false ∧ w.frozen? ⟨g,3,none⟩ = false ∧ w.frozen? ⟨g,4,none⟩ = false ∧ w.frozen? ⟨g,5,none⟩ = false ∧ w.frozen? ⟨g,6,none⟩ = false ∧ w.frozen? ⟨g,7,none⟩ = false := ⟨(Zd h 0).trans rfl,(Zd h 1).trans rfl,(Zd h 2).trans rfl,(Zd h 3).trans rfl,(Zd h 4).trans rfl,(Zd h 5).trans rfl,(Zd h 6).trans rfl,(Zd h 7).trans rfl,Zj h 0,Zj h 1,Zj h 2,Zj h 3,Zj h 4,Zj h 5,Zj h 6,Zj h 7⟩
theorem Vh {p_ : Prop} (h_ : p_ := by repeat (first | (with_reducible first | exact HB.out | apply Z4 | apply Zr | apply Zz | refine Z8 ?_ Z7v.out) | exact HB.out)) : p_ := h_
theorem J5 {p_ : Prop} (h_ : p_ := by (with_reducible repeat (first | refine Zc ?_ _ | refine Zf ?_ | refine Zb ?_ _));exact Ji.out) : p_ := h_
theorem Vz {p_ : Prop} (h_ : p_ := by repeat (first | (with_reducible first | exact HB.out | apply Z4 | apply Zr | apply Zz | refine Z8 ?_ Z7v.out | refine Z8 ?_ Jv5.out) | exact HB.out)) : p_ := h_
theorem Yb {p_ : Prop} (h_ : p_ := by (try simp only [List.map_toArray,List.map_cons,List.map_nil]);first | done | rfl | (simp only [List.length_drop,List.length_take];rfl)) : p_ := h_
theorem Qw {p_ : Prop} (h_ : p_ := by repeat (first | (with_reducible first | exact HB.out | apply Z4 | apply Zr | apply Zz) | exact HB.out)) : p_ := h_
theorem Xu {p_ : Prop} (h_ : p_ := by (with_reducible repeat (first | refine Zc ?_ _ | refine Zf ?_ | refine Zb ?_ _));exact X3.out) : p_ := h_
theorem Qg {p_ : Prop} (h_ : p_ := by (with_reducible repeat (first | apply Kd.Yv | apply Kd.Yw | apply Kd.Xl));exact uz.out) : p_ := h_
theorem Dx {p_ : Prop} (h_ : p_ := by first | rfl | (simp;done) | (simp [*];done)) : p_ := h_
theorem Wp {p_ : Prop} (h_ : p_ := by first | (with_reducible assumption) | assumption) : p_ := h_
theorem Sy {p_ : Prop} (h_ : p_ := by first | rfl | (simp [Vd,Ve] <;> rfl) | (simp [*,Vd,Ve] <;> rfl)) : p_ := h_
theorem Qy {p_ : Prop} (h_ : p_ := by rw [hg];exact (Jh Qw)) : p_ := h_
theorem Q0 {p_ : Prop} (h_ : p_ := by first | (go_simp;done) | (go_simp;rfl)) : p_ := h_
end Jv4
open Jv4
mutual
def Zh.j0 : Nat → ByteArray → Int → ByteArray → ByteArray → Bool → List ByteArray → ByteArray → ByteArray → List (Y4) → Option (ByteArray)
 | 0,_,_,_,_,_,_,_,_,_ => none
 | k + 1,x3,J8m,Jjv,Jjw,J8n,J8o,J8p,J8q,J8r => (Z0.f (⟨#[97]⟩ : ByteArray)).bind fun Lb => ((Z0.f Jjv).bind fun Ho => (if Lb.size + Ho.size ≤ 9223372036854775807 then ((Z0.f x3).bind fun Tw => (if (Lb ++ Ho).size + Tw.size ≤ 9223372036854775807 then ((Z0.f Jjw).bind fun Zbb => (if ((Lb ++ Ho) ++ Tw).size + Zbb.size ≤ 9223372036854775807 then (some (((Lb ++ Ho) ++ Tw) ++ Zbb)) else (none))) else (none))) else (none)))
def Zh.l0 : Nat → ByteArray → List ByteArray → Int → Int → Option (ByteArray)
 | 0,_,_,_,_ => none
 | k + 1,x4,x42,x43,x44 => if x44 < x43 then (if 0 ≤ x44 then (if x44 < (x42.length : Int) then ((Z0.f (Ha ByteArray.empty x42 x44)).bind fun Zmn => (if x4.size + Zmn.size ≤ 9223372036854775807 then (Zh.l0 k (x4 ++ Zmn) x42 x43 (wrap64 (x44 + 1))) else (none))) else (none)) else (none)) else (some x4)
def Zh.l1 : Nat → ByteArray → List (Y4) → Int → Int → Option (ByteArray)
 | 0,_,_,_,_ => none
 | k + 1,x7,x70,x71,x72 => if x72 < x71 then (if 0 ≤ x72 then (if x72 < (x70.length : Int) then ((Z0.f ((Z6 x70 x72).f0)).bind fun Uf => (if x7.size + Uf.size ≤ 9223372036854775807 then ((some (([(⟨#[116]⟩ : ByteArray),(⟨#[110]⟩ : ByteArray),(⟨#[109]⟩ : ByteArray)] : List ByteArray) : List ByteArray)).bind fun jh => (if 0 ≤ ((Z6 x70 x72).f1) then (if ((Z6 x70 x72).f1) < (jh.length : Int) then ((Z0.f (Ha ByteArray.empty jh ((Z6 x70 x72).f1))).bind fun Dn => (if (x7 ++ Uf).size + Dn.size ≤ 9223372036854775807 then ((Z0.f ((Z6 x70 x72).f2)).bind fun Nu => (if ((x7 ++ Uf) ++ Dn).size + Nu.size ≤ 9223372036854775807 then (Zh.l1 k (((x7 ++ Uf) ++ Dn) ++ Nu) x70 x71 (wrap64 (x72 + 1))) else (none))) else (none))) else (none)) else (none))) else (none))) else (none)) else (none)) else (some x7)
end
def Zh.f (k : Nat) (Z5 : Int) (Jb : ByteArray) (Jc : ByteArray) (Jt : Bool) (Jd : List ByteArray) (Jn : ByteArray) (Jm : ByteArray) (Zy : List (Y4)) : Option (ByteArray) := if Z5 = 0 then (if Jt = true then (Zh.j0 k (⟨#[49]⟩ : ByteArray) Z5 Jb Jc Jt Jd Jn Jm Zy) else (Zh.j0 k (⟨#[48]⟩ : ByteArray) Z5 Jb Jc Jt Jd Jn Jm Zy)) else (if Z5 = 1 then ((Z0.f (⟨#[99]⟩ : ByteArray)).bind fun Nv => ((Z0.f Jb).bind fun M6 => (if Nv.size + M6.size ≤ 9223372036854775807 then ((strconv_Itoa.f (Jd.length : Int)).bind fun Zmo => ((Z0.f Zmo).bind fun jw => (if (Nv ++ M6).size + jw.size ≤ 9223372036854775807 then (Zh.l0 k ((Nv ++ M6) ++ jw) Jd (Jd.length : Int) 0) else (none)))) else (none)))) else ((Z0.f (⟨#[113]⟩ : ByteArray)).bind fun Dp => ((Z0.f Jn).bind fun Dh => (if Dp.size + Dh.size ≤ 9223372036854775807 then ((Z0.f Jm).bind fun Hq => (if (Dp ++ Dh).size + Hq.size ≤ 9223372036854775807 then ((strconv_Itoa.f (Zy.length : Int)).bind fun Zip => ((Z0.f Zip).bind fun Sl => (if ((Dp ++ Dh) ++ Hq).size + Sl.size ≤ 9223372036854775807 then (Zh.l1 k (((Dp ++ Dh) ++ Hq) ++ Sl) Zy (Zy.length : Int) 0) else (none)))) else (none))) else (none)))))
theorem Zh.Xy : ∀ k,(∀ y0 y1 y2 y3 y4 y5 y6 y7 y8,Jz (Zh.j0 k y0 y1 y2 y3 y4 y5 y6 y7 y8) (Zh.j0 (k + 1) y0 y1 y2 y3 y4 y5 y6 y7 y8)) ∧ (∀ y0 y1 y2 y3,Jz (Zh.l0 k y0 y1 y2 y3) (Zh.l0 (k + 1) y0 y1 y2 y3)) ∧ (∀ y0 y1 y2 y3,Jz (Zh.l1 k y0 y1 y2 y3) (Zh.l1 (k + 1) y0 y1 y2 y3))
 | 0 => ⟨fun _ _ _ _ _ _ _ _ _ r h => by simp [Zh.j0] at h,fun _ _ _ _ r h => by simp [Zh.l0] at h,fun _ _ _ _ r h => by simp [Zh.l1] at h⟩
 | k + 1 => by
  obtain ⟨ih0,ih1,ih2⟩ := Zh.Xy k
  refine ⟨?_,?_,?_⟩
  ·intro y0 y1 y2 y3 y4 y5 y6 y7 y8
   unfold Zh.j0
   repeat' first
   | (with_reducible exact ih0 _ _ _ _ _ _ _ _ _)
   | (with_reducible exact ih1 _ _ _ _)
   | (with_reducible exact ih2 _ _ _ _)
   | (with_reducible exact Jz.refl _)
   | (with_reducible exact Jz.none _)
   | (with_reducible refine Jz.ite ?_ ?_)
   | (with_reducible refine Jz.bind ?_ (fun _ => ?_))
   | exact ih0 _ _ _ _ _ _ _ _ _
   | exact ih1 _ _ _ _
   | exact ih2 _ _ _ _
   | exact Jz.none _
   | refine Jz.ite ?_ ?_
   | refine Jz.bind ?_ (fun _ => ?_)
  ·intro y0 y1 y2 y3
   unfold Zh.l0
   repeat' first
   | (with_reducible exact ih0 _ _ _ _ _ _ _ _ _)
   | (with_reducible exact ih1 _ _ _ _)
   | (with_reducible exact ih2 _ _ _ _)
   | (with_reducible exact Jz.refl _)
   | (with_reducible exact Jz.none _)
   | (with_reducible refine Jz.ite ?_ ?_)
   | (with_reducible refine Jz.bind ?_ (fun _ => ?_))
   | exact ih0 _ _ _ _ _ _ _ _ _
   | exact ih1 _ _ _ _
   | exact ih2 _ _ _ _
   | exact Jz.none _
   | refine Jz.ite ?_ ?_
   | refine Jz.bind ?_ (fun _ => ?_)
  ·intro y0 y1 y2 y3
   unfold Zh.l1
   repeat' first
   | (with_reducible exact ih0 _ _ _ _ _ _ _ _ _)
   | (with_reducible exact ih1 _ _ _ _)
   | (with_reducible exact ih2 _ _ _ _)
   | (with_reducible exact Jz.refl _)
   | (with_reducible exact Jz.none _)
   | (with_reducible refine Jz.ite ?_ ?_)
   | (with_reducible refine Jz.bind ?_ (fun _ => ?_))
   | exact ih0 _ _ _ _ _ _ _ _ _
   | exact ih1 _ _ _ _
   | exact ih2 _ _ _ _
   | exact Jz.none _
   | refine Jz.ite ?_ ?_
   | refine Jz.bind ?_ (fun _ => ?_)
theorem Zh.mono : ∀ a0 a1 a2 a3 a4 a5 a6 a7 k,Jz (Zh.f k a0 a1 a2 a3 a4 a5 a6 a7) (Zh.f (k + 1) a0 a1 a2 a3 a4 a5 a6 a7) := by
 intro a0 a1 a2 a3 a4 a5 a6 a7 k
 obtain ⟨ih0,ih1,ih2⟩ := Zh.Xy k
 unfold Zh.f
 repeat' first
   | (with_reducible exact ih0 _ _ _ _ _ _ _ _ _)
   | (with_reducible exact ih1 _ _ _ _)
   | (with_reducible exact ih2 _ _ _ _)
   | (with_reducible exact Jz.refl _)
   | (with_reducible exact Jz.none _)
   | (with_reducible refine Jz.ite ?_ ?_)
   | (with_reducible refine Jz.bind ?_ (fun _ => ?_))
   | exact ih0 _ _ _ _ _ _ _ _ _
   | exact ih1 _ _ _ _
   | exact ih2 _ _ _ _
   | exact Jz.none _
   | refine Jz.ite ?_ ?_
   | refine Jz.bind ?_ (fun _ => ?_)
def Zh.T5 : Bool × List (List Nat × List Nat) := (true,[([],[]),([],[]),([1],[1]),([2,0],[2]),([0,3],[0,3]),([],[]),([5,3],[5]),([4,6],[4,6]),([],[]),([8],[8]),([9,6],[9]),([7,10],[7,10]),([11,10,0,1,2,3,4,5,6,7,8,9,10,11],[11])])
def Zh.B5 : List Nat := [0,0,2,7,15,0,47,127,0,256,879,2047,4095]
theorem Zh.Vc0 : Uy .any (opsOf Tryz.f13 5) = Zh.T5 := by kernel_rfl
theorem Zh.Jv7 : Uj Zh.T5.2 Zh.B5 = true := by kernel_rfl
def Zh.T7 : Bool × List (List Nat × List Nat) := (true,[([],[]),([],[]),([1],[1]),([2,0],[2]),([0,3],[0,3]),([],[]),([5],[5]),([6],[6]),([7,3],[7]),([8,8],[8]),([4,9],[4,9]),([10,9,0,1,2,3,4,5,6,7,8,9,10],[10])])
def Zh.B7 : List Nat := [0,0,2,7,15,0,32,96,239,495,1023,2047]
theorem Zh.Vc1 : Uy .any (opsOf Tryz.f13 7) = Zh.T7 := by kernel_rfl
theorem Zh.Jv8 : Uj Zh.T7.2 Zh.B7 = true := by kernel_rfl
def Zh.T14 : Bool × List (List Nat × List Nat) := (true,[([],[]),([],[]),([1],[1]),([2,0],[2]),([0,3],[0,3]),([],[]),([5],[5]),([6,3],[6]),([4,7],[4,7]),([],[]),([9],[9]),([10],[10]),([11,7],[11]),([12,12],[12]),([8,13],[8,13]),([14,13,0,1,2,3,4,5,6,7,8,9,10,11,12,13,14],[14])])
def Zh.B14 : List Nat := [0,0,2,7,15,0,32,111,255,0,512,1536,3823,7919,16383,32767]
theorem Zh.Jv9 : Uy .any (opsOf Tryz.f13 14) = Zh.T14 := by kernel_rfl
theorem Zh.Jpo : Uj Zh.T14.2 Zh.B14 = true := by kernel_rfl
def Zh.T18 : Bool × List (List Nat × List Nat) := (true,[([],[]),([],[]),([1],[1]),([2],[2]),([0,3],[0,3]),([],[]),([],[]),([6],[6]),([5,7],[5,7]),([8],[8]),([9,3],[9]),([4,10],[4,10]),([],[]),([12],[12]),([13,10],[13]),([11,14],[11,14]),([15,14,0,1,2,3,4,5,6,7,8,9,10,11,12,13,14,15],[0,15])])
def Zh.B18 : List Nat := [0,0,2,6,15,0,0,64,224,480,1006,2047,0,4096,14318,32767,65535]
theorem Zh.Jwa : Uy .any (opsOf Tryz.f13 18) = Zh.T18 := by kernel_rfl
theorem Zh.Jpp : Uj Zh.T18.2 Zh.B18 = true := by kernel_rfl
set_option maxHeartbeats 8000000 in
set_option maxRecDepth 100000 in
theorem Zh.calls (k : Nat) (Z5 : Int) (Jb : ByteArray) (Jc : ByteArray) (Jt : Bool) (Vw : Option Addr) (Vu : Nat) (Jd : List ByteArray) (Jn : ByteArray) (Jm : ByteArray) (Xf : Option Addr) (Vv : Nat) (Zy : List (Y4)) (r : ByteArray) (w : World) (qd : Kd.C Kd.string w Vw Jd.length Jd) (qf : Jd.length ≤ Vu) (qg : Kd.C k44 w Xf Zy.length Zy) (qh : Zy.length ≤ Vv) (h : Zh.f k Z5 Jb Jc Jt Jd Jn Jm Zy = some r) (Ue : Yg w := by exact Yg.step Ue (by repeat (first | (with_reducible first | exact HB.out | apply Z4 | apply Zr | apply Zz | refine Z8 ?_ (Za.out (by assumption))) | exact HB.out))) :
  Calls Tryz.prog 13 #[.agg #[.int .i64 Z5,.string Jb,.string Jc,.bool Jt,.slice Vw Jd.length Vu,.string Jn,.string Jm,.slice Xf Zy.length Vv]] w fun e w' => e = .returned (.string r) ∧ Below w.heap.size w w' := by
 have Z0x := Tryz.underlying29
 have Z0h := Tryz.underlying44
 have Zl1 := Za.mk qd
 have Z59 := Za.mk qf
 clear qd qf
 have Za5 := Za.mk qg
 have Z6a := Za.mk qh
 clear qg qh
 have HB := Za.mk (Below.refl w.heap.size w)
 have H : (if Z5 = 0 then (if Jt = true then (Zh.j0 k (⟨#[49]⟩ : ByteArray) Z5 Jb Jc Jt Jd Jn Jm Zy) else (Zh.j0 k (⟨#[48]⟩ : ByteArray) Z5 Jb Jc Jt Jd Jn Jm Zy)) else (if Z5 = 1 then ((Z0.f (⟨#[99]⟩ : ByteArray)).bind fun Nv => ((Z0.f Jb).bind fun M6 => (if Nv.size + M6.size ≤ 9223372036854775807 then ((strconv_Itoa.f (Jd.length : Int)).bind fun Zmo => ((Z0.f Zmo).bind fun jw => (if (Nv ++ M6).size + jw.size ≤ 9223372036854775807 then (Zh.l0 k ((Nv ++ M6) ++ jw) Jd (Jd.length : Int) 0) else (none)))) else (none)))) else ((Z0.f (⟨#[113]⟩ : ByteArray)).bind fun Dp => ((Z0.f Jn).bind fun Dh => (if Dp.size + Dh.size ≤ 9223372036854775807 then ((Z0.f Jm).bind fun Hq => (if (Dp ++ Dh).size + Hq.size ≤ 9223372036854775807 then ((strconv_Itoa.f (Zy.length : Int)).bind fun Zip => ((Z0.f Zip).bind fun Sl => (if ((Dp ++ Dh) ++ Hq).size + Sl.size ≤ 9223372036854775807 then (Zh.l1 k (((Dp ++ Dh) ++ Hq) ++ Sl) Zy (Zy.length : Int) 0) else (none)))) else (none))) else (none)))))) = some r := h
 clear h
 by_cases c2 : Z5 = 0
 ·rw [if_pos c2] at H
  have wm : (Z5 == 0) = true := beq_iff_eq.mpr c2
  have Zfp : (Z5 != 0) = false := bne_eq_false_iff_eq.mpr c2
  clear c2
  have HC3 := Za.mk H
  clear H
  go_enter Tryz.func13,Tryz.ntmps13
  go_upto_if 14 with (first | ((with_reducible refine Jg (N := 1) rfl ?_);refine Je ?hg (N := 1) ?hd (cs := #[.int .i64 Z5,.string Jb,.string Jc,.bool Jt,.slice Vw Jd.length Vu,.string Jn,.string Jm,.slice Xf Zy.length Vv]) (t := 29) ?hr ?_;(case hd => rfl);(case hg => rfl);(case hr => exact Q0);intro Ya hg w4 hbox hb;have Ji := Za.mk (hbox);have Jmg := Za.mk ((Qy : w.heap.size ≤ Ya));have Z7v := Za.mk ((Qy : w.heap.size ≤ Ya));replace HB := Za.mk (Zm Qw hb);clear hb hbox hg;obtain ⟨Zri,Zrj,Zrk,Zrl,Zrm,Zrn,Zro,Zrp,Zrq,Zrr,Zrs,Zrt,Zru,Zrv,Zrw,Zrx⟩ := Jf Ji.out))
  (try simp only [Act.put,List.setIfInBounds_toArray,List.set_cons_zero,List.set_cons_succ])
  go_cut [3] (fun v3 wc => ∃ (kq : Nat) (Zk7 : ByteArray),v3 = .string Zk7 ∧ Za (Zh.j0 kq Zk7 Z5 Jb Jc Jt Jd Jn Jm Zy = some r) ∧ Za (kq ≤ k) ∧ Za (wc.heap[Ya]? = some (.cells #[.int .i64 Z5,.string Jb,.string Jc,.bool Jt,(.slice Vw Jd.length Vu),.string Jn,.string Jm,(.slice Xf Zy.length Vv)] 29 (0,0))) ∧ Za (Below w.heap.size w wc))
  case first =>
   have H := HC3.out
   clear HC3
   by_cases c6 : Jt = true
   ·subst c6
    have H1 : (Zh.j0 k (⟨#[49]⟩ : ByteArray) Z5 Jb Jc true Jd Jn Jm Zy) = some r := by rw [if_pos rfl] at H;exact H
    clear H
    have H := H1
    clear H1
    have H' := Za.mk H
    clear H
    go_wp2
    go_meet
    case rel => exact ⟨_,((⟨#[49]⟩ : ByteArray)),Dx,H',⟨(by first | omega | exact Nat.le_refl _)⟩,⟨J5⟩,⟨Vh⟩⟩
   ·replace c6 := Bool.eq_false_iff.mpr c6
    subst c6
    have H1 : (Zh.j0 k (⟨#[48]⟩ : ByteArray) Z5 Jb Jc false Jd Jn Jm Zy) = some r := by rw [if_neg (show ¬ (false = true) by decide)] at H;exact H
    clear H
    have H := H1
    clear H1
    have H' := Za.mk H
    clear H
    go_wp2
    go_meet
    case rel => exact ⟨_,((⟨#[48]⟩ : ByteArray)),Dx,H',⟨(by first | omega | exact Nat.le_refl _)⟩,⟨J5⟩,⟨Vh⟩⟩
  case rest =>
   clear HC3
   try clear c1
   try clear c2
   try clear wm
   try clear Zfp
   try clear p2
   try clear c6
   try clear Zri Zrj Zrk Zrl Zrm Zrn Zro Zrp
   try clear Zrq Zrr Zrs Zrt Zru Zrv Zrw Zrx
   obtain ⟨kq,Zk7,rfl,HA,HJ2,Ji,HB⟩ := hcut
   cases kq with
   | zero => exact absurd HA.out (by simp [Zh.j0])
   | succ kj2 =>
    have H := HA.out
    clear HA
    simp only [Zh.j0] at H
    replace H := Option.bind_eq_some_iff.mp H
    obtain ⟨Lb,A70,H⟩ := H
    replace H : ((Z0.f Jb).bind fun Ho => (if Lb.size + Ho.size ≤ 9223372036854775807 then ((Z0.f Zk7).bind fun Tw => (if (Lb ++ Ho).size + Tw.size ≤ 9223372036854775807 then ((Z0.f Jc).bind fun Zbb => (if ((Lb ++ Ho) ++ Tw).size + Zbb.size ≤ 9223372036854775807 then (some (((Lb ++ Ho) ++ Tw) ++ Zbb)) else (none))) else (none))) else (none))) = some r := H
    have A7 := Za.mk A70
    clear A70
    replace H := Option.bind_eq_some_iff.mp H
    obtain ⟨Ho,A80,H⟩ := H
    replace H : (if Lb.size + Ho.size ≤ 9223372036854775807 then ((Z0.f Zk7).bind fun Tw => (if (Lb ++ Ho).size + Tw.size ≤ 9223372036854775807 then ((Z0.f Jc).bind fun Zbb => (if ((Lb ++ Ho) ++ Tw).size + Zbb.size ≤ 9223372036854775807 then (some (((Lb ++ Ho) ++ Tw) ++ Zbb)) else (none))) else (none))) else (none)) = some r := H
    have A8 := Za.mk A80
    clear A80
    by_cases c9 : Lb.size + Ho.size ≤ 9223372036854775807
    ·rw [if_pos c9] at H
     try simp only [show wrap64 ((Lb.size : Int) + (Ho.size : Int)) = (Lb.size : Int) + (Ho.size : Int) from by unfold wrap64;omega] at *
     have Hl := eq_true c9
     have jv : decide (Lb.size + Ho.size ≤ 9223372036854775807) = true := decide_eq_true c9
     try have Z34 : (9223372036854775807 < Lb.size + Ho.size) = False := eq_false (Nat.not_lt.2 c9)
     replace H := Option.bind_eq_some_iff.mp H
     obtain ⟨Tw,Jwb,H⟩ := H
     replace H : (if (Lb ++ Ho).size + Tw.size ≤ 9223372036854775807 then ((Z0.f Jc).bind fun Zbb => (if ((Lb ++ Ho) ++ Tw).size + Zbb.size ≤ 9223372036854775807 then (some (((Lb ++ Ho) ++ Tw) ++ Zbb)) else (none))) else (none)) = some r := H
     have A10 := Za.mk Jwb
     clear Jwb
     by_cases c11 : (Lb ++ Ho).size + Tw.size ≤ 9223372036854775807
     ·rw [if_pos c11] at H
      have Ny := eq_true c11
      try have Jpq := c11
      try simp only [ByteArray.size_append] at Jpq
      try have Vj7 := eq_false (Nat.not_lt.2 Jpq)
      try have Vj8 := eq_true Jpq
      have Zlv : decide ((Lb ++ Ho).size + Tw.size ≤ 9223372036854775807) = true := decide_eq_true c11
      try have Jmh : (9223372036854775807 < (Lb ++ Ho).size + Tw.size) = False := eq_false (Nat.not_lt.2 c11)
      replace H := Option.bind_eq_some_iff.mp H
      obtain ⟨Zbb,Jfo,H⟩ := H
      replace H : (if ((Lb ++ Ho) ++ Tw).size + Zbb.size ≤ 9223372036854775807 then (some (((Lb ++ Ho) ++ Tw) ++ Zbb)) else (none)) = some r := H
      have A12 := Za.mk Jfo
      clear Jfo
      by_cases c13 : ((Lb ++ Ho) ++ Tw).size + Zbb.size ≤ 9223372036854775807
      ·rw [if_pos c13] at H
       have Sq := eq_true c13
       try have Jpr := c13
       try simp only [ByteArray.size_append] at Jpr
       try have Vj9 := eq_false (Nat.not_lt.2 Jpr)
       try have Vka := eq_true Jpr
       have jf : decide (((Lb ++ Ho) ++ Tw).size + Zbb.size ≤ 9223372036854775807) = true := decide_eq_true c13
       try have Zt2 : (9223372036854775807 < ((Lb ++ Ho) ++ Tw).size + Zbb.size) = False := eq_false (Nat.not_lt.2 c13)
       obtain rfl := Option.some.inj H
       try go_wp2
       replace Ji := Za.mk (Zf Ji.out)
       replace HB := Za.mk (Zz HB.out)
       refine Hd (n := 13) (S := fun w' => w'.cell? ⟨Ya,0,none⟩ = some (.int .i64 Z5) ∧ w'.cell? ⟨Ya,1,none⟩ = some (.string Jb) ∧ w'.cell? ⟨Ya,2,none⟩ = some (.string Jc) ∧ w'.cell? ⟨Ya,3,none⟩ = some (.bool Jt) ∧ w'.cell? ⟨Ya,4,none⟩ = some (.slice Vw Jd.length Vu) ∧ w'.cell? ⟨Ya,5,none⟩ = some (.string Jn) ∧ w'.cell? ⟨Ya,6,none⟩ = some (.string Jm) ∧ w'.cell? ⟨Ya,7,none⟩ = some (.slice Xf Zy.length Vv)) (ds := []) #[false,false,false,false,false,false,false,false,false,false,false,false,false] (by kernel_rfl) rfl rfl ⟨(Zd Ji.out 0).trans rfl,(Zd Ji.out 1).trans rfl,(Zd Ji.out 2).trans rfl,(Zd Ji.out 3).trans rfl,(Zd Ji.out 4).trans rfl,(Zd Ji.out 5).trans rfl,(Zd Ji.out 6).trans rfl,(Zd Ji.out 7).trans rfl⟩ (fun hHeld => ?_);refine Dr Zh.Vc0 Zh.Jv7 (fun HT_ HW_ => ?_)
       generalize wc.drew = w14 at Ji HB hHeld ⊢
       refine V3 (i := 1) (N := some 16) (v := ?_) (a' := ?_) #[false,true,false,false,false,false,false,false,false,false,false,false,false] rfl rfl (Vk HT_.out (by kernel_rfl)) (fun _ _ _ h => h) (Or.inl ⟨(by rfl),?_⟩) ?_ ?_
       rotate_left
       ·intro w'
        go_simp
        with_reducible rfl
       rotate_left
       ·simp only [Act.put,List.setIfInBounds_toArray,List.set_cons_zero,List.set_cons_succ,Jo,Jq]
        rfl
       refine V3 (i := 5) (N := some 20) (v := ?_) (a' := ?_) #[false,true,false,false,false,true,false,false,false,false,false,false,false] rfl rfl (Vk HT_.out (by kernel_rfl)) (fun _ _ _ h => h) (Or.inl ⟨(by rfl),?_⟩) ?_ ?_
       rotate_left
       ·intro w'
        go_simp
        with_reducible rfl
       rotate_left
       ·simp only [Act.put,List.setIfInBounds_toArray,List.set_cons_zero,List.set_cons_succ,Jo,Jq]
        rfl
       refine V3 (i := 8) (N := some 23) (v := ?_) (a' := ?_) #[false,true,false,false,false,true,false,false,true,false,false,false,false] rfl rfl (Vk HT_.out (by kernel_rfl)) (fun _ _ _ h => h) (Or.inl ⟨(by rfl),?_⟩) ?_ ?_
       rotate_left
       ·intro w'
        go_simp
        with_reducible rfl
       rotate_left
       ·simp only [Act.put,List.setIfInBounds_toArray,List.set_cons_zero,List.set_cons_succ,Jo,Jq]
        rfl
       refine Qx (i := 2) (N := some 17) (v := ?_) (a' := ?_) #[false,true,true,false,false,true,false,false,true,false,false,false,false] rfl rfl (Xj HT_.out HW_.out (by kernel_rfl)) (fun _ _ _ h => h) (Or.inl ⟨(by rfl),?_⟩) hHeld ?_ ?_
       rotate_left
       ·rintro w' ⟨s0,s1,s2,s3,s4,s5,s6,s7⟩
        go_simp
        with_reducible rfl
       rotate_left
       ·simp only [Act.put,List.setIfInBounds_toArray,List.set_cons_zero,List.set_cons_succ,Jo,Jq]
        rfl
       refine Qx (i := 9) (N := some 24) (v := ?_) (a' := ?_) #[false,true,true,false,false,true,false,false,true,true,false,false,false] rfl rfl (Xj HT_.out HW_.out (by kernel_rfl)) (fun _ _ _ h => h) (Or.inl ⟨(by rfl),?_⟩) hHeld ?_ ?_
       rotate_left
       ·rintro w' ⟨s0,s1,s2,s3,s4,s5,s6,s7⟩
        go_simp
        with_reducible rfl
       rotate_left
       ·simp only [Act.put,List.setIfInBounds_toArray,List.set_cons_zero,List.set_cons_succ,Jo,Jq]
        rfl
       refine F3 (i := 0) (N := some 15) #[true,true,true,false,false,true,false,false,true,true,false,false,false] rfl rfl (Qn HT_.out (by kernel_rfl)) (by decide) (fun K hK => ?_)
       refine Uk Tryz.func19 (by kernel_rfl) rfl #[.string (⟨#[97]⟩ : ByteArray)] (by rfl) rfl rfl Yb ?_
       with_reducible refine (Z0.calls (⟨#[97]⟩ : ByteArray) Lb _ A7.out).mono ?_
       rintro e w15 ⟨rfl,hb⟩
       refine ⟨_,rfl,?_⟩
       replace Ji := Za.mk (Zw (g := Ya) (o := .cells #[.int .i64 Z5,.string Jb,.string Jc,.bool Jt,.slice Vw Jd.length Vu,.string Jn,.string Jm,.slice Xf Zy.length Vv] 29 (0,0)) J5 hb)
       replace HB := Za.mk (Zm Vh hb)
       (try clear hb)
       (try clear hb2)
       (try clear hk)
       (try clear hi)
       refine hK.out _ _ ⟨(Zd Ji.out 0).trans rfl,(Zd Ji.out 1).trans rfl,(Zd Ji.out 2).trans rfl,(Zd Ji.out 3).trans rfl,(Zd Ji.out 4).trans rfl,(Zd Ji.out 5).trans rfl,(Zd Ji.out 6).trans rfl,(Zd Ji.out 7).trans rfl⟩ (fun hHeld => ?_)
       clear hK K
       refine Qr (a' := ?_) ?_ ?_
       rotate_left
       ·show Act.put _ (some 15) _ = _
        simp only [Act.put,List.setIfInBounds_toArray,List.set_cons_zero,List.set_cons_succ,Jo,Jq]
        rfl
       refine F3 (i := 3) (N := some 18) #[true,true,true,true,false,true,false,false,true,true,false,false,false] rfl rfl (Qn HT_.out (by kernel_rfl)) (by decide) (fun K hK => ?_)
       refine Uk Tryz.func19 (by kernel_rfl) rfl #[.string Jb] (by rfl) rfl rfl Yb ?_
       with_reducible refine (Z0.calls Jb Ho _ A8.out).mono ?_
       rintro e w16 ⟨rfl,hb⟩
       refine ⟨_,rfl,?_⟩
       replace Ji := Za.mk (Zw (g := Ya) (o := .cells #[.int .i64 Z5,.string Jb,.string Jc,.bool Jt,.slice Vw Jd.length Vu,.string Jn,.string Jm,.slice Xf Zy.length Vv] 29 (0,0)) J5 hb)
       replace HB := Za.mk (Zm Vh hb)
       (try clear hb)
       (try clear hb2)
       (try clear hk)
       (try clear hi)
       refine hK.out _ _ ⟨(Zd Ji.out 0).trans rfl,(Zd Ji.out 1).trans rfl,(Zd Ji.out 2).trans rfl,(Zd Ji.out 3).trans rfl,(Zd Ji.out 4).trans rfl,(Zd Ji.out 5).trans rfl,(Zd Ji.out 6).trans rfl,(Zd Ji.out 7).trans rfl⟩ (fun hHeld => ?_)
       clear hK K
       refine Qr (a' := ?_) ?_ ?_
       rotate_left
       ·show Act.put _ (some 18) _ = _
        simp only [Act.put,List.setIfInBounds_toArray,List.set_cons_zero,List.set_cons_succ,Jo,Jq]
        rfl
       refine V3 (i := 4) (N := some 19) (v := ?_) (a' := ?_) #[true,true,true,true,true,true,false,false,true,true,false,false,false] rfl rfl (Vk HT_.out (by kernel_rfl)) (fun _ _ _ h => h) (Or.inl ⟨(by rfl),?_⟩) ?_ ?_
       rotate_left
       ·intro w'
        go_simp
        with_reducible rfl
       rotate_left
       ·simp only [Act.put,List.setIfInBounds_toArray,List.set_cons_zero,List.set_cons_succ,Jo,Jq]
        rfl
       refine F3 (i := 6) (N := some 21) #[true,true,true,true,true,true,true,false,true,true,false,false,false] rfl rfl (Qn HT_.out (by kernel_rfl)) (by decide) (fun K hK => ?_)
       refine Uk Tryz.func19 (by kernel_rfl) rfl #[.string Zk7] (by rfl) rfl rfl Yb ?_
       with_reducible refine (Z0.calls Zk7 Tw _ A10.out).mono ?_
       rintro e w17 ⟨rfl,hb⟩
       refine ⟨_,rfl,?_⟩
       replace Ji := Za.mk (Zw (g := Ya) (o := .cells #[.int .i64 Z5,.string Jb,.string Jc,.bool Jt,.slice Vw Jd.length Vu,.string Jn,.string Jm,.slice Xf Zy.length Vv] 29 (0,0)) J5 hb)
       replace HB := Za.mk (Zm Vh hb)
       (try clear hb)
       (try clear hb2)
       (try clear hk)
       (try clear hi)
       refine hK.out _ _ ⟨(Zd Ji.out 0).trans rfl,(Zd Ji.out 1).trans rfl,(Zd Ji.out 2).trans rfl,(Zd Ji.out 3).trans rfl,(Zd Ji.out 4).trans rfl,(Zd Ji.out 5).trans rfl,(Zd Ji.out 6).trans rfl,(Zd Ji.out 7).trans rfl⟩ (fun hHeld => ?_)
       clear hK K
       refine Qr (a' := ?_) ?_ ?_
       rotate_left
       ·show Act.put _ (some 21) _ = _
        simp only [Act.put,List.setIfInBounds_toArray,List.set_cons_zero,List.set_cons_succ,Jo,Jq]
        rfl
       refine V3 (i := 7) (N := some 22) (v := ?_) (a' := ?_) #[true,true,true,true,true,true,true,true,true,true,false,false,false] rfl rfl (Vk HT_.out (by kernel_rfl)) (fun _ _ _ h => h) (Or.inl ⟨(by rfl),?_⟩) ?_ ?_
       rotate_left
       ·intro w'
        go_simp
        with_reducible rfl
       rotate_left
       ·simp only [Act.put,List.setIfInBounds_toArray,List.set_cons_zero,List.set_cons_succ,Jo,Jq]
        rfl
       refine F3 (i := 10) (N := some 25) #[true,true,true,true,true,true,true,true,true,true,true,false,false] rfl rfl (Qn HT_.out (by kernel_rfl)) (by decide) (fun K hK => ?_)
       refine Uk Tryz.func19 (by kernel_rfl) rfl #[.string Jc] (by rfl) rfl rfl Yb ?_
       with_reducible refine (Z0.calls Jc Zbb _ A12.out).mono ?_
       rintro e w18 ⟨rfl,hb⟩
       refine ⟨_,rfl,?_⟩
       replace Ji := Za.mk (Zw (g := Ya) (o := .cells #[.int .i64 Z5,.string Jb,.string Jc,.bool Jt,.slice Vw Jd.length Vu,.string Jn,.string Jm,.slice Xf Zy.length Vv] 29 (0,0)) J5 hb)
       replace HB := Za.mk (Zm Vh hb)
       (try clear hb)
       (try clear hb2)
       (try clear hk)
       (try clear hi)
       refine hK.out _ _ ⟨(Zd Ji.out 0).trans rfl,(Zd Ji.out 1).trans rfl,(Zd Ji.out 2).trans rfl,(Zd Ji.out 3).trans rfl,(Zd Ji.out 4).trans rfl,(Zd Ji.out 5).trans rfl,(Zd Ji.out 6).trans rfl,(Zd Ji.out 7).trans rfl⟩ (fun hHeld => ?_)
       clear hK K
       refine Qr (a' := ?_) ?_ ?_
       rotate_left
       ·show Act.put _ (some 25) _ = _
        simp only [Act.put,List.setIfInBounds_toArray,List.set_cons_zero,List.set_cons_succ,Jo,Jq]
        rfl
       refine V3 (i := 11) (N := some 26) (v := ?_) (a' := ?_) #[true,true,true,true,true,true,true,true,true,true,true,true,false] rfl rfl (Vk HT_.out (by kernel_rfl)) (fun _ _ _ h => h) (Or.inl ⟨(by rfl),?_⟩) ?_ ?_
       rotate_left
       ·intro w'
        go_simp
        with_reducible rfl
       rotate_left
       ·simp only [Act.put,List.setIfInBounds_toArray,List.set_cons_zero,List.set_cons_succ,Jo,Jq]
        rfl
       refine V3 (i := 12) (N := some 2) (v := ?_) (a' := ?_) #[true,true,true,true,true,true,true,true,true,true,true,true,true] rfl rfl (Vk HT_.out (by kernel_rfl)) (fun _ _ _ h => h) (Or.inl ⟨(by rfl),?_⟩) ?_ ?_
       rotate_left
       ·intro w'
        go_simp
        with_reducible rfl
       rotate_left
       ·simp only [Act.put,List.setIfInBounds_toArray,List.set_cons_zero,List.set_cons_succ,Jo,Jq]
        rfl
       refine j5 (Sw HT_.out (by kernel_rfl)) ?_
       try go_wp2
       go_ret
       exact ⟨Sy,Vh⟩
      ·rw [if_neg c13] at H
       exact absurd H (by simp)
     ·rw [if_neg c11] at H
      exact absurd H (by simp)
    ·rw [if_neg c9] at H
     exact absurd H (by simp)
 ·rw [if_neg c2] at H
  have wm : (Z5 == 0) = false := beq_eq_false_iff_ne.mpr c2
  have Zfp : (Z5 != 0) = true := bne_iff_ne.mpr c2
  by_cases c19 : Z5 = 1
  ·rw [if_pos c19] at H
   have Zhq : (Z5 == 1) = true := beq_iff_eq.mpr c19
   have Zhr : (Z5 != 1) = false := bne_eq_false_iff_eq.mpr c19
   clear c19
   replace H := Option.bind_eq_some_iff.mp H
   obtain ⟨Nv,Jwc,H⟩ := H
   replace H : ((Z0.f Jb).bind fun M6 => (if Nv.size + M6.size ≤ 9223372036854775807 then ((strconv_Itoa.f (Jd.length : Int)).bind fun Zmo => ((Z0.f Zmo).bind fun jw => (if (Nv ++ M6).size + jw.size ≤ 9223372036854775807 then (Zh.l0 k ((Nv ++ M6) ++ jw) Jd (Jd.length : Int) 0) else (none)))) else (none))) = some r := H
   have A20 := Za.mk Jwc
   clear Jwc
   replace H := Option.bind_eq_some_iff.mp H
   obtain ⟨M6,Jfp,H⟩ := H
   replace H : (if Nv.size + M6.size ≤ 9223372036854775807 then ((strconv_Itoa.f (Jd.length : Int)).bind fun Zmo => ((Z0.f Zmo).bind fun jw => (if (Nv ++ M6).size + jw.size ≤ 9223372036854775807 then (Zh.l0 k ((Nv ++ M6) ++ jw) Jd (Jd.length : Int) 0) else (none)))) else (none)) = some r := H
   have A21 := Za.mk Jfp
   clear Jfp
   by_cases Pq : Nv.size + M6.size ≤ 9223372036854775807
   ·rw [if_pos Pq] at H
    try simp only [show wrap64 ((Nv.size : Int) + (M6.size : Int)) = (Nv.size : Int) + (M6.size : Int) from by unfold wrap64;omega] at *
    have Sn := eq_true Pq
    have Ziq : decide (Nv.size + M6.size ≤ 9223372036854775807) = true := decide_eq_true Pq
    try have Jmi : (9223372036854775807 < Nv.size + M6.size) = False := eq_false (Nat.not_lt.2 Pq)
    replace H := Option.bind_eq_some_iff.mp H
    obtain ⟨Zmo,Z1k,H⟩ := H
    replace H : ((Z0.f Zmo).bind fun jw => (if (Nv ++ M6).size + jw.size ≤ 9223372036854775807 then (Zh.l0 k ((Nv ++ M6) ++ jw) Jd (Jd.length : Int) 0) else (none))) = some r := H
    have A23 := Za.mk Z1k
    clear Z1k
    replace H := Option.bind_eq_some_iff.mp H
    obtain ⟨jw,Jwe,H⟩ := H
    replace H : (if (Nv ++ M6).size + jw.size ≤ 9223372036854775807 then (Zh.l0 k ((Nv ++ M6) ++ jw) Jd (Jd.length : Int) 0) else (none)) = some r := H
    have A24 := Za.mk Jwe
    clear Jwe
    by_cases c25 : (Nv ++ M6).size + jw.size ≤ 9223372036854775807
    ·rw [if_pos c25] at H
     have Z57 := eq_true c25
     try have Jps := c25
     try simp only [ByteArray.size_append] at Jps
     try have Vkc := eq_false (Nat.not_lt.2 Jps)
     try have Vkd := eq_true Jps
     have Jmj : decide ((Nv ++ M6).size + jw.size ≤ 9223372036854775807) = true := decide_eq_true c25
     try have Jmk : (9223372036854775807 < (Nv ++ M6).size + jw.size) = False := eq_false (Nat.not_lt.2 c25)
     have H' := Za.mk H
     clear H
     go_enter Tryz.func13,Tryz.ntmps13
     try go_wp2_with (first | ((with_reducible refine Jg (N := 1) rfl ?_);refine Je ?hg (N := 1) ?hd (cs := #[.int .i64 Z5,.string Jb,.string Jc,.bool Jt,.slice Vw Jd.length Vu,.string Jn,.string Jm,.slice Xf Zy.length Vv]) (t := 29) ?hr ?_;(case hd => rfl);(case hg => rfl);(case hr => exact Q0);intro Ya hg w26 hbox hb;have Ji := Za.mk (hbox);have Jmg := Za.mk ((Qy : w.heap.size ≤ Ya));have Z7v := Za.mk ((Qy : w.heap.size ≤ Ya));replace HB := Za.mk (Zm Qw hb);clear hb hbox hg;obtain ⟨Pz,P5,P6,Zdp,Zdq,Zdr,Zds,Zdt,P7,P8,P9,Zdu,Zdv,Zdw,Zdx,Zdy⟩ := Jf Ji.out))
     replace Ji := Za.mk (Zf Ji.out)
     replace HB := Za.mk (Zz HB.out)
     refine Hd (n := 12) (S := fun w' => w'.cell? ⟨Ya,0,none⟩ = some (.int .i64 Z5) ∧ w'.cell? ⟨Ya,1,none⟩ = some (.string Jb) ∧ w'.cell? ⟨Ya,2,none⟩ = some (.string Jc) ∧ w'.cell? ⟨Ya,3,none⟩ = some (.bool Jt) ∧ w'.cell? ⟨Ya,4,none⟩ = some (.slice Vw Jd.length Vu) ∧ w'.cell? ⟨Ya,5,none⟩ = some (.string Jn) ∧ w'.cell? ⟨Ya,6,none⟩ = some (.string Jm) ∧ w'.cell? ⟨Ya,7,none⟩ = some (.slice Xf Zy.length Vv)) (ds := []) #[false,false,false,false,false,false,false,false,false,false,false,false] (by kernel_rfl) rfl rfl ⟨(Zd Ji.out 0).trans rfl,(Zd Ji.out 1).trans rfl,(Zd Ji.out 2).trans rfl,(Zd Ji.out 3).trans rfl,(Zd Ji.out 4).trans rfl,(Zd Ji.out 5).trans rfl,(Zd Ji.out 6).trans rfl,(Zd Ji.out 7).trans rfl⟩ (fun hHeld => ?_);refine Dr Zh.Vc1 Zh.Jv8 (fun HT_ HW_ => ?_)
     generalize w26.drew = w28 at Ji HB hHeld ⊢
     refine V3 (i := 1) (N := some 31) (v := ?_) (a' := ?_) #[false,true,false,false,false,false,false,false,false,false,false,false] rfl rfl (Vk HT_.out (by kernel_rfl)) (fun _ _ _ h => h) (Or.inl ⟨(by rfl),?_⟩) ?_ ?_
     rotate_left
     ·intro w'
      go_simp
      with_reducible rfl
     rotate_left
     ·simp only [Act.put,List.setIfInBounds_toArray,List.set_cons_zero,List.set_cons_succ,Jo,Jq]
      rfl
     refine V3 (i := 5) (N := some 35) (v := ?_) (a' := ?_) #[false,true,false,false,false,true,false,false,false,false,false,false] rfl rfl (Vk HT_.out (by kernel_rfl)) (fun _ _ _ h => h) (Or.inl ⟨(by rfl),?_⟩) ?_ ?_
     rotate_left
     ·intro w'
      go_simp
      with_reducible rfl
     rotate_left
     ·simp only [Act.put,List.setIfInBounds_toArray,List.set_cons_zero,List.set_cons_succ,Jo,Jq]
      rfl
     refine Qx (i := 2) (N := some 32) (v := ?_) (a' := ?_) #[false,true,true,false,false,true,false,false,false,false,false,false] rfl rfl (Xj HT_.out HW_.out (by kernel_rfl)) (fun _ _ _ h => h) (Or.inl ⟨(by rfl),?_⟩) hHeld ?_ ?_
     rotate_left
     ·rintro w' ⟨s0,s1,s2,s3,s4,s5,s6,s7⟩
      go_simp
      with_reducible rfl
     rotate_left
     ·simp only [Act.put,List.setIfInBounds_toArray,List.set_cons_zero,List.set_cons_succ,Jo,Jq]
      rfl
     refine Qx (i := 6) (N := some 36) (v := ?_) (a' := ?_) #[false,true,true,false,false,true,true,false,false,false,false,false] rfl rfl (Xj HT_.out HW_.out (by kernel_rfl)) (fun _ _ _ h => h) (Or.inl ⟨(by rfl),?_⟩) hHeld ?_ ?_
     rotate_left
     ·rintro w' ⟨s0,s1,s2,s3,s4,s5,s6,s7⟩
      go_simp
      with_reducible rfl
     rotate_left
     ·simp only [Act.put,List.setIfInBounds_toArray,List.set_cons_zero,List.set_cons_succ,Jo,Jq]
      rfl
     refine V3 (i := 7) (N := some 37) (v := ?_) (a' := ?_) #[false,true,true,false,false,true,true,true,false,false,false,false] rfl rfl (Vk HT_.out (by kernel_rfl)) (fun _ _ _ h => h) (Or.inl ⟨(by rfl),?_⟩) ?_ ?_
     rotate_left
     ·intro w'
      go_simp
      with_reducible rfl
     rotate_left
     ·simp only [Act.put,List.setIfInBounds_toArray,List.set_cons_zero,List.set_cons_succ,Jo,Jq]
      rfl
     refine F3 (i := 0) (N := some 30) #[true,true,true,false,false,true,true,true,false,false,false,false] rfl rfl (Qn HT_.out (by kernel_rfl)) (by decide) (fun K hK => ?_)
     refine Uk Tryz.func19 (by kernel_rfl) rfl #[.string (⟨#[99]⟩ : ByteArray)] (by rfl) rfl rfl Yb ?_
     with_reducible refine (Z0.calls (⟨#[99]⟩ : ByteArray) Nv _ A20.out).mono ?_
     rintro e w29 ⟨rfl,hb⟩
     refine ⟨_,rfl,?_⟩
     replace Ji := Za.mk (Zw (g := Ya) (o := .cells #[.int .i64 Z5,.string Jb,.string Jc,.bool Jt,.slice Vw Jd.length Vu,.string Jn,.string Jm,.slice Xf Zy.length Vv] 29 (0,0)) J5 hb)
     replace HB := Za.mk (Zm Vh hb)
     (try clear hb)
     (try clear hb2)
     (try clear hk)
     (try clear hi)
     refine hK.out _ _ ⟨(Zd Ji.out 0).trans rfl,(Zd Ji.out 1).trans rfl,(Zd Ji.out 2).trans rfl,(Zd Ji.out 3).trans rfl,(Zd Ji.out 4).trans rfl,(Zd Ji.out 5).trans rfl,(Zd Ji.out 6).trans rfl,(Zd Ji.out 7).trans rfl⟩ (fun hHeld => ?_)
     clear hK K
     refine Qr (a' := ?_) ?_ ?_
     rotate_left
     ·show Act.put _ (some 30) _ = _
      simp only [Act.put,List.setIfInBounds_toArray,List.set_cons_zero,List.set_cons_succ,Jo,Jq]
      rfl
     refine F3 (i := 3) (N := some 33) #[true,true,true,true,false,true,true,true,false,false,false,false] rfl rfl (Qn HT_.out (by kernel_rfl)) (by decide) (fun K hK => ?_)
     refine Uk Tryz.func19 (by kernel_rfl) rfl #[.string Jb] (by rfl) rfl rfl Yb ?_
     with_reducible refine (Z0.calls Jb M6 _ A21.out).mono ?_
     rintro e w30 ⟨rfl,hb⟩
     refine ⟨_,rfl,?_⟩
     replace Ji := Za.mk (Zw (g := Ya) (o := .cells #[.int .i64 Z5,.string Jb,.string Jc,.bool Jt,.slice Vw Jd.length Vu,.string Jn,.string Jm,.slice Xf Zy.length Vv] 29 (0,0)) J5 hb)
     replace HB := Za.mk (Zm Vh hb)
     (try clear hb)
     (try clear hb2)
     (try clear hk)
     (try clear hi)
     refine hK.out _ _ ⟨(Zd Ji.out 0).trans rfl,(Zd Ji.out 1).trans rfl,(Zd Ji.out 2).trans rfl,(Zd Ji.out 3).trans rfl,(Zd Ji.out 4).trans rfl,(Zd Ji.out 5).trans rfl,(Zd Ji.out 6).trans rfl,(Zd Ji.out 7).trans rfl⟩ (fun hHeld => ?_)
     clear hK K
     refine Qr (a' := ?_) ?_ ?_
     rotate_left
     ·show Act.put _ (some 33) _ = _
      simp only [Act.put,List.setIfInBounds_toArray,List.set_cons_zero,List.set_cons_succ,Jo,Jq]
      rfl
     refine V3 (i := 4) (N := some 34) (v := ?_) (a' := ?_) #[true,true,true,true,true,true,true,true,false,false,false,false] rfl rfl (Vk HT_.out (by kernel_rfl)) (fun _ _ _ h => h) (Or.inl ⟨(by rfl),?_⟩) ?_ ?_
     rotate_left
     ·intro w'
      go_simp
      with_reducible rfl
     rotate_left
     ·simp only [Act.put,List.setIfInBounds_toArray,List.set_cons_zero,List.set_cons_succ,Jo,Jq]
      rfl
     refine F3 (i := 8) (N := some 38) #[true,true,true,true,true,true,true,true,true,false,false,false] rfl rfl (Qn HT_.out (by kernel_rfl)) (by decide) (fun K hK => ?_)
     refine Uk Tryz.func20 (by kernel_rfl) rfl #[.int .i64 (Jd.length : Int)] (by rfl) rfl rfl Yb ?_
     with_reducible refine (strconv_Itoa.calls (Jd.length : Int) Zmo _ A23.out).mono ?_
     rintro e w31 ⟨rfl,hb⟩
     refine ⟨_,rfl,?_⟩
     replace Ji := Za.mk (Zw (g := Ya) (o := .cells #[.int .i64 Z5,.string Jb,.string Jc,.bool Jt,.slice Vw Jd.length Vu,.string Jn,.string Jm,.slice Xf Zy.length Vv] 29 (0,0)) J5 hb)
     replace HB := Za.mk (Zm Vh hb)
     (try clear hb)
     (try clear hb2)
     (try clear hk)
     (try clear hi)
     refine hK.out _ _ ⟨(Zd Ji.out 0).trans rfl,(Zd Ji.out 1).trans rfl,(Zd Ji.out 2).trans rfl,(Zd Ji.out 3).trans rfl,(Zd Ji.out 4).trans rfl,(Zd Ji.out 5).trans rfl,(Zd Ji.out 6).trans rfl,(Zd Ji.out 7).trans rfl⟩ (fun hHeld => ?_)
     clear hK K
     refine Qr (a' := ?_) ?_ ?_
     rotate_left
     ·show Act.put _ (some 38) _ = _
      simp only [Act.put,List.setIfInBounds_toArray,List.set_cons_zero,List.set_cons_succ,Jo,Jq]
      rfl
     refine F3 (i := 9) (N := some 39) #[true,true,true,true,true,true,true,true,true,true,false,false] rfl rfl (Qn HT_.out (by kernel_rfl)) (by decide) (fun K hK => ?_)
     refine Uk Tryz.func19 (by kernel_rfl) rfl #[.string Zmo] (by rfl) rfl rfl Yb ?_
     with_reducible refine (Z0.calls Zmo jw _ A24.out).mono ?_
     rintro e w32 ⟨rfl,hb⟩
     refine ⟨_,rfl,?_⟩
     replace Ji := Za.mk (Zw (g := Ya) (o := .cells #[.int .i64 Z5,.string Jb,.string Jc,.bool Jt,.slice Vw Jd.length Vu,.string Jn,.string Jm,.slice Xf Zy.length Vv] 29 (0,0)) J5 hb)
     replace HB := Za.mk (Zm Vh hb)
     (try clear hb)
     (try clear hb2)
     (try clear hk)
     (try clear hi)
     refine hK.out _ _ ⟨(Zd Ji.out 0).trans rfl,(Zd Ji.out 1).trans rfl,(Zd Ji.out 2).trans rfl,(Zd Ji.out 3).trans rfl,(Zd Ji.out 4).trans rfl,(Zd Ji.out 5).trans rfl,(Zd Ji.out 6).trans rfl,(Zd Ji.out 7).trans rfl⟩ (fun hHeld => ?_)
     clear hK K
     refine Qr (a' := ?_) ?_ ?_
     rotate_left
     ·show Act.put _ (some 39) _ = _
      simp only [Act.put,List.setIfInBounds_toArray,List.set_cons_zero,List.set_cons_succ,Jo,Jq]
      rfl
     refine V3 (i := 10) (N := some 40) (v := ?_) (a' := ?_) #[true,true,true,true,true,true,true,true,true,true,true,false] rfl rfl (Vk HT_.out (by kernel_rfl)) (fun _ _ _ h => h) (Or.inl ⟨(by rfl),?_⟩) ?_ ?_
     rotate_left
     ·intro w'
      go_simp
      with_reducible rfl
     rotate_left
     ·simp only [Act.put,List.setIfInBounds_toArray,List.set_cons_zero,List.set_cons_succ,Jo,Jq]
      rfl
     refine V3 (i := 11) (N := some 4) (v := ?_) (a' := ?_) #[true,true,true,true,true,true,true,true,true,true,true,true] rfl rfl (Vk HT_.out (by kernel_rfl)) (fun _ _ _ h => h) (Or.inl ⟨(by rfl),?_⟩) ?_ ?_
     rotate_left
     ·intro w'
      go_simp
      with_reducible rfl
     rotate_left
     ·simp only [Act.put,List.setIfInBounds_toArray,List.set_cons_zero,List.set_cons_succ,Jo,Jq]
      rfl
     refine j5 (Sw HT_.out (by kernel_rfl)) ?_
     obtain ⟨Uz,U0,U1,Wx,Wy,Wz,W9,Da,U2,U3,U4,Db,Dc,De,Df,Dg⟩ := Jf Ji.out
     try go_wp2
     go_loopg [4,44] k (fun kq v4 v44 w' => ∃ (Yj : ByteArray) (Sa : Int),v4 = .string Yj ∧ v44 = .int .i64 Sa ∧ Za (Zh.l0 kq Yj Jd (Jd.length : Int) Sa = some r) ∧ Za (kq ≤ k) ∧ Za (w'.heap[Ya]? = some (.cells #[.int .i64 Z5,.string Jb,.string Jc,.bool Jt,(.slice Vw Jd.length Vu),.string Jn,.string Jm,(.slice Xf Zy.length Vv)] 29 (0,0))) ∧ Za (Below w.heap.size w w'))
     case atStart => exact ⟨((Nv ++ M6) ++ jw),(0),Dx,Dx,H',⟨Nat.le_refl _⟩,⟨J5⟩,⟨Vh⟩⟩
     case round =>
      clear H'
      try clear c1
      try clear c2
      try clear wm
      try clear Zfp
      try clear p2 p2
      try clear c6
      try clear c9
      try clear Hl
      try clear jv
      try clear Z34
      try clear c11
      try clear Ny
      try clear Zlv
      try clear Jmh
      try clear c13
      try clear Sq
      try clear jf
      try clear Zt2
      try clear c19
      try clear Zhq
      try clear Zhr
      try clear c20
      try clear Pq
      try clear Sn
      try clear Ziq
      try clear Jmi
      try clear c25
      try clear Z57
      try clear Jmj
      try clear Jmk
      try clear Pz P5 P6 Zdp Zdq Zdr Zds Zdt
      try clear Uz U0 U1 Wx Wy Wz W9 Da
      try clear Zri Zrj Zrk Zrl Zrm Zrn Zro Zrp
      try clear P7 P8 P9 Zdu Zdv Zdw Zdx Zdy
      try clear U2 U3 U4 Db Dc De Df Dg
      try clear Zrq Zrr Zrs Zrt Zru Zrv Zrw Zrx
      obtain ⟨Yj,Sa,rfl,rfl,HA,HK1,Ji,HB⟩ := hrel
      cases gk with
      | zero => exact absurd HA.out (by simp [Zh.l0])
      | succ k1 =>
       have H := HA.out
       clear HA
       simp only [Zh.l0] at H
       by_cases c34 : Sa < (Jd.length : Int)
       ·rw [if_pos c34] at H
        have Zgs : decide (Sa < (Jd.length : Int)) = true := decide_eq_true c34
        clear c34
        by_cases jc : 0 ≤ Sa
        ·rw [if_pos jc] at H
         have Za4 : decide (0 ≤ Sa) = true := decide_eq_true jc
         clear jc
         by_cases c36 : Sa < (Jd.length : Int)
         ·rw [if_pos c36] at H
          have Z0y : decide (Sa < (Jd.length : Int)) = true := decide_eq_true c36
          clear c36
          replace H := Option.bind_eq_some_iff.mp H
          obtain ⟨Zmn,Jwf,H⟩ := H
          replace H : (if Yj.size + Zmn.size ≤ 9223372036854775807 then (Zh.l0 k1 (Yj ++ Zmn) Jd (Jd.length : Int) (wrap64 (Sa + 1))) else (none)) = some r := H
          have A37 := Za.mk Jwf
          clear Jwf
          by_cases c38 : Yj.size + Zmn.size ≤ 9223372036854775807
          ·rw [if_pos c38] at H
           try simp only [show wrap64 ((Yj.size : Int) + (Zmn.size : Int)) = (Yj.size : Int) + (Zmn.size : Int) from by unfold wrap64;omega] at *
           have Ztv := eq_true c38
           have Ztw : decide (Yj.size + Zmn.size ≤ 9223372036854775807) = true := decide_eq_true c38
           try have Jwg : (9223372036854775807 < Yj.size + Zmn.size) = False := eq_false (Nat.not_lt.2 c38)
           have H' := Za.mk H
           clear H
           have Jjy : 0 ≤ (Sa : Int) := of_decide_eq_true Wp
           have Jjz : Sa < (Jd.length : Int) := of_decide_eq_true Wp
           obtain ⟨Jwh,e283,Zn2⟩ := Kd.Ht Zl1.out Sa Jjy Jjz
           cases e283
           replace Zn2 := (HB.out.cell (World.block_lt_of_cell? w _ Zn2)).trans Zn2
           replace Jjy := eq_true Jjy
           replace Jjz := eq_true Jjz
           go_wp2_with (first | ((with_reducible refine Z7 (f := 19) rfl ?_);refine Ju (some 50) rfl rfl Tryz.func19 (by kernel_rfl) rfl #[.string (Ha ByteArray.empty Jd Sa)] rfl Yb ?_;(with_reducible refine (Z0.calls (Ha ByteArray.empty Jd Sa) Zmn _ A37.out).mono ?_);rintro e w39 ⟨rfl,hb⟩;refine ⟨_,rfl,?_⟩;replace Ji := Za.mk (Zw (g := Ya) (o := .cells #[.int .i64 Z5,.string Jb,.string Jc,.bool Jt,.slice (some Jwh) Jd.length Vu,.string Jn,.string Jm,.slice Xf Zy.length Vv] 29 (0,0)) J5 hb);replace HB := Za.mk (Zm Vh hb);(try clear hb);(try clear hb2);(try clear hk);(try clear hi)))
           go_roundg k1
           case measure => have := HK1.out;omega
           case rel => exact ⟨(Yj ++ Zmn),(wrap64 (Sa + 1)),Dx,Dx,H',⟨(by have := HK1.out;omega)⟩,⟨J5⟩,⟨Vh⟩⟩
          ·rw [if_neg c38] at H
           exact absurd H (by simp)
         ·rw [if_neg c36] at H
          exact absurd H (by simp)
        ·rw [if_neg jc] at H
         exact absurd H (by simp)
       ·rw [if_neg c34] at H
        have Zgs : decide (Sa < (Jd.length : Int)) = false := decide_eq_false c34
        clear c34
        obtain rfl := Option.some.inj H
        go_wp2
        go_ret
        exact ⟨Sy,Vh⟩
    ·rw [if_neg c25] at H
     exact absurd H (by simp)
   ·rw [if_neg Pq] at H
    exact absurd H (by simp)
  ·rw [if_neg c19] at H
   have Zhq : (Z5 == 1) = false := beq_eq_false_iff_ne.mpr c19
   have Zhr : (Z5 != 1) = true := bne_iff_ne.mpr c19
   replace H := Option.bind_eq_some_iff.mp H
   obtain ⟨Dp,Jwi,H⟩ := H
   replace H : ((Z0.f Jn).bind fun Dh => (if Dp.size + Dh.size ≤ 9223372036854775807 then ((Z0.f Jm).bind fun Hq => (if (Dp ++ Dh).size + Hq.size ≤ 9223372036854775807 then ((strconv_Itoa.f (Zy.length : Int)).bind fun Zip => ((Z0.f Zip).bind fun Sl => (if ((Dp ++ Dh) ++ Hq).size + Sl.size ≤ 9223372036854775807 then (Zh.l1 k (((Dp ++ Dh) ++ Hq) ++ Sl) Zy (Zy.length : Int) 0) else (none)))) else (none))) else (none))) = some r := H
   have A40 := Za.mk Jwi
   clear Jwi
   replace H := Option.bind_eq_some_iff.mp H
   obtain ⟨Dh,Jwj,H⟩ := H
   replace H : (if Dp.size + Dh.size ≤ 9223372036854775807 then ((Z0.f Jm).bind fun Hq => (if (Dp ++ Dh).size + Hq.size ≤ 9223372036854775807 then ((strconv_Itoa.f (Zy.length : Int)).bind fun Zip => ((Z0.f Zip).bind fun Sl => (if ((Dp ++ Dh) ++ Hq).size + Sl.size ≤ 9223372036854775807 then (Zh.l1 k (((Dp ++ Dh) ++ Hq) ++ Sl) Zy (Zy.length : Int) 0) else (none)))) else (none))) else (none)) = some r := H
   have A41 := Za.mk Jwj
   clear Jwj
   by_cases c42 : Dp.size + Dh.size ≤ 9223372036854775807
   ·rw [if_pos c42] at H
    try simp only [show wrap64 ((Dp.size : Int) + (Dh.size : Int)) = (Dp.size : Int) + (Dh.size : Int) from by unfold wrap64;omega] at *
    have Zre := eq_true c42
    have Z0z : decide (Dp.size + Dh.size ≤ 9223372036854775807) = true := decide_eq_true c42
    try have Jwk : (9223372036854775807 < Dp.size + Dh.size) = False := eq_false (Nat.not_lt.2 c42)
    replace H := Option.bind_eq_some_iff.mp H
    obtain ⟨Hq,Jwl,H⟩ := H
    replace H : (if (Dp ++ Dh).size + Hq.size ≤ 9223372036854775807 then ((strconv_Itoa.f (Zy.length : Int)).bind fun Zip => ((Z0.f Zip).bind fun Sl => (if ((Dp ++ Dh) ++ Hq).size + Sl.size ≤ 9223372036854775807 then (Zh.l1 k (((Dp ++ Dh) ++ Hq) ++ Sl) Zy (Zy.length : Int) 0) else (none)))) else (none)) = some r := H
    have A43 := Za.mk Jwl
    clear Jwl
    by_cases c44 : (Dp ++ Dh).size + Hq.size ≤ 9223372036854775807
    ·rw [if_pos c44] at H
     have Zl3 := eq_true c44
     try have Jpt := c44
     try simp only [ByteArray.size_append] at Jpt
     try have Vkh := eq_false (Nat.not_lt.2 Jpt)
     try have Vki := eq_true Jpt
     have Zl4 : decide ((Dp ++ Dh).size + Hq.size ≤ 9223372036854775807) = true := decide_eq_true c44
     try have Jwm : (9223372036854775807 < (Dp ++ Dh).size + Hq.size) = False := eq_false (Nat.not_lt.2 c44)
     replace H := Option.bind_eq_some_iff.mp H
     obtain ⟨Zip,Jwn,H⟩ := H
     replace H : ((Z0.f Zip).bind fun Sl => (if ((Dp ++ Dh) ++ Hq).size + Sl.size ≤ 9223372036854775807 then (Zh.l1 k (((Dp ++ Dh) ++ Hq) ++ Sl) Zy (Zy.length : Int) 0) else (none))) = some r := H
     have A45 := Za.mk Jwn
     clear Jwn
     replace H := Option.bind_eq_some_iff.mp H
     obtain ⟨Sl,Jwo,H⟩ := H
     replace H : (if ((Dp ++ Dh) ++ Hq).size + Sl.size ≤ 9223372036854775807 then (Zh.l1 k (((Dp ++ Dh) ++ Hq) ++ Sl) Zy (Zy.length : Int) 0) else (none)) = some r := H
     have A46 := Za.mk Jwo
     clear Jwo
     by_cases c47 : ((Dp ++ Dh) ++ Hq).size + Sl.size ≤ 9223372036854775807
     ·rw [if_pos c47] at H
      have Jwp := eq_true c47
      try have Jpv := c47
      try simp only [ByteArray.size_append] at Jpv
      try have Vkl := eq_false (Nat.not_lt.2 Jpv)
      try have Vkm := eq_true Jpv
      have Jwq : decide (((Dp ++ Dh) ++ Hq).size + Sl.size ≤ 9223372036854775807) = true := decide_eq_true c47
      try have Jwr : (9223372036854775807 < ((Dp ++ Dh) ++ Hq).size + Sl.size) = False := eq_false (Nat.not_lt.2 c47)
      have H' := Za.mk H
      clear H
      go_enter Tryz.func13,Tryz.ntmps13
      try go_wp2_with (first | ((with_reducible refine Jg (N := 1) rfl ?_);refine Je ?hg (N := 1) ?hd (cs := #[.int .i64 Z5,.string Jb,.string Jc,.bool Jt,.slice Vw Jd.length Vu,.string Jn,.string Jm,.slice Xf Zy.length Vv]) (t := 29) ?hr ?_;(case hd => rfl);(case hg => rfl);(case hr => exact Q0);intro Ya hg w48 hbox hb;have Ji := Za.mk (hbox);have Jmg := Za.mk ((Qy : w.heap.size ≤ Ya));have Z7v := Za.mk ((Qy : w.heap.size ≤ Ya));replace HB := Za.mk (Zm Qw hb);clear hb hbox hg;obtain ⟨Pj,Pk,Pm,xn,xq,xu,xw,xx,Pn,Po,Pp,xy,xz,qa,qb,qc⟩ := Jf Ji.out))
      replace Ji := Za.mk (Zf Ji.out)
      replace HB := Za.mk (Zz HB.out)
      refine Hd (n := 16) (S := fun w' => w'.cell? ⟨Ya,0,none⟩ = some (.int .i64 Z5) ∧ w'.cell? ⟨Ya,1,none⟩ = some (.string Jb) ∧ w'.cell? ⟨Ya,2,none⟩ = some (.string Jc) ∧ w'.cell? ⟨Ya,3,none⟩ = some (.bool Jt) ∧ w'.cell? ⟨Ya,4,none⟩ = some (.slice Vw Jd.length Vu) ∧ w'.cell? ⟨Ya,5,none⟩ = some (.string Jn) ∧ w'.cell? ⟨Ya,6,none⟩ = some (.string Jm) ∧ w'.cell? ⟨Ya,7,none⟩ = some (.slice Xf Zy.length Vv)) (ds := []) #[false,false,false,false,false,false,false,false,false,false,false,false,false,false,false,false] (by kernel_rfl) rfl rfl ⟨(Zd Ji.out 0).trans rfl,(Zd Ji.out 1).trans rfl,(Zd Ji.out 2).trans rfl,(Zd Ji.out 3).trans rfl,(Zd Ji.out 4).trans rfl,(Zd Ji.out 5).trans rfl,(Zd Ji.out 6).trans rfl,(Zd Ji.out 7).trans rfl⟩ (fun hHeld => ?_);refine Dr Zh.Jv9 Zh.Jpo (fun HT_ HW_ => ?_)
      generalize w48.drew = w50 at Ji HB hHeld ⊢
      refine V3 (i := 1) (N := some 55) (v := ?_) (a' := ?_) #[false,true,false,false,false,false,false,false,false,false,false,false,false,false,false,false] rfl rfl (Vk HT_.out (by kernel_rfl)) (fun _ _ _ h => h) (Or.inl ⟨(by rfl),?_⟩) ?_ ?_
      rotate_left
      ·intro w'
       go_simp
       with_reducible rfl
      rotate_left
      ·simp only [Act.put,List.setIfInBounds_toArray,List.set_cons_zero,List.set_cons_succ,Jo,Jq]
       rfl
      refine V3 (i := 5) (N := some 59) (v := ?_) (a' := ?_) #[false,true,false,false,false,true,false,false,false,false,false,false,false,false,false,false] rfl rfl (Vk HT_.out (by kernel_rfl)) (fun _ _ _ h => h) (Or.inl ⟨(by rfl),?_⟩) ?_ ?_
      rotate_left
      ·intro w'
       go_simp
       with_reducible rfl
      rotate_left
      ·simp only [Act.put,List.setIfInBounds_toArray,List.set_cons_zero,List.set_cons_succ,Jo,Jq]
       rfl
      refine V3 (i := 9) (N := some 63) (v := ?_) (a' := ?_) #[false,true,false,false,false,true,false,false,false,true,false,false,false,false,false,false] rfl rfl (Vk HT_.out (by kernel_rfl)) (fun _ _ _ h => h) (Or.inl ⟨(by rfl),?_⟩) ?_ ?_
      rotate_left
      ·intro w'
       go_simp
       with_reducible rfl
      rotate_left
      ·simp only [Act.put,List.setIfInBounds_toArray,List.set_cons_zero,List.set_cons_succ,Jo,Jq]
       rfl
      refine Qx (i := 2) (N := some 56) (v := ?_) (a' := ?_) #[false,true,true,false,false,true,false,false,false,true,false,false,false,false,false,false] rfl rfl (Xj HT_.out HW_.out (by kernel_rfl)) (fun _ _ _ h => h) (Or.inl ⟨(by rfl),?_⟩) hHeld ?_ ?_
      rotate_left
      ·rintro w' ⟨s0,s1,s2,s3,s4,s5,s6,s7⟩
       go_simp
       with_reducible rfl
      rotate_left
      ·simp only [Act.put,List.setIfInBounds_toArray,List.set_cons_zero,List.set_cons_succ,Jo,Jq]
       rfl
      refine Qx (i := 6) (N := some 60) (v := ?_) (a' := ?_) #[false,true,true,false,false,true,true,false,false,true,false,false,false,false,false,false] rfl rfl (Xj HT_.out HW_.out (by kernel_rfl)) (fun _ _ _ h => h) (Or.inl ⟨(by rfl),?_⟩) hHeld ?_ ?_
      rotate_left
      ·rintro w' ⟨s0,s1,s2,s3,s4,s5,s6,s7⟩
       go_simp
       with_reducible rfl
      rotate_left
      ·simp only [Act.put,List.setIfInBounds_toArray,List.set_cons_zero,List.set_cons_succ,Jo,Jq]
       rfl
      refine Qx (i := 10) (N := some 64) (v := ?_) (a' := ?_) #[false,true,true,false,false,true,true,false,false,true,true,false,false,false,false,false] rfl rfl (Xj HT_.out HW_.out (by kernel_rfl)) (fun _ _ _ h => h) (Or.inl ⟨(by rfl),?_⟩) hHeld ?_ ?_
      rotate_left
      ·rintro w' ⟨s0,s1,s2,s3,s4,s5,s6,s7⟩
       go_simp
       with_reducible rfl
      rotate_left
      ·simp only [Act.put,List.setIfInBounds_toArray,List.set_cons_zero,List.set_cons_succ,Jo,Jq]
       rfl
      refine V3 (i := 11) (N := some 65) (v := ?_) (a' := ?_) #[false,true,true,false,false,true,true,false,false,true,true,true,false,false,false,false] rfl rfl (Vk HT_.out (by kernel_rfl)) (fun _ _ _ h => h) (Or.inl ⟨(by rfl),?_⟩) ?_ ?_
      rotate_left
      ·intro w'
       go_simp
       with_reducible rfl
      rotate_left
      ·simp only [Act.put,List.setIfInBounds_toArray,List.set_cons_zero,List.set_cons_succ,Jo,Jq]
       rfl
      refine F3 (i := 0) (N := some 54) #[true,true,true,false,false,true,true,false,false,true,true,true,false,false,false,false] rfl rfl (Qn HT_.out (by kernel_rfl)) (by decide) (fun K hK => ?_)
      refine Uk Tryz.func19 (by kernel_rfl) rfl #[.string (⟨#[113]⟩ : ByteArray)] (by rfl) rfl rfl Yb ?_
      with_reducible refine (Z0.calls (⟨#[113]⟩ : ByteArray) Dp _ A40.out).mono ?_
      rintro e w51 ⟨rfl,hb⟩
      refine ⟨_,rfl,?_⟩
      replace Ji := Za.mk (Zw (g := Ya) (o := .cells #[.int .i64 Z5,.string Jb,.string Jc,.bool Jt,.slice Vw Jd.length Vu,.string Jn,.string Jm,.slice Xf Zy.length Vv] 29 (0,0)) J5 hb)
      replace HB := Za.mk (Zm Vh hb)
      (try clear hb)
      (try clear hb2)
      (try clear hk)
      (try clear hi)
      refine hK.out _ _ ⟨(Zd Ji.out 0).trans rfl,(Zd Ji.out 1).trans rfl,(Zd Ji.out 2).trans rfl,(Zd Ji.out 3).trans rfl,(Zd Ji.out 4).trans rfl,(Zd Ji.out 5).trans rfl,(Zd Ji.out 6).trans rfl,(Zd Ji.out 7).trans rfl⟩ (fun hHeld => ?_)
      clear hK K
      refine Qr (a' := ?_) ?_ ?_
      rotate_left
      ·show Act.put _ (some 54) _ = _
       simp only [Act.put,List.setIfInBounds_toArray,List.set_cons_zero,List.set_cons_succ,Jo,Jq]
       rfl
      refine F3 (i := 3) (N := some 57) #[true,true,true,true,false,true,true,false,false,true,true,true,false,false,false,false] rfl rfl (Qn HT_.out (by kernel_rfl)) (by decide) (fun K hK => ?_)
      refine Uk Tryz.func19 (by kernel_rfl) rfl #[.string Jn] (by rfl) rfl rfl Yb ?_
      with_reducible refine (Z0.calls Jn Dh _ A41.out).mono ?_
      rintro e w52 ⟨rfl,hb⟩
      refine ⟨_,rfl,?_⟩
      replace Ji := Za.mk (Zw (g := Ya) (o := .cells #[.int .i64 Z5,.string Jb,.string Jc,.bool Jt,.slice Vw Jd.length Vu,.string Jn,.string Jm,.slice Xf Zy.length Vv] 29 (0,0)) J5 hb)
      replace HB := Za.mk (Zm Vh hb)
      (try clear hb)
      (try clear hb2)
      (try clear hk)
      (try clear hi)
      refine hK.out _ _ ⟨(Zd Ji.out 0).trans rfl,(Zd Ji.out 1).trans rfl,(Zd Ji.out 2).trans rfl,(Zd Ji.out 3).trans rfl,(Zd Ji.out 4).trans rfl,(Zd Ji.out 5).trans rfl,(Zd Ji.out 6).trans rfl,(Zd Ji.out 7).trans rfl⟩ (fun hHeld => ?_)
      clear hK K
      refine Qr (a' := ?_) ?_ ?_
      rotate_left
      ·show Act.put _ (some 57) _ = _
       simp only [Act.put,List.setIfInBounds_toArray,List.set_cons_zero,List.set_cons_succ,Jo,Jq]
       rfl
      refine V3 (i := 4) (N := some 58) (v := ?_) (a' := ?_) #[true,true,true,true,true,true,true,false,false,true,true,true,false,false,false,false] rfl rfl (Vk HT_.out (by kernel_rfl)) (fun _ _ _ h => h) (Or.inl ⟨(by rfl),?_⟩) ?_ ?_
      rotate_left
      ·intro w'
       go_simp
       with_reducible rfl
      rotate_left
      ·simp only [Act.put,List.setIfInBounds_toArray,List.set_cons_zero,List.set_cons_succ,Jo,Jq]
       rfl
      refine F3 (i := 7) (N := some 61) #[true,true,true,true,true,true,true,true,false,true,true,true,false,false,false,false] rfl rfl (Qn HT_.out (by kernel_rfl)) (by decide) (fun K hK => ?_)
      refine Uk Tryz.func19 (by kernel_rfl) rfl #[.string Jm] (by rfl) rfl rfl Yb ?_
      with_reducible refine (Z0.calls Jm Hq _ A43.out).mono ?_
      rintro e w53 ⟨rfl,hb⟩
      refine ⟨_,rfl,?_⟩
      replace Ji := Za.mk (Zw (g := Ya) (o := .cells #[.int .i64 Z5,.string Jb,.string Jc,.bool Jt,.slice Vw Jd.length Vu,.string Jn,.string Jm,.slice Xf Zy.length Vv] 29 (0,0)) J5 hb)
      replace HB := Za.mk (Zm Vh hb)
      (try clear hb)
      (try clear hb2)
      (try clear hk)
      (try clear hi)
      refine hK.out _ _ ⟨(Zd Ji.out 0).trans rfl,(Zd Ji.out 1).trans rfl,(Zd Ji.out 2).trans rfl,(Zd Ji.out 3).trans rfl,(Zd Ji.out 4).trans rfl,(Zd Ji.out 5).trans rfl,(Zd Ji.out 6).trans rfl,(Zd Ji.out 7).trans rfl⟩ (fun hHeld => ?_)
      clear hK K
      refine Qr (a' := ?_) ?_ ?_
      rotate_left
      ·show Act.put _ (some 61) _ = _
       simp only [Act.put,List.setIfInBounds_toArray,List.set_cons_zero,List.set_cons_succ,Jo,Jq]
       rfl
      refine V3 (i := 8) (N := some 62) (v := ?_) (a' := ?_) #[true,true,true,true,true,true,true,true,true,true,true,true,false,false,false,false] rfl rfl (Vk HT_.out (by kernel_rfl)) (fun _ _ _ h => h) (Or.inl ⟨(by rfl),?_⟩) ?_ ?_
      rotate_left
      ·intro w'
       go_simp
       with_reducible rfl
      rotate_left
      ·simp only [Act.put,List.setIfInBounds_toArray,List.set_cons_zero,List.set_cons_succ,Jo,Jq]
       rfl
      refine F3 (i := 12) (N := some 66) #[true,true,true,true,true,true,true,true,true,true,true,true,true,false,false,false] rfl rfl (Qn HT_.out (by kernel_rfl)) (by decide) (fun K hK => ?_)
      refine Uk Tryz.func20 (by kernel_rfl) rfl #[.int .i64 (Zy.length : Int)] (by rfl) rfl rfl Yb ?_
      with_reducible refine (strconv_Itoa.calls (Zy.length : Int) Zip _ A45.out).mono ?_
      rintro e w54 ⟨rfl,hb⟩
      refine ⟨_,rfl,?_⟩
      replace Ji := Za.mk (Zw (g := Ya) (o := .cells #[.int .i64 Z5,.string Jb,.string Jc,.bool Jt,.slice Vw Jd.length Vu,.string Jn,.string Jm,.slice Xf Zy.length Vv] 29 (0,0)) J5 hb)
      replace HB := Za.mk (Zm Vh hb)
      (try clear hb)
      (try clear hb2)
      (try clear hk)
      (try clear hi)
      refine hK.out _ _ ⟨(Zd Ji.out 0).trans rfl,(Zd Ji.out 1).trans rfl,(Zd Ji.out 2).trans rfl,(Zd Ji.out 3).trans rfl,(Zd Ji.out 4).trans rfl,(Zd Ji.out 5).trans rfl,(Zd Ji.out 6).trans rfl,(Zd Ji.out 7).trans rfl⟩ (fun hHeld => ?_)
      clear hK K
      refine Qr (a' := ?_) ?_ ?_
      rotate_left
      ·show Act.put _ (some 66) _ = _
       simp only [Act.put,List.setIfInBounds_toArray,List.set_cons_zero,List.set_cons_succ,Jo,Jq]
       rfl
      refine F3 (i := 13) (N := some 67) #[true,true,true,true,true,true,true,true,true,true,true,true,true,true,false,false] rfl rfl (Qn HT_.out (by kernel_rfl)) (by decide) (fun K hK => ?_)
      refine Uk Tryz.func19 (by kernel_rfl) rfl #[.string Zip] (by rfl) rfl rfl Yb ?_
      with_reducible refine (Z0.calls Zip Sl _ A46.out).mono ?_
      rintro e w55 ⟨rfl,hb⟩
      refine ⟨_,rfl,?_⟩
      replace Ji := Za.mk (Zw (g := Ya) (o := .cells #[.int .i64 Z5,.string Jb,.string Jc,.bool Jt,.slice Vw Jd.length Vu,.string Jn,.string Jm,.slice Xf Zy.length Vv] 29 (0,0)) J5 hb)
      replace HB := Za.mk (Zm Vh hb)
      (try clear hb)
      (try clear hb2)
      (try clear hk)
      (try clear hi)
      refine hK.out _ _ ⟨(Zd Ji.out 0).trans rfl,(Zd Ji.out 1).trans rfl,(Zd Ji.out 2).trans rfl,(Zd Ji.out 3).trans rfl,(Zd Ji.out 4).trans rfl,(Zd Ji.out 5).trans rfl,(Zd Ji.out 6).trans rfl,(Zd Ji.out 7).trans rfl⟩ (fun hHeld => ?_)
      clear hK K
      refine Qr (a' := ?_) ?_ ?_
      rotate_left
      ·show Act.put _ (some 67) _ = _
       simp only [Act.put,List.setIfInBounds_toArray,List.set_cons_zero,List.set_cons_succ,Jo,Jq]
       rfl
      refine V3 (i := 14) (N := some 68) (v := ?_) (a' := ?_) #[true,true,true,true,true,true,true,true,true,true,true,true,true,true,true,false] rfl rfl (Vk HT_.out (by kernel_rfl)) (fun _ _ _ h => h) (Or.inl ⟨(by rfl),?_⟩) ?_ ?_
      rotate_left
      ·intro w'
       go_simp
       with_reducible rfl
      rotate_left
      ·simp only [Act.put,List.setIfInBounds_toArray,List.set_cons_zero,List.set_cons_succ,Jo,Jq]
       rfl
      refine V3 (i := 15) (N := some 7) (v := ?_) (a' := ?_) #[true,true,true,true,true,true,true,true,true,true,true,true,true,true,true,true] rfl rfl (Vk HT_.out (by kernel_rfl)) (fun _ _ _ h => h) (Or.inl ⟨(by rfl),?_⟩) ?_ ?_
      rotate_left
      ·intro w'
       go_simp
       with_reducible rfl
      rotate_left
      ·simp only [Act.put,List.setIfInBounds_toArray,List.set_cons_zero,List.set_cons_succ,Jo,Jq]
       rfl
      refine j5 (Sw HT_.out (by kernel_rfl)) ?_
      obtain ⟨Z5p,Z5q,Z5r,Z5s,Z5t,Z5u,Z5v,Z5w,Z5x,Z5y,Z5z,Z50,Z51,Z52,Z53,Z54⟩ := Jf Ji.out
      try go_wp2
      go_loopg [7,72] k (fun kq v7 v72 w' => ∃ (Kw : ByteArray) (J4 : Int),v7 = .string Kw ∧ v72 = .int .i64 J4 ∧ Za (Zh.l1 kq Kw Zy (Zy.length : Int) J4 = some r) ∧ Za (kq ≤ k) ∧ Za (w'.heap[Ya]? = some (.cells #[.int .i64 Z5,.string Jb,.string Jc,.bool Jt,(.slice Vw Jd.length Vu),.string Jn,.string Jm,(.slice Xf Zy.length Vv)] 29 (0,0))) ∧ Za (Below w.heap.size w w'))
      case atStart => exact ⟨(((Dp ++ Dh) ++ Hq) ++ Sl),(0),Dx,Dx,H',⟨Nat.le_refl _⟩,⟨J5⟩,⟨Vh⟩⟩
      case round =>
       clear H'
       try clear c1
       try clear c2
       try clear wm
       try clear Zfp
       try clear p2 p2
       try clear q2
       try clear hx2
       try clear c3
       try clear c4
       try clear c6
       try clear p6
       try clear c9
       try clear Hl
       try clear jv
       try clear Z34
       try clear c11
       try clear Ny
       try clear Zlv
       try clear Jmh
       try clear c13
       try clear Sq
       try clear jf
       try clear Zt2
       try clear c19
       try clear Zhq
       try clear Zhr
       try clear c20
       try clear Pq
       try clear Sn
       try clear Ziq
       try clear Jmi
       try clear c25
       try clear Z57
       try clear Jmj
       try clear Jmk
       try clear p28
       try clear q28
       try clear hx28
       try clear c34
       try clear Zgs
       try clear jc
       try clear Za4
       try clear c36
       try clear Z0y
       try clear c38
       try clear Ztv
       try clear Ztw
       try clear Jwg
       try clear c42
       try clear Zre
       try clear Z0z
       try clear Jwk
       try clear c44
       try clear Zl3
       try clear Zl4
       try clear Jwm
       try clear c47
       try clear Jwp
       try clear Jwq
       try clear Jwr
       try clear Pz P5 P6 Zdp Zdq Zdr Zds Zdt
       try clear Uz U0 U1 Wx Wy Wz W9 Da
       try clear Pj Pk Pm xn xq xu xw xx
       try clear Z5p Z5q Z5r Z5s Z5t Z5u Z5v Z5w
       try clear Zri Zrj Zrk Zrl Zrm Zrn Zro Zrp
       try clear P7 P8 P9 Zdu Zdv Zdw Zdx Zdy
       try clear U2 U3 U4 Db Dc De Df Dg
       try clear Pn Po Pp xy xz qa qb qc
       try clear Z5x Z5y Z5z Z50 Z51 Z52 Z53 Z54
       try clear Zrq Zrr Zrs Zrt Zru Zrv Zrw Zrx
       try clear Zn2
       try clear Jjy
       try clear Jjz
       obtain ⟨Kw,J4,rfl,rfl,HA,HK1,Ji,HB⟩ := hrel
       cases gk with
       | zero => exact absurd HA.out (by simp [Zh.l1])
       | succ k1 =>
        have H := HA.out
        clear HA
        simp only [Zh.l1] at H
        by_cases c57 : J4 < (Zy.length : Int)
        ·rw [if_pos c57] at H
         have Zr1 : decide (J4 < (Zy.length : Int)) = true := decide_eq_true c57
         clear c57
         by_cases c58 : 0 ≤ J4
         ·rw [if_pos c58] at H
          have Ztz : decide (0 ≤ J4) = true := decide_eq_true c58
          clear c58
          by_cases c59 : J4 < (Zy.length : Int)
          ·rw [if_pos c59] at H
           have Z01 : decide (J4 < (Zy.length : Int)) = true := decide_eq_true c59
           clear c59
           replace H := Option.bind_eq_some_iff.mp H
           obtain ⟨Uf,Jws,H⟩ := H
           replace H : (if Kw.size + Uf.size ≤ 9223372036854775807 then ((some (([(⟨#[116]⟩ : ByteArray),(⟨#[110]⟩ : ByteArray),(⟨#[109]⟩ : ByteArray)] : List ByteArray) : List ByteArray)).bind fun jh => (if 0 ≤ ((Z6 Zy J4).f1) then (if ((Z6 Zy J4).f1) < (jh.length : Int) then ((Z0.f (Ha ByteArray.empty jh ((Z6 Zy J4).f1))).bind fun Dn => (if (Kw ++ Uf).size + Dn.size ≤ 9223372036854775807 then ((Z0.f ((Z6 Zy J4).f2)).bind fun Nu => (if ((Kw ++ Uf) ++ Dn).size + Nu.size ≤ 9223372036854775807 then (Zh.l1 k1 (((Kw ++ Uf) ++ Dn) ++ Nu) Zy (Zy.length : Int) (wrap64 (J4 + 1))) else (none))) else (none))) else (none)) else (none))) else (none)) = some r := H
           have A60 := Za.mk Jws
           clear Jws
           by_cases c61 : Kw.size + Uf.size ≤ 9223372036854775807
           ·rw [if_pos c61] at H
            try simp only [show wrap64 ((Kw.size : Int) + (Uf.size : Int)) = (Kw.size : Int) + (Uf.size : Int) from by unfold wrap64;omega] at *
            have Vgy := eq_true c61
            have Vgz : decide (Kw.size + Uf.size ≤ 9223372036854775807) = true := decide_eq_true c61
            try have Vg0 : (9223372036854775807 < Kw.size + Uf.size) = False := eq_false (Nat.not_lt.2 c61)
            obtain ⟨jh,Z1l⟩ : ∃ y_ : List ByteArray,y_ = (([(⟨#[116]⟩ : ByteArray),(⟨#[110]⟩ : ByteArray),(⟨#[109]⟩ : ByteArray)] : List ByteArray)) := ⟨_,rfl⟩
            replace H : (if 0 ≤ ((Z6 Zy J4).f1) then (if ((Z6 Zy J4).f1) < (jh.length : Int) then ((Z0.f (Ha ByteArray.empty jh ((Z6 Zy J4).f1))).bind fun Dn => (if (Kw ++ Uf).size + Dn.size ≤ 9223372036854775807 then ((Z0.f ((Z6 Zy J4).f2)).bind fun Nu => (if ((Kw ++ Uf) ++ Dn).size + Nu.size ≤ 9223372036854775807 then (Zh.l1 k1 (((Kw ++ Uf) ++ Dn) ++ Nu) Zy (Zy.length : Int) (wrap64 (J4 + 1))) else (none))) else (none))) else (none)) else (none)) = some r := by first | (rw [Z1l];with_reducible exact H) | (have jg := (Option.bind_some _ _).symm.trans H;rw [Z1l];with_reducible exact jg) | (have jg := (Option.bind_some _ _).symm.trans H;with_reducible exact jg) | with_reducible exact H | (rw [Z1l];exact H) | exact H
            have Jfq := Za.mk Z1l
            clear Z1l
            by_cases c62 : 0 ≤ ((Z6 Zy J4).f1)
            ·rw [if_pos c62] at H
             have Vg1 : decide (0 ≤ ((Z6 Zy J4).f1)) = true := decide_eq_true c62
             clear c62
             by_cases c63 : ((Z6 Zy J4).f1) < (jh.length : Int)
             ·rw [if_pos c63] at H
              have Vg2 : decide (((Z6 Zy J4).f1) < (jh.length : Int)) = true := decide_eq_true c63
              clear c63
              replace H := Option.bind_eq_some_iff.mp H
              obtain ⟨Dn,Jwt,H⟩ := H
              replace H : (if (Kw ++ Uf).size + Dn.size ≤ 9223372036854775807 then ((Z0.f ((Z6 Zy J4).f2)).bind fun Nu => (if ((Kw ++ Uf) ++ Dn).size + Nu.size ≤ 9223372036854775807 then (Zh.l1 k1 (((Kw ++ Uf) ++ Dn) ++ Nu) Zy (Zy.length : Int) (wrap64 (J4 + 1))) else (none))) else (none)) = some r := H
              have A64 := Za.mk Jwt
              clear Jwt
              by_cases c65 : (Kw ++ Uf).size + Dn.size ≤ 9223372036854775807
              ·rw [if_pos c65] at H
               have Vg3 := eq_true c65
               try have Jpw := c65
               try simp only [ByteArray.size_append] at Jpw
               try have Vkp := eq_false (Nat.not_lt.2 Jpw)
               try have Vkq := eq_true Jpw
               have Vg4 : decide ((Kw ++ Uf).size + Dn.size ≤ 9223372036854775807) = true := decide_eq_true c65
               try have Vg5 : (9223372036854775807 < (Kw ++ Uf).size + Dn.size) = False := eq_false (Nat.not_lt.2 c65)
               replace H := Option.bind_eq_some_iff.mp H
               obtain ⟨Nu,Jwu,H⟩ := H
               replace H : (if ((Kw ++ Uf) ++ Dn).size + Nu.size ≤ 9223372036854775807 then (Zh.l1 k1 (((Kw ++ Uf) ++ Dn) ++ Nu) Zy (Zy.length : Int) (wrap64 (J4 + 1))) else (none)) = some r := H
               have A66 := Za.mk Jwu
               clear Jwu
               by_cases c67 : ((Kw ++ Uf) ++ Dn).size + Nu.size ≤ 9223372036854775807
               ·rw [if_pos c67] at H
                have Jwv := eq_true c67
                try have Jpx := c67
                try simp only [ByteArray.size_append] at Jpx
                try have Vks := eq_false (Nat.not_lt.2 Jpx)
                try have Vkt := eq_true Jpx
                have Vg6 : decide (((Kw ++ Uf) ++ Dn).size + Nu.size ≤ 9223372036854775807) = true := decide_eq_true c67
                try have Vg7 : (9223372036854775807 < ((Kw ++ Uf) ++ Dn).size + Nu.size) = False := eq_false (Nat.not_lt.2 c67)
                have H' := Za.mk H
                clear H
                have Jpy : 0 ≤ (J4 : Int) := of_decide_eq_true Wp
                have Jpz : J4 < (Zy.length : Int) := of_decide_eq_true Wp
                obtain ⟨Zir,e290,Zw0,Zw1,Zw2⟩ := ja Za5.out J4 Jpy Jpz
                cases e290
                replace Zw0 := (HB.out.cell (World.block_lt_of_cell? w _ Zw0)).trans Zw0
                replace Zw1 := (HB.out.cell (World.block_lt_of_cell? w _ Zw1)).trans Zw1
                replace Zw2 := (HB.out.cell (World.block_lt_of_cell? w _ Zw2)).trans Zw2
                replace Jpy := eq_true Jpy
                replace Jpz := eq_true Jpz
                try go_wp2_with (first | ((with_reducible refine Jg (N := 9) rfl ?_);refine Je ?hg (N := 9) ?hd (cs := #[.string (⟨#[]⟩ : ByteArray),.int .i64 0,.string (⟨#[]⟩ : ByteArray)]) (t := 44) ?hr ?_;(case hd => rfl);(case hg => rfl);(case hr => exact Q0);intro Qu hg w68 hbox hb;have X3 := Za.mk (hbox);have Vg8 := Za.mk (((by rw [hg];exact (Jh Vh)) : w.heap.size ≤ Qu));have Jv5 := Za.mk (((by rw [hg];exact (Jh Vh)) : w.heap.size ≤ Qu));replace HB := Za.mk (Zm Vh hb);have Zdz := Za.mk (((by rw [hg];exact Nat.ne_of_lt (Y3 (g := Ya) (o := .cells #[.int .i64 Z5,.string Jb,.string Jc,.bool Jt,.slice Vw Jd.length Vu,.string Jn,.string Jm,.slice (some Zir) Zy.length Vv] 29 (0,0)) J5)) : Ya ≠ Qu));have Jb6 := Za.mk (((by rw [hg];exact Nat.ne_of_gt (Y3 (g := Ya) (o := .cells #[.int .i64 Z5,.string Jb,.string Jc,.bool Jt,.slice Vw Jd.length Vu,.string Jn,.string Jm,.slice (some Zir) Zy.length Vv] 29 (0,0)) J5)) : Qu ≠ Ya));replace Ji := Za.mk (Zw (g := Ya) (o := .cells #[.int .i64 Z5,.string Jb,.string Jc,.bool Jt,.slice Vw Jd.length Vu,.string Jn,.string Jm,.slice (some Zir) Zy.length Vv] 29 (0,0)) J5 hb);clear hb hbox hg;have Jug := Jb6.out;have Juh := Zdz.out;obtain ⟨Jjm,Jjn,Jjo,Jjp,Jjq,Jjr⟩ := Va X3.out))
                have Jww : (0 ≤ (((Z6 Zy J4).f1) : Int)) = True := eq_true (of_decide_eq_true Wp)
                have Jwx : (((Z6 Zy J4).f1) < (jh.length : Int)) = True := eq_true (of_decide_eq_true Wp)
                have Gt : Za ((((w68.setCell ⟨Qu,0,none⟩ (.string ((Z6 Zy J4).f0))).setCell ⟨Qu,1,none⟩ (.int .i64 ((Z6 Zy J4).f1))).setCell ⟨Qu,2,none⟩ (.string ((Z6 Zy J4).f2))).heap[Ya]? = some (.cells #[.int .i64 Z5,.string Jb,.string Jc,.bool Jt,.slice Vw Jd.length Vu,.string Jn,.string Jm,.slice (some Zir) Zy.length Vv] 29 (0,0))) := ⟨(by (with_reducible repeat (first | refine Zc ?_ _ | refine Zf ?_ | refine Zb ?_ _));refine Jl ?_ Zdz.out _;(with_reducible repeat (first | refine Zc ?_ _ | refine Zf ?_ | refine Zb ?_ _));refine Jl ?_ Zdz.out _;(with_reducible repeat (first | refine Zc ?_ _ | refine Zf ?_ | refine Zb ?_ _));refine Jl ?_ Zdz.out _;(with_reducible repeat (first | refine Zc ?_ _ | refine Zf ?_ | refine Zb ?_ _));exact Ji.out)⟩
                have Hy : Za ((((w68.setCell ⟨Qu,0,none⟩ (.string ((Z6 Zy J4).f0))).setCell ⟨Qu,1,none⟩ (.int .i64 ((Z6 Zy J4).f1))).setCell ⟨Qu,2,none⟩ (.string ((Z6 Zy J4).f2))).heap[Qu]? = some (.cells #[.string ((Z6 Zy J4).f0),.int .i64 ((Z6 Zy J4).f1),.string ((Z6 Zy J4).f2)] 44 (0,0))) := ⟨(by (with_reducible repeat (first | refine Zc ?_ _ | refine Zf ?_ | refine Zb ?_ _));refine Zo (cs := #[.string ((Z6 Zy J4).f0),.int .i64 ((Z6 Zy J4).f1),.string (⟨#[]⟩ : ByteArray)]) ?_ 2 _ rfl;(with_reducible repeat (first | refine Zc ?_ _ | refine Zf ?_ | refine Zb ?_ _));refine Zo (cs := #[.string ((Z6 Zy J4).f0),.int .i64 0,.string (⟨#[]⟩ : ByteArray)]) ?_ 1 _ rfl;(with_reducible repeat (first | refine Zc ?_ _ | refine Zf ?_ | refine Zb ?_ _));refine Zo (cs := #[.string (⟨#[]⟩ : ByteArray),.int .i64 0,.string (⟨#[]⟩ : ByteArray)]) ?_ 0 _ rfl;(with_reducible repeat (first | refine Zc ?_ _ | refine Zf ?_ | refine Zb ?_ _));exact X3.out)⟩
                have n2_ : Za (Below w.heap.size w (((w68.setCell ⟨Qu,0,none⟩ (.string ((Z6 Zy J4).f0))).setCell ⟨Qu,1,none⟩ (.int .i64 ((Z6 Zy J4).f1))).setCell ⟨Qu,2,none⟩ (.string ((Z6 Zy J4).f2)))) := ⟨Vz⟩
                (try clear Ji)
                (try clear X3)
                (try clear HB)
                generalize (((w68.setCell ⟨Qu,0,none⟩ (.string ((Z6 Zy J4).f0))).setCell ⟨Qu,1,none⟩ (.int .i64 ((Z6 Zy J4).f1))).setCell ⟨Qu,2,none⟩ (.string ((Z6 Zy J4).f2))) = w71 at Gt Hy n2_ ⊢
                have Ji := Gt
                have X3 := Hy
                have HB := n2_
                clear Gt Hy n2_
                replace Ji := Za.mk (Zf Ji.out)
                replace X3 := Za.mk (Zf X3.out)
                replace HB := Za.mk (Zz HB.out)
                refine Hd (n := 17) (S := fun w' => True) (ds := []) #[false,false,false,false,false,false,false,false,false,false,false,false,false,false,false,false,false] (by kernel_rfl) rfl rfl trivial (fun hHeld => ?_);refine Dr Zh.Jwa Zh.Jpp (fun HT_ HW_ => ?_)
                generalize w71.drew = w72 at Ji X3 HB hHeld ⊢
                refine V3 (i := 0) (N := some 76) (v := ?_) (a' := ?_) #[true,false,false,false,false,false,false,false,false,false,false,false,false,false,false,false,false] rfl rfl (Vk HT_.out (by kernel_rfl)) (fun _ _ _ h => h) (Or.inl ⟨(by rfl),?_⟩) ?_ ?_
                rotate_left
                ·intro w'
                 go_simp
                 with_reducible rfl
                rotate_left
                ·simp only [Act.put,List.setIfInBounds_toArray,List.set_cons_zero,List.set_cons_succ,Jo,Jq]
                 rfl
                refine V3 (i := 1) (N := some 77) (v := ?_) (a' := ?_) #[true,true,false,false,false,false,false,false,false,false,false,false,false,false,false,false,false] rfl rfl (Vk HT_.out (by kernel_rfl)) (fun _ _ _ h => h) (Or.inl ⟨(by rfl),?_⟩) ?_ ?_
                rotate_left
                ·intro w'
                 go_simp
                 with_reducible rfl
                rotate_left
                ·simp only [Act.put,List.setIfInBounds_toArray,List.set_cons_zero,List.set_cons_succ,Jo,Jq]
                 rfl
                refine V3 (i := 6) (N := some 82) (v := ?_) (a' := ?_) #[true,true,false,false,false,false,true,false,false,false,false,false,false,false,false,false,false] rfl rfl (Vk HT_.out (by kernel_rfl)) (fun _ _ _ h => h) (Or.inl ⟨(by rfl),?_⟩) ?_ ?_
                rotate_left
                ·intro w'
                 go_simp
                 with_reducible rfl
                rotate_left
                ·simp only [Act.put,List.setIfInBounds_toArray,List.set_cons_zero,List.set_cons_succ,Jo,Jq]
                 rfl
                refine V3 (i := 12) (N := some 88) (v := ?_) (a' := ?_) #[true,true,false,false,false,false,true,false,false,false,false,false,true,false,false,false,false] rfl rfl (Vk HT_.out (by kernel_rfl)) (fun _ _ _ h => h) (Or.inl ⟨(by rfl),?_⟩) ?_ ?_
                rotate_left
                ·intro w'
                 go_simp
                 with_reducible rfl
                rotate_left
                ·simp only [Act.put,List.setIfInBounds_toArray,List.set_cons_zero,List.set_cons_succ,Jo,Jq]
                 rfl
                refine Job [2,3,4,5,7,8,9,10,11,13,14,15,16] (fun a0_ b a w' => ∃ (Hr : Value) (Vx : Addr) (m8_ : Value),a = Ko a0_ b [(2,78,.string ((Z6 Zy J4).f0)),(3,79,.string Uf),(4,80,.string (Kw ++ Uf)),(5,81,Hr),(7,83,.int .i64 ((Z6 Zy J4).f1)),(8,84,m8_),(9,85,.string (Ha ByteArray.empty jh ((Z6 Zy J4).f1))),(10,86,.string Dn),(11,87,.string ((Kw ++ Uf) ++ Dn)),(13,89,.string ((Z6 Zy J4).f2)),(14,90,.string Nu),(15,91,.string (((Kw ++ Uf) ++ Dn) ++ Nu)),(16,7,.string (((Kw ++ Uf) ++ Dn) ++ Nu))] ∧ (w'.heap[Ya]? = some (.cells #[.int .i64 Z5,.string Jb,.string Jc,.bool Jt,.slice Vw Jd.length Vu,.string Jn,.string Jm,.slice (some Zir) Zy.length Vv] 29 (0,0))) ∧ (w'.heap[Qu]? = some (.cells #[.string ((Z6 Zy J4).f0),.int .i64 ((Z6 Zy J4).f1),.string ((Z6 Zy J4).f2)] 44 (0,0))) ∧ (Below w.heap.size w w') ∧ (b 5 = true → Kd.R Kd.string 9 w' w.heap.size (fun _ => True) Hr jh) ∧ (b 5 = true → ∃ c_,(Hr : Value) = .slice (some Vx) jh.length c_) ∧ (b 8 = true → (m8_ : Value) = .pointer (some (Vx.add (((Z6 Zy J4).f1)).toNat)))) HT_.out HW_.out (by kernel_rfl) (by kernel_rfl) ?_ ?_ ?_
                ·exact ⟨.bool false,⟨0,0,none⟩,.bool false,(by simp only [Ko,Bool.false_eq_true,if_false]),Ji.out,X3.out,HB.out,fun h_ => absurd h_ (by decide),fun h_ => absurd h_ (by decide),fun h_ => absurd h_ (by decide)⟩
                ·skip
                 clear Ji X3 HB
                 refine Qe ?_ ?_
                 ·rintro b a w' ⟨Hr,Vx,m8_,ha,V5,V6,Q_HB,Yf,J9,Dq⟩ hb_ hon hoff
                  refine ⟨_,rfl,fun K hK => ?_⟩
                  have e77 : a.tmps[77]? = some (.pointer (some ⟨Qu,0,none⟩)) := by rw [ha];exact (Hg rfl).trans rfl
                  replace ha := Za.mk ha
                  have Ji := Za.mk V5
                  have X3 := Za.mk V6
                  have HB := Za.mk Q_HB
                  have Jwy : w'.cell? ⟨Qu,0,none⟩ = some (.string ((Z6 Zy J4).f0)) := (Zd X3.out 0).trans rfl
                  have Jwz : w'.cell? ⟨Qu,1,none⟩ = some (.int .i64 ((Z6 Zy J4).f1)) := (Zd X3.out 1).trans rfl
                  have Jw0 : w'.cell? ⟨Qu,2,none⟩ = some (.string ((Z6 Zy J4).f2)) := (Zd X3.out 2).trans rfl
                  refine wh (w1 := w') (v := .string ((Z6 Zy J4).f0)) (by rfl) rfl ?_ ?_
                  ·go_simp
                   (try simp only [Jo])
                   try rfl
                  refine hK.out _ _ ⟨Hr,Vx,m8_,(by rw [ha.out];exact Qf 0 hb_ rfl rfl rfl),V5,V6,Q_HB,Yf,J9,Dq⟩
                 refine Qe ?_ ?_
                 ·rintro b a w' ⟨Hr,Vx,m8_,ha,V5,V6,Q_HB,Yf,J9,Dq⟩ hb_ hon hoff
                  refine ⟨_,rfl,fun K hK => ?_⟩
                  have e78 : a.tmps[78]? = some (.string ((Z6 Zy J4).f0)) := by rw [ha];exact Q8 (e := (2,78,.string ((Z6 Zy J4).f0))) 0 rfl rfl (hon 2 (by kernel_rfl)) rfl
                  replace ha := Za.mk ha
                  have Ji := Za.mk V5
                  have X3 := Za.mk V6
                  have HB := Za.mk Q_HB
                  refine Uk Tryz.func19 (by kernel_rfl) rfl #[.string ((Z6 Zy J4).f0)] (by rfl) rfl rfl (by first | (simp only [List.map_toArray,List.map_cons,List.map_nil,Act.eval,Array.getD_eq_getD_getElem?,Option.getD_some,e78];done) | (simp only [List.map_toArray,List.map_cons,List.map_nil,Act.eval,Array.getD_eq_getD_getElem?,Option.getD_some,e78];rfl)) ?_
                  with_reducible refine (Z0.calls ((Z6 Zy J4).f0) Uf _ A60.out).mono ?_
                  rintro e w73 ⟨rfl,hb⟩
                  refine ⟨_,rfl,?_⟩
                  have Gt := Za.mk (Zw (g := Ya) (o := .cells #[.int .i64 Z5,.string Jb,.string Jc,.bool Jt,.slice Vw Jd.length Vu,.string Jn,.string Jm,.slice (some Zir) Zy.length Vv] 29 (0,0)) J5 hb)
                  have Hy := Za.mk (Zw (g := Qu) (o := .cells #[.string ((Z6 Zy J4).f0),.int .i64 ((Z6 Zy J4).f1),.string ((Z6 Zy J4).f2)] 44 (0,0)) Xu hb)
                  have n2_ := Za.mk (Zm Vz hb)
                  have Jj0 := fun (h0_ : b 5 = true) => (show Kd.R Kd.string 9 w73 w.heap.size (fun _ => True) Hr jh from by first | exact (Kd.Qq (by (with_reducible repeat (first | apply Kd.Yv | apply Kd.Yw | apply Kd.Xl));exact (Yf h0_)) hb) | exact Kd.Xc (Kd.Qq (by (with_reducible repeat (first | apply Kd.Yv | apply Kd.Yw | apply Kd.Xl));exact (Yf h0_)) hb) (fun _ h_ => by first | trivial | exact h_ | exact h_.1))
                  clear Ji X3 HB
                  have Ji := Gt
                  have X3 := Hy
                  have HB := n2_
                  clear Gt Hy n2_
                  (try clear hb)
                  (try clear hb2)
                  (try clear hk)
                  (try clear hi)
                  refine hK.out _ _ ⟨Hr,Vx,m8_,(by rw [ha.out];exact Qf 1 hb_ rfl rfl rfl),J5,Xu,Vz,Jj0,J9,Dq⟩
                 refine Qe ?_ ?_
                 ·rintro b a w' ⟨Hr,Vx,m8_,ha,V5,V6,Q_HB,Yf,J9,Dq⟩ hb_ hon hoff
                  refine ⟨_,rfl,fun K hK => ?_⟩
                  have e76 : a.tmps[76]? = some (.string Kw) := by rw [ha];exact (Hg rfl).trans rfl
                  have e79 : a.tmps[79]? = some (.string Uf) := by rw [ha];exact Q8 (e := (3,79,.string Uf)) 1 rfl rfl (hon 3 (by kernel_rfl)) rfl
                  replace ha := Za.mk ha
                  have Ji := Za.mk V5
                  have X3 := Za.mk V6
                  have HB := Za.mk Q_HB
                  refine wh (w1 := w') (v := .string (Kw ++ Uf)) (by rfl) rfl ?_ ?_
                  ·go_simp
                   (try simp only [Jo])
                   try rfl
                  refine hK.out _ _ ⟨Hr,Vx,m8_,(by rw [ha.out];exact Qf 2 hb_ rfl rfl rfl),V5,V6,Q_HB,Yf,J9,Dq⟩
                 refine Qe ?_ ?_
                 ·rintro b a w' ⟨Hr,Vx,m8_,ha,V5,V6,Q_HB,Yf,J9,Dq⟩ hb_ hon hoff
                  refine ⟨_,rfl,fun K hK => ?_⟩
                  replace ha := Za.mk ha
                  have Ji := Za.mk V5
                  have X3 := Za.mk V6
                  have HB := Za.mk Q_HB
                  refine Kd.fe Kd.string _ 9 ?hg (N := 81) ?hd (xs := ([(⟨#[116]⟩ : ByteArray),(⟨#[110]⟩ : ByteArray),(⟨#[109]⟩ : ByteArray)] : List ByteArray)) (inner := [.string (⟨#[116]⟩ : ByteArray),.string (⟨#[110]⟩ : ByteArray),.string (⟨#[109]⟩ : ByteArray)]) (ok := fun _ => True) (okp := fun _ => True) ?hr ?hp (fun _ hk => hk) trivial (Below.refl _ _) (Nat.le_refl _) (by simp) ?_;(case hd => rfl);(case hg => rfl);(case hr => exact Q0);(case hp => exact (Vy.one (show Kd.M Kd.string _ _ _ (⟨#[116]⟩ : ByteArray) [.string (⟨#[116]⟩ : ByteArray)] from rfl) (Vy.one (show Kd.M Kd.string _ _ _ (⟨#[110]⟩ : ByteArray) [.string (⟨#[110]⟩ : ByteArray)] from rfl) (Vy.one (show Kd.M Kd.string _ _ _ (⟨#[109]⟩ : ByteArray) [.string (⟨#[109]⟩ : ByteArray)] from rfl) (Vy.none _ _)))))
                  intro Hr w73 Jfr hb hg_ hnew_
                  clear hg_ hnew_
                  (first | rw [← Jfq.out] at Jfr | (simp only [Int.reduceToNat] at Jfr;rw [← Jfq.out] at Jfr))
                  have uz := Za.mk (Kd.Pg Jfr (Jh Vz))
                  replace Ji := Za.mk (Zw (g := Ya) (o := .cells #[.int .i64 Z5,.string Jb,.string Jc,.bool Jt,.slice Vw Jd.length Vu,.string Jn,.string Jm,.slice (some Zir) Zy.length Vv] 29 (0,0)) J5 hb)
                  replace X3 := Za.mk (Zw (g := Qu) (o := .cells #[.string ((Z6 Zy J4).f0),.int .i64 ((Z6 Zy J4).f1),.string ((Z6 Zy J4).f2)] 44 (0,0)) Xu hb)
                  replace HB := Za.mk (Zm Vz hb)
                  clear hb Jfr
                  obtain ⟨Vkw,Vc3,Vc4⟩ := Kd.Dw uz.out
                  subst Vc4
                  obtain ⟨Jmm,Vc5,_⟩ := Kd.Ht (Kd.Ld uz.out).2.2 0 (by decide) (by rw [Jfq.out];simp)
                  cases Vc5
                  refine hK.out _ _ ⟨.slice (some Jmm) jh.length Vc3,Jmm,m8_,(by rw [ha.out];exact Qf 3 hb_ rfl rfl rfl),J5,Xu,Vz,fun _ => Qg,fun _ => ⟨_,rfl⟩,fun h0_ => absurd ((hoff 8 (by kernel_rfl)).symm.trans h0_) (by decide)⟩
                 refine Qe ?_ ?_
                 ·rintro b a w' ⟨Hr,Vx,m8_,ha,V5,V6,Q_HB,Yf,J9,Dq⟩ hb_ hon hoff
                  refine ⟨_,rfl,fun K hK => ?_⟩
                  have e82 : a.tmps[82]? = some (.pointer (some ⟨Qu,1,none⟩)) := by rw [ha];exact (Hg rfl).trans rfl
                  replace ha := Za.mk ha
                  have Ji := Za.mk V5
                  have X3 := Za.mk V6
                  have HB := Za.mk Q_HB
                  have Jwy : w'.cell? ⟨Qu,0,none⟩ = some (.string ((Z6 Zy J4).f0)) := (Zd X3.out 0).trans rfl
                  have Jwz : w'.cell? ⟨Qu,1,none⟩ = some (.int .i64 ((Z6 Zy J4).f1)) := (Zd X3.out 1).trans rfl
                  have Jw0 : w'.cell? ⟨Qu,2,none⟩ = some (.string ((Z6 Zy J4).f2)) := (Zd X3.out 2).trans rfl
                  refine wh (w1 := w') (v := .int .i64 ((Z6 Zy J4).f1)) (by rfl) rfl ?_ ?_
                  ·go_simp
                   (try simp only [Jo])
                   try rfl
                  refine hK.out _ _ ⟨Hr,Vx,m8_,(by rw [ha.out];exact Qf 4 hb_ rfl rfl rfl),V5,V6,Q_HB,Yf,J9,fun h0_ => absurd ((hoff 8 (by kernel_rfl)).symm.trans h0_) (by decide)⟩
                 refine Qe ?_ ?_
                 ·rintro b a w' ⟨Hr,Vx,m8_,ha,V5,V6,Q_HB,Yf,J9,Dq⟩ hb_ hon hoff
                  refine ⟨_,rfl,fun K hK => ?_⟩
                  have e81 : a.tmps[81]? = some (Hr) := by rw [ha];exact Q8 (e := (5,81,Hr)) 3 rfl rfl (hon 5 (by kernel_rfl)) rfl
                  have e83 : a.tmps[83]? = some (.int .i64 ((Z6 Zy J4).f1)) := by rw [ha];exact Q8 (e := (7,83,.int .i64 ((Z6 Zy J4).f1))) 4 rfl rfl (hon 7 (by kernel_rfl)) rfl
                  replace ha := Za.mk ha
                  have Ji := Za.mk V5
                  have X3 := Za.mk V6
                  have HB := Za.mk Q_HB
                  have uz := Za.mk (Yf (hon 5 (by kernel_rfl)))
                  have Ug := Za.mk (J9 (hon 5 (by kernel_rfl)))
                  obtain ⟨c_,hv_⟩ := Ug.out
                  rw [hv_] at e81
                  refine wh (w1 := w') (v := .pointer (some (Vx.add (((Z6 Zy J4).f1)).toNat))) (by rfl) rfl ?_ ?_
                  ·go_simp
                   (try simp only [Jo])
                   try rfl
                  refine hK.out _ _ ⟨Hr,Vx,(.pointer (some (Vx.add (((Z6 Zy J4).f1)).toNat))),(by rw [ha.out];exact Qf 5 hb_ rfl rfl rfl),V5,V6,Q_HB,Yf,J9,fun _ => rfl⟩
                 refine Qe ?_ ?_
                 ·rintro b a w' ⟨Hr,Vx,m8_,ha,V5,V6,Q_HB,Yf,J9,Dq⟩ hb_ hon hoff
                  refine ⟨_,rfl,fun K hK => ?_⟩
                  have e84 : a.tmps[84]? = some (m8_) := by rw [ha];exact Q8 (e := (8,84,m8_)) 5 rfl rfl (hon 8 (by kernel_rfl)) rfl
                  rw [Dq (hon 8 (by kernel_rfl))] at e84
                  replace ha := Za.mk ha
                  have Ji := Za.mk V5
                  have X3 := Za.mk V6
                  have HB := Za.mk Q_HB
                  have uz := Za.mk (Yf (hon 5 (by kernel_rfl)))
                  have Ug := Za.mk (J9 (hon 5 (by kernel_rfl)))
                  obtain ⟨c_,hv_⟩ := Ug.out
                  have hF_ := uz.out
                  rw [hv_] at hF_
                  obtain ⟨ad_,ea_,hx_⟩ := Kd.Ht (Kd.Ld hF_).2.2 ((Z6 Zy J4).f1) (of_eq_true Jww) (of_eq_true Jwx)
                  cases ea_
                  refine wh (w1 := w') (v := .string (Ha ByteArray.empty jh ((Z6 Zy J4).f1))) (by rfl) rfl ?_ ?_
                  ·go_simp
                   (try simp only [Jo])
                   try rfl
                  refine hK.out _ _ ⟨Hr,Vx,m8_,(by rw [ha.out];exact Qf 6 hb_ rfl rfl rfl),V5,V6,Q_HB,Yf,J9,Dq⟩
                 refine Qe ?_ ?_
                 ·rintro b a w' ⟨Hr,Vx,m8_,ha,V5,V6,Q_HB,Yf,J9,Dq⟩ hb_ hon hoff
                  refine ⟨_,rfl,fun K hK => ?_⟩
                  have e85 : a.tmps[85]? = some (.string (Ha ByteArray.empty jh ((Z6 Zy J4).f1))) := by rw [ha];exact Q8 (e := (9,85,.string (Ha ByteArray.empty jh ((Z6 Zy J4).f1)))) 6 rfl rfl (hon 9 (by kernel_rfl)) rfl
                  replace ha := Za.mk ha
                  have Ji := Za.mk V5
                  have X3 := Za.mk V6
                  have HB := Za.mk Q_HB
                  have uz := Za.mk (Yf (hon 5 (by kernel_rfl)))
                  have Ug := Za.mk (J9 (hon 5 (by kernel_rfl)))
                  obtain ⟨Jw1,Jp0⟩ := Ug.out
                  clear Ug
                  subst Jp0
                  refine Uk Tryz.func19 (by kernel_rfl) rfl #[.string (Ha ByteArray.empty jh ((Z6 Zy J4).f1))] (by rfl) rfl rfl (by first | (simp only [List.map_toArray,List.map_cons,List.map_nil,Act.eval,Array.getD_eq_getD_getElem?,Option.getD_some,e85];done) | (simp only [List.map_toArray,List.map_cons,List.map_nil,Act.eval,Array.getD_eq_getD_getElem?,Option.getD_some,e85];rfl)) ?_
                  with_reducible refine (Z0.calls (Ha ByteArray.empty jh ((Z6 Zy J4).f1)) Dn _ A64.out).mono ?_
                  rintro e w79 ⟨rfl,hb⟩
                  refine ⟨_,rfl,?_⟩
                  replace uz := Za.mk (Kd.Qq Qg hb)
                  replace Ji := Za.mk (Zw (g := Ya) (o := .cells #[.int .i64 Z5,.string Jb,.string Jc,.bool Jt,.slice Vw Jd.length Vu,.string Jn,.string Jm,.slice (some Zir) Zy.length Vv] 29 (0,0)) J5 hb)
                  replace X3 := Za.mk (Zw (g := Qu) (o := .cells #[.string ((Z6 Zy J4).f0),.int .i64 ((Z6 Zy J4).f1),.string ((Z6 Zy J4).f2)] 44 (0,0)) Xu hb)
                  replace HB := Za.mk (Zm Vz hb)
                  (try clear hb)
                  (try clear hb2)
                  (try clear hk)
                  (try clear hi)
                  refine hK.out _ _ ⟨.slice (some Vx) jh.length Jw1,Vx,m8_,(by rw [ha.out];exact Qf 7 hb_ rfl rfl rfl),J5,Xu,Vz,fun _ => Qg,fun _ => ⟨_,rfl⟩,Dq⟩
                 refine Qe ?_ ?_
                 ·rintro b a w' ⟨Hr,Vx,m8_,ha,V5,V6,Q_HB,Yf,J9,Dq⟩ hb_ hon hoff
                  refine ⟨_,rfl,fun K hK => ?_⟩
                  have e80 : a.tmps[80]? = some (.string (Kw ++ Uf)) := by rw [ha];exact Q8 (e := (4,80,.string (Kw ++ Uf))) 2 rfl rfl (hon 4 (by kernel_rfl)) rfl
                  have e86 : a.tmps[86]? = some (.string Dn) := by rw [ha];exact Q8 (e := (10,86,.string Dn)) 7 rfl rfl (hon 10 (by kernel_rfl)) rfl
                  replace ha := Za.mk ha
                  have Ji := Za.mk V5
                  have X3 := Za.mk V6
                  have HB := Za.mk Q_HB
                  have uz := Za.mk (Yf (hon 5 (by kernel_rfl)))
                  have Ug := Za.mk (J9 (hon 5 (by kernel_rfl)))
                  refine wh (w1 := w') (v := .string ((Kw ++ Uf) ++ Dn)) (by rfl) rfl ?_ ?_
                  ·go_simp
                   (try simp only [Jo])
                   try rfl
                  refine hK.out _ _ ⟨Hr,Vx,m8_,(by rw [ha.out];exact Qf 8 hb_ rfl rfl rfl),V5,V6,Q_HB,Yf,J9,Dq⟩
                 refine Qe ?_ ?_
                 ·rintro b a w' ⟨Hr,Vx,m8_,ha,V5,V6,Q_HB,Yf,J9,Dq⟩ hb_ hon hoff
                  refine ⟨_,rfl,fun K hK => ?_⟩
                  have e88 : a.tmps[88]? = some (.pointer (some ⟨Qu,2,none⟩)) := by rw [ha];exact (Hg rfl).trans rfl
                  replace ha := Za.mk ha
                  have Ji := Za.mk V5
                  have X3 := Za.mk V6
                  have HB := Za.mk Q_HB
                  have Jwy : w'.cell? ⟨Qu,0,none⟩ = some (.string ((Z6 Zy J4).f0)) := (Zd X3.out 0).trans rfl
                  have Jwz : w'.cell? ⟨Qu,1,none⟩ = some (.int .i64 ((Z6 Zy J4).f1)) := (Zd X3.out 1).trans rfl
                  have Jw0 : w'.cell? ⟨Qu,2,none⟩ = some (.string ((Z6 Zy J4).f2)) := (Zd X3.out 2).trans rfl
                  refine wh (w1 := w') (v := .string ((Z6 Zy J4).f2)) (by rfl) rfl ?_ ?_
                  ·go_simp
                   (try simp only [Jo])
                   try rfl
                  refine hK.out _ _ ⟨Hr,Vx,m8_,(by rw [ha.out];exact Qf 9 hb_ rfl rfl rfl),V5,V6,Q_HB,Yf,J9,Dq⟩
                 refine Qe ?_ ?_
                 ·rintro b a w' ⟨Hr,Vx,m8_,ha,V5,V6,Q_HB,Yf,J9,Dq⟩ hb_ hon hoff
                  refine ⟨_,rfl,fun K hK => ?_⟩
                  have e89 : a.tmps[89]? = some (.string ((Z6 Zy J4).f2)) := by rw [ha];exact Q8 (e := (13,89,.string ((Z6 Zy J4).f2))) 9 rfl rfl (hon 13 (by kernel_rfl)) rfl
                  replace ha := Za.mk ha
                  have Ji := Za.mk V5
                  have X3 := Za.mk V6
                  have HB := Za.mk Q_HB
                  have uz := Za.mk (Yf (hon 5 (by kernel_rfl)))
                  have Ug := Za.mk (J9 (hon 5 (by kernel_rfl)))
                  obtain ⟨Jj1,Jj2⟩ := Ug.out
                  clear Ug
                  subst Jj2
                  refine Uk Tryz.func19 (by kernel_rfl) rfl #[.string ((Z6 Zy J4).f2)] (by rfl) rfl rfl (by first | (simp only [List.map_toArray,List.map_cons,List.map_nil,Act.eval,Array.getD_eq_getD_getElem?,Option.getD_some,e89];done) | (simp only [List.map_toArray,List.map_cons,List.map_nil,Act.eval,Array.getD_eq_getD_getElem?,Option.getD_some,e89];rfl)) ?_
                  with_reducible refine (Z0.calls ((Z6 Zy J4).f2) Nu _ A66.out).mono ?_
                  rintro e w80 ⟨rfl,hb⟩
                  refine ⟨_,rfl,?_⟩
                  replace uz := Za.mk (Kd.Qq Qg hb)
                  replace Ji := Za.mk (Zw (g := Ya) (o := .cells #[.int .i64 Z5,.string Jb,.string Jc,.bool Jt,.slice Vw Jd.length Vu,.string Jn,.string Jm,.slice (some Zir) Zy.length Vv] 29 (0,0)) J5 hb)
                  replace X3 := Za.mk (Zw (g := Qu) (o := .cells #[.string ((Z6 Zy J4).f0),.int .i64 ((Z6 Zy J4).f1),.string ((Z6 Zy J4).f2)] 44 (0,0)) Xu hb)
                  replace HB := Za.mk (Zm Vz hb)
                  (try clear hb)
                  (try clear hb2)
                  (try clear hk)
                  (try clear hi)
                  refine hK.out _ _ ⟨.slice (some Vx) jh.length Jj1,Vx,m8_,(by rw [ha.out];exact Qf 10 hb_ rfl rfl rfl),J5,Xu,Vz,fun _ => Qg,fun _ => ⟨_,rfl⟩,Dq⟩
                 refine Qe ?_ ?_
                 ·rintro b a w' ⟨Hr,Vx,m8_,ha,V5,V6,Q_HB,Yf,J9,Dq⟩ hb_ hon hoff
                  refine ⟨_,rfl,fun K hK => ?_⟩
                  have e87 : a.tmps[87]? = some (.string ((Kw ++ Uf) ++ Dn)) := by rw [ha];exact Q8 (e := (11,87,.string ((Kw ++ Uf) ++ Dn))) 8 rfl rfl (hon 11 (by kernel_rfl)) rfl
                  have e90 : a.tmps[90]? = some (.string Nu) := by rw [ha];exact Q8 (e := (14,90,.string Nu)) 10 rfl rfl (hon 14 (by kernel_rfl)) rfl
                  replace ha := Za.mk ha
                  have Ji := Za.mk V5
                  have X3 := Za.mk V6
                  have HB := Za.mk Q_HB
                  have uz := Za.mk (Yf (hon 5 (by kernel_rfl)))
                  have Ug := Za.mk (J9 (hon 5 (by kernel_rfl)))
                  refine wh (w1 := w') (v := .string (((Kw ++ Uf) ++ Dn) ++ Nu)) (by rfl) rfl ?_ ?_
                  ·go_simp
                   (try simp only [Jo])
                   try rfl
                  refine hK.out _ _ ⟨Hr,Vx,m8_,(by rw [ha.out];exact Qf 11 hb_ rfl rfl rfl),V5,V6,Q_HB,Yf,J9,Dq⟩
                 refine Qe ?_ ?_
                 ·rintro b a w' ⟨Hr,Vx,m8_,ha,V5,V6,Q_HB,Yf,J9,Dq⟩ hb_ hon hoff
                  refine ⟨_,rfl,fun K hK => ?_⟩
                  have e91 : a.tmps[91]? = some (.string (((Kw ++ Uf) ++ Dn) ++ Nu)) := by rw [ha];exact Q8 (e := (15,91,.string (((Kw ++ Uf) ++ Dn) ++ Nu))) 11 rfl rfl (hon 15 (by kernel_rfl)) rfl
                  replace ha := Za.mk ha
                  have Ji := Za.mk V5
                  have X3 := Za.mk V6
                  have HB := Za.mk Q_HB
                  have uz := Za.mk (Yf (hon 5 (by kernel_rfl)))
                  have Ug := Za.mk (J9 (hon 5 (by kernel_rfl)))
                  refine wh (w1 := w') (v := .string (((Kw ++ Uf) ++ Dn) ++ Nu)) (by rfl) rfl ?_ ?_
                  ·go_simp
                   (try simp only [Jo])
                   try rfl
                  refine hK.out _ _ ⟨Hr,Vx,m8_,(by rw [ha.out];exact Qf 12 hb_ rfl rfl rfl),V5,V6,Q_HB,Yf,J9,Dq⟩
                 exact Jbo
                rintro b a w79 hall ⟨Hr,Vx,m8_,ha,V5,V6,Q_HB,Yf,J9,Dq⟩
                clear Ji X3 HB
                have Jw2 := hall 2 (by kernel_rfl)
                have Jw3 := hall 3 (by kernel_rfl)
                have Jw4 := hall 4 (by kernel_rfl)
                have Jj3 := hall 5 (by kernel_rfl)
                have Jw5 := hall 7 (by kernel_rfl)
                have Jp1 := hall 8 (by kernel_rfl)
                have Jw6 := hall 9 (by kernel_rfl)
                have Jmn := hall 10 (by kernel_rfl)
                have Jmo := hall 11 (by kernel_rfl)
                have Jmp := hall 13 (by kernel_rfl)
                have Jmq := hall 14 (by kernel_rfl)
                have Jmr := hall 15 (by kernel_rfl)
                have Jms := hall 16 (by kernel_rfl)
                subst ha
                obtain rfl := Dq Jp1
                simp only [Ko,Jw2,Jw3,Jw4,Jj3,Jw5,Jp1,Jw6,Jmn,Jmo,Jmp,Jmq,Jmr,Jms,if_true,Act.put,List.setIfInBounds_toArray,List.set_cons_zero,List.set_cons_succ]
                have Ji := Za.mk V5
                clear V5
                have X3 := Za.mk V6
                clear V6
                have HB := Za.mk Q_HB
                clear Q_HB
                have uz := Za.mk (Yf Jj3)
                clear Yf
                have Ug := Za.mk (J9 Jj3)
                clear J9 hall Jw2 Jw3 Jw4 Jj3 Jw5 Jp1 Jw6 Jmn Jmo Jmp Jmq Jmr Jms
                obtain ⟨Vk0,Vc6⟩ := Ug.out
                clear Ug
                subst Vc6
                try go_wp2
                go_roundg k1
                case measure => have := HK1.out;omega
                case rel => exact ⟨(((Kw ++ Uf) ++ Dn) ++ Nu),(wrap64 (J4 + 1)),Dx,Dx,H',⟨(by have := HK1.out;omega)⟩,⟨J5⟩,⟨Vz⟩⟩
               ·rw [if_neg c67] at H
                exact absurd H (by simp)
              ·rw [if_neg c65] at H
               exact absurd H (by simp)
             ·rw [if_neg c63] at H
              exact absurd H (by simp)
            ·rw [if_neg c62] at H
             exact absurd H (by simp)
           ·rw [if_neg c61] at H
            exact absurd H (by simp)
          ·rw [if_neg c59] at H
           exact absurd H (by simp)
         ·rw [if_neg c58] at H
          exact absurd H (by simp)
        ·rw [if_neg c57] at H
         have Zr1 : decide (J4 < (Zy.length : Int)) = false := decide_eq_false c57
         clear c57
         obtain rfl := Option.some.inj H
         go_wp2
         go_ret
         exact ⟨Sy,Vh⟩
     ·rw [if_neg c47] at H
      exact absurd H (by simp)
    ·rw [if_neg c44] at H
     exact absurd H (by simp)
   ·rw [if_neg c42] at H
    exact absurd H (by simp)
end Go.Proofs.YtdhpcofnddkcaaaGreatDoor.S
namespace Go.Proofs.YtdhpcofnddkcaaaGreatDoor.S
open Go.RowKit Go.Proofs.YtdhpcofnddkcaaaGreatDoor.G Go.Proofs.YtdhpcofnddkcaaaGreatDoorW.PrintWords Go.Proofs.YtdhpcofnddkcaaaGreatDoorW.PrintLast Go.Proofs.YtdhpcofnddkcaaaGreatDoorW.PrintMore
set_option linter.unusedVariables false
set_option linter.unusedSimpArgs false
theorem Jw7 (l : List ByteArray) (i : Nat) (h : i < l.length) : Ha ByteArray.empty l (i : Int) = l[i] := by
  unfold Ha
  rw [Int.toNat_natCast,List.getD_eq_getElem?_getD,List.getElem?_eq_getElem h]
  rfl
theorem Jb7 (l : List ByteArray) (i : Nat) (h : i < l.length) : Net.encs (l.drop i) = Net.V4 l[i] ++ Net.encs (l.drop (i + 1)) := by rw [List.drop_eq_getElem_cons h,Net.J2]
theorem Jfs (l : List ByteArray) (hl : l.length ≤ 1000000) : ∀ (d i : Nat) (acc : List UInt8),l.length - i ≤ d → i ≤ l.length → acc.length + (Net.encs (l.drop i)).length ≤ 1000000 → ∀ k,d + 1 ≤ k →
    Zh.l0 k (Net.bs acc) l (l.length : Int) (i : Int) = some (Net.bs (acc ++ Net.encs (l.drop i))) := by
  intro d
  induction d with
  | zero =>
    intro i acc h1 h2 h3 k hk
    obtain ⟨m,rfl⟩ : ∃ m,k = m + 1 := ⟨k - 1,by omega⟩
    rw [Zh.l0,if_neg (by omega),List.drop_of_length_le (by omega),Net.K5,List.append_nil]
  | succ d ih =>
    intro i acc h1 h2 h3 k hk
    obtain ⟨m,rfl⟩ : ∃ m,k = m + 1 := ⟨k - 1,by omega⟩
    by_cases hi : i < l.length
    · rw [Jb7 l i hi] at h3 ⊢
      rw [List.length_append] at h3
      have hg := K3 l[i]
      rw [Zh.l0,if_pos (by omega),if_pos (by omega),if_pos (by omega),Jw7 l i hi,Hm _ (by omega),Option.bind_some,if_pos (by rw [Wi,Wi];omega),Pe,l5 _ (by omega) (by omega),
        show (i : Int) + 1 = ((i + 1 : Nat) : Int) by omega,ih (i + 1) (acc ++ Net.V4 l[i]) (by omega) (by omega) (by rw [List.length_append];omega) m (by omega),List.append_assoc]
    · rw [Zh.l0,if_neg (by omega),List.drop_of_length_le (by omega),Net.K5,List.append_nil]
theorem Jb8 (l : List Y4) (i : Nat) (h : i < l.length) : Net.encs (Net.Dj ((l.drop i).map Pb)) = (Net.V4 l[i].f0 ++ (Net.V4 (Net.tnm l[i].f1) ++ Net.V4 l[i].f2)) ++ Net.encs (Net.Dj ((l.drop (i + 1)).map Pb)) := by
  rw [List.drop_eq_getElem_cons h,List.map_cons,Net.He,Net.Ux,Net.Zga]
  rfl
theorem letter (k : Int) (h : k = 0 ∨ k = 1 ∨ k = 2) : Ha ByteArray.empty ([(⟨#[116]⟩ : ByteArray),(⟨#[110]⟩ : ByteArray),(⟨#[109]⟩ : ByteArray)] : List ByteArray) k = Net.tnm k := by
  rcases h with rfl | rfl | rfl <;> rfl
theorem Jft (l : List Y4) (hl : l.length ≤ 1000000) (hk : ∀ a ∈ l,a.f1 = 0 ∨ a.f1 = 1 ∨ a.f1 = 2) : ∀ (d i : Nat) (acc : List UInt8),l.length - i ≤ d → i ≤ l.length → acc.length + (Net.encs (Net.Dj ((l.drop i).map Pb))).length ≤ 1000000 → ∀ k,d + 1 ≤ k →
    Zh.l1 k (Net.bs acc) l (l.length : Int) (i : Int) = some (Net.bs (acc ++ Net.encs (Net.Dj ((l.drop i).map Pb)))) := by
  intro d
  induction d with
  | zero =>
    intro i acc h1 h2 h3 k hk
    obtain ⟨m,rfl⟩ : ∃ m,k = m + 1 := ⟨k - 1,by omega⟩
    rw [Zh.l1,if_neg (by omega),List.drop_of_length_le (by omega)]
    show _ = some (Net.bs (acc ++ []))
    rw [List.append_nil]
  | succ d ih =>
    intro i acc h1 h2 h3 k hkk
    obtain ⟨m,rfl⟩ : ∃ m,k = m + 1 := ⟨k - 1,by omega⟩
    by_cases hi : i < l.length
    · rw [Jb8 l i hi] at h3 ⊢
      simp only [List.length_append] at h3
      have g0 := K3 l[i].f0
      have g1 := K3 (Net.tnm l[i].f1)
      have g2 := K3 l[i].f2
      have hki := hk _ (List.getElem_mem hi)
      rw [Zh.l1,if_pos (by omega),if_pos (by omega),if_pos (by omega),Jfa l i hi,Hm l[i].f0 (by omega),Option.bind_some,if_pos (by rw [Wi,Wi];omega),Option.bind_some,if_pos (by omega)]
      rw [if_pos (by show l[i].f1 < 3;omega),letter _ hki,Hm (Net.tnm l[i].f1) (by omega),Option.bind_some,Pe,if_pos (by rw [Wi,Wi,List.length_append];omega),Hm l[i].f2 (by omega),Option.bind_some,Pe,
        if_pos (by rw [Wi,Wi];simp only [List.length_append];omega),Pe,l5 _ (by omega) (by omega),show (i : Int) + 1 = ((i + 1 : Nat) : Int) by omega,
        ih (i + 1) _ (by omega) (by omega) (by simp only [List.length_append];omega) m (by omega)]
      simp only [List.append_assoc]
    · rw [Zh.l1,if_neg (by omega),List.drop_of_length_le (by omega)]
      show _ = some (Net.bs (acc ++ []))
      rw [List.append_nil]
theorem Jj4 (s : Xx) (hr : Kq s = true) (hz : Zur (Uq s) ≤ 1000000) (hl : s.f7.length ≤ 1000000) (hw : s.f4.length ≤ 1000000) (k : Nat) (hk : s.f4.length + s.f7.length + 2 ≤ k) :
    Zh.f k s.f0 s.f1 s.f2 s.f3 s.f4 s.f5 s.f6 s.f7 = some (Net.bs (Net.encs (Net.parts (Uq s)))) := by
  obtain ⟨hk0,hk7⟩ := Zl7 hr
  obtain ⟨m,rfl⟩ : ∃ m,k = m + 1 := ⟨k - 1,by omega⟩
  unfold Zur at hz
  unfold Zh.f
  rcases hk0 with h0 | h0 | h0
  · have ep : Net.encs (Net.parts (Uq s)) = Net.V4 Net.cA ++ (Net.V4 s.f1 ++ (Net.V4 (if s.f3 = true then Net.c1 else Net.c0) ++ Net.V4 s.f2)) := by
      show Net.encs (if s.f0 = 0 then [Net.cA,s.f1,if s.f3 = true then Net.c1 else Net.c0,s.f2] else _) = _
      rw [if_pos h0,Net.J2,Net.J2,Net.J2,Net.J2,Net.K5,List.append_nil]
    rw [ep] at hz ⊢
    simp only [List.length_append] at hz
    have g0 := K3 Net.cA
    have g1 := K3 s.f1
    have g2 := K3 (if s.f3 = true then Net.c1 else Net.c0)
    have g3 := K3 s.f2
    have key : ∀ c : ByteArray,c = (if s.f3 = true then Net.c1 else Net.c0) → Zh.j0 (m + 1) c s.f0 s.f1 s.f2 s.f3 s.f4 s.f5 s.f6 s.f7 = some (Net.bs (Net.V4 Net.cA ++ (Net.V4 s.f1 ++ (Net.V4 (if s.f3 = true then Net.c1 else Net.c0) ++ Net.V4 s.f2)))) := by
      intro c hc
      rw [Zh.j0,hc]
      show (Z0.f Net.cA).bind _ = _
      rw [Hm Net.cA (by omega),Option.bind_some,Hm s.f1 (by omega),Option.bind_some,if_pos (by rw [Wi,Wi];omega),Hm _ (by omega),Option.bind_some,Pe,if_pos (by rw [Wi,Wi,List.length_append];omega),
        Hm s.f2 (by omega),Option.bind_some,Pe,if_pos (by rw [Wi,Wi];simp only [List.length_append];omega),Pe]
      simp only [List.append_assoc]
    rw [if_pos h0]
    cases h3 : s.f3
    · rw [if_neg (by decide)]
      have := key Net.c0 (by rw [h3];rfl)
      rw [h3] at this
      exact this
    · rw [if_pos rfl]
      have := key Net.c1 (by rw [h3];rfl)
      rw [h3] at this
      exact this
  · have ep : Net.encs (Net.parts (Uq s)) = (Net.V4 Net.cC ++ Net.V4 s.f1 ++ Net.V4 (Net.Yy s.f4.length)) ++ Net.encs s.f4 := by
      show Net.encs (if s.f0 = 0 then _ else if s.f0 = 1 then [Net.cC,s.f1,Net.Yy s.f4.length] ++ s.f4 else _) = _
      rw [if_neg (by omega),if_pos h0,Net.Ux,Net.J2,Net.J2,Net.J2,Net.K5,List.append_nil]
      simp only [List.append_assoc]
    rw [ep] at hz ⊢
    simp only [List.length_append] at hz
    have g0 := K3 Net.cC
    have g1 := K3 s.f1
    have g2 := K3 (Net.Yy s.f4.length)
    rw [if_neg (by omega),if_pos h0]
    show (Z0.f Net.cC).bind _ = _
    rw [Hm Net.cC (by omega),Option.bind_some,Hm s.f1 (by omega),Option.bind_some,if_pos (by rw [Wi,Wi];omega),Zwx _ hw,Option.bind_some,Hm _ (by omega),Option.bind_some,Pe,if_pos (by rw [Wi,Wi,List.length_append];omega),Pe]
    have := Jfs s.f4 hw s.f4.length 0 (Net.V4 Net.cC ++ Net.V4 s.f1 ++ Net.V4 (Net.Yy s.f4.length)) (by omega) (by omega) (by rw [List.drop_zero];simp only [List.length_append];omega) (m + 1) (by omega)
    rw [List.drop_zero] at this
    exact this
  · have ep : Net.encs (Net.parts (Uq s)) = (Net.V4 Net.cQ ++ Net.V4 s.f5 ++ Net.V4 s.f6 ++ Net.V4 (Net.Yy s.f7.length)) ++ Net.encs (Net.Dj (s.f7.map Pb)) := by
      show Net.encs (if s.f0 = 0 then _ else if s.f0 = 1 then _ else [Net.cQ,s.f5,s.f6,Net.Yy (s.f7.map Pb).length] ++ Net.Dj (s.f7.map Pb)) = _
      rw [if_neg (by omega),if_neg (by omega),Net.Ux,Net.J2,Net.J2,Net.J2,Net.J2,Net.K5,List.append_nil,List.length_map]
      simp only [List.append_assoc]
    rw [ep] at hz ⊢
    simp only [List.length_append] at hz
    have g0 := K3 Net.cQ
    have g1 := K3 s.f5
    have g2 := K3 s.f6
    have g3 := K3 (Net.Yy s.f7.length)
    rw [if_neg (by omega),if_neg (by omega)]
    show (Z0.f Net.cQ).bind _ = _
    rw [Hm Net.cQ (by omega),Option.bind_some,Hm s.f5 (by omega),Option.bind_some,if_pos (by rw [Wi,Wi];omega),Hm s.f6 (by omega),Option.bind_some,Pe,if_pos (by rw [Wi,Wi,List.length_append];omega),Zwx _ hl,Option.bind_some,
      Hm _ (by omega),Option.bind_some,Pe,if_pos (by rw [Wi,Wi];simp only [List.length_append];omega),Pe]
    have := Jft s.f7 hl hk7 s.f7.length 0 (Net.V4 Net.cQ ++ Net.V4 s.f5 ++ Net.V4 s.f6 ++ Net.V4 (Net.Yy s.f7.length)) (by omega) (by omega) (by rw [List.drop_zero];simp only [List.length_append];omega) (m + 1) (by omega)
    rw [List.drop_zero] at this
    exact this
end Go.Proofs.YtdhpcofnddkcaaaGreatDoor.S
namespace Go.Proofs.YtdhpcofnddkcaaaGreatDoor.S
open Go.RowKit Go.Proofs.YtdhpcofnddkcaaaGreatDoor.G Go.Proofs.YtdhpcofnddkcaaaGreatDoorW.PrintWords Go.Proofs.YtdhpcofnddkcaaaGreatDoorW.PrintLast Go.Proofs.YtdhpcofnddkcaaaGreatDoorW.PrintMore
set_option linter.unusedVariables false
set_option linter.unusedSimpArgs false
theorem Jj5 (l : List Xx) (i : Nat) (h : i < l.length) : Ze l (i : Int) = l[i] := by
  unfold Ze
  rw [Int.toNat_natCast,List.getD_eq_getElem?_getD,List.getElem?_eq_getElem h]
  rfl
theorem Jfu (L : List Net.St) : 3 * L.length ≤ (Net.encS L).length := by
  induction L with
  | nil => simp
  | cons s t ih =>
    rw [Net.zo,List.length_append,List.length_cons]
    have := Net.Ztn s
    omega
theorem Jb9 (l : List Xx) (i : Nat) (h : i < l.length) : Net.encS ((l.drop i).map Uq) = Net.encs (Net.parts (Uq l[i])) ++ Net.encS ((l.drop (i + 1)).map Uq) := by
  rw [List.drop_eq_getElem_cons h,List.map_cons,Net.zo]
end Go.Proofs.YtdhpcofnddkcaaaGreatDoor.S
namespace Go.Proofs.YtdhpcofnddkcaaaGreatDoor.S
open Go.RowKit Go.Proofs.YtdhpcofnddkcaaaGreatDoor.G Go.Proofs.YtdhpcofnddkcaaaGreatDoorW.PrintWords Go.Proofs.YtdhpcofnddkcaaaGreatDoorW.PrintLast Go.Proofs.YtdhpcofnddkcaaaGreatDoorW.PrintMore
set_option linter.unusedVariables false
set_option linter.unusedSimpArgs false
namespace Sx5
theorem Va {w : World} {g : Nat} {t : TypeId} {a0 a1 a2 : Value} (h : w.heap[g]? = some (.cells #[a0,a1,a2] t (0,0))) : w.cell? ⟨g,0,none⟩ = some a0 ∧ w.cell? ⟨g,1,none⟩ = some a1 ∧ w.cell? ⟨g,2,none⟩ = some a2 ∧ w.frozen? ⟨g,0,none⟩ = false ∧ w.frozen? ⟨g,1,none⟩ = false ∧ w.frozen? ⟨g,2,none⟩ = false := ⟨(Zd h 0).trans rfl,(Zd h 1).trans rfl,(Zd h 2).trans rfl,Zj h 0,Zj h 1,Zj h 2⟩
theorem Jf {w : World} {g : Nat} {t : TypeId} {a0 a1 a2 a3 a4 a5 a6 a7 : Value} (h : w.heap[g]? = some (.cells #[a0,a1,a2,a3,a4,a5,a6,a7] t (0,0))) : w.cell? ⟨g,0,none⟩ = some a0 ∧ w.cell? ⟨g,1,none⟩ = some a1 ∧ w.cell? ⟨g,2,none⟩ = some a2 ∧ w.cell? ⟨g,3,none⟩ = some a3 ∧ w.cell? ⟨g,4,none⟩ = some a4 ∧ w.cell? ⟨g,5,none⟩ = some a5 ∧ w.cell? ⟨g,6,none⟩ = some a6 ∧ w.cell? ⟨g,7,none⟩ = some a7 ∧ w.frozen? ⟨g,0,none⟩ = false ∧ w.frozen? ⟨g,1,none⟩ = false ∧ w.frozen? ⟨g,2,none⟩ = false ∧ w.frozen? ⟨g,3,none⟩ = false ∧ w.frozen? ⟨g,4,none⟩ = false ∧ w.frozen? ⟨g,5,none⟩ = false ∧ w.frozen? ⟨g,6,none⟩ = false ∧ w.frozen? ⟨g,7,none⟩ = false := ⟨(Zd h 0).trans rfl,(Zd h 1).trans rfl,(Zd h 2).trans rfl,(Zd h 3).trans rfl,(Zd h 4).trans rfl,(Zd h 5).trans rfl,(Zd h 6).trans rfl,(Zd h 7).trans rfl,Zj h 0,Zj h 1,Zj h 2,Zj h 3,Zj h 4,Zj h 5,Zj h 6,Zj h 7⟩
theorem Vh {p_ : Prop} (h_ : p_ := by repeat (first | (with_reducible first | exact HB.out | apply Z4 | apply Zr | apply Zz | refine Z8 ?_ Jmt.out) | exact HB.out)) : p_ := h_
theorem J5 {p_ : Prop} (h_ : p_ := by repeat (first | (with_reducible first | exact HB.out | apply Z4 | apply Zr | apply Zz) | exact HB.out)) : p_ := h_
theorem Vz {p_ : Prop} (h_ : p_ := by first | rfl | (simp;done) | (simp [*];done)) : p_ := h_
theorem Yb {p_ : Prop} (h_ : p_ := by (with_reducible repeat (first | refine Zc ?_ _ | refine Zf ?_ | refine Zb ?_ _));exact Zbn.out) : p_ := h_
theorem Qw {p_ : Prop} (h_ : p_ := by first | rfl | (simp [Vd,Ve] <;> rfl) | (simp [*,Vd,Ve] <;> rfl)) : p_ := h_
theorem Xu {p_ : Prop} (h_ : p_ := by first | (with_reducible assumption) | assumption) : p_ := h_
end Sx5
open Sx5
mutual
def Zx.l0 : Nat → List (Xx) → Int → List (Xx) → Int → Int → Option (Bool)
 | 0,_,_,_,_,_ => none
 | k + 1,x0,x3,x10,x11,x12 => if x12 < x11 then (if 0 ≤ x12 then (if x12 < (x10.length : Int) then (Zx.l1 k x0 (wrap64 (x3 + (wrap64 ((wrap64 ((wrap64 ((((Ze x10 x12).f1).size : Int) + (((Ze x10 x12).f2).size : Int))) + (((Ze x10 x12).f5).size : Int))) + (((Ze x10 x12).f6).size : Int))))) x10 x11 x12 ((Ze x10 x12).f4) (((Ze x10 x12).f4).length : Int) 0 ((Ze x10 x12).f0) ((Ze x10 x12).f1) ((Ze x10 x12).f2) ((Ze x10 x12).f3) ((Ze x10 x12).f4) ((Ze x10 x12).f5) ((Ze x10 x12).f6) ((Ze x10 x12).f7)) else (none)) else (none)) else (if (x0.length : Int) ≤ 20 then (some (decide (x3 ≤ 3000))) else (some false))
def Zx.l1 : Nat → List (Xx) → Int → List (Xx) → Int → Int → List ByteArray → Int → Int → Int → ByteArray → ByteArray → Bool → List ByteArray → ByteArray → ByteArray → List (Y4) → Option (Bool)
 | 0,_,_,_,_,_,_,_,_,_,_,_,_,_,_,_,_ => none
 | k + 1,x0,x3,x10,x11,x12,x34,x35,x36,Zn3,Zn4,Zn5,Zn6,Zis,Zn7,Zn8,ry => if x36 < x35 then (if 0 ≤ x36 then (if x36 < (x34.length : Int) then (Zx.l1 k x0 (wrap64 (x3 + ((Ha ByteArray.empty x34 x36).size : Int))) x10 x11 x12 x34 x35 (wrap64 (x36 + 1)) Zn3 Zn4 Zn5 Zn6 Zis Zn7 Zn8 ry) else (none)) else (none)) else (Zx.l2 k x0 x3 x10 x11 x12 ry (ry.length : Int) 0 Zn3 Zn4 Zn5 Zn6 Zis Zn7 Zn8 ry)
def Zx.l2 : Nat → List (Xx) → Int → List (Xx) → Int → Int → List (Y4) → Int → Int → Int → ByteArray → ByteArray → Bool → List ByteArray → ByteArray → ByteArray → List (Y4) → Option (Bool)
 | 0,_,_,_,_,_,_,_,_,_,_,_,_,_,_,_,_ => none
 | k + 1,x0,x3,x10,x11,x12,x46,x47,x48,Zn3,Zn4,Zn5,Zn6,Zis,Zn7,Zn8,ry => if x48 < x47 then (if 0 ≤ x48 then (if x48 < (x46.length : Int) then (Zx.l2 k x0 (wrap64 (x3 + (wrap64 ((((Z6 x46 x48).f0).size : Int) + (((Z6 x46 x48).f2).size : Int))))) x10 x11 x12 x46 x47 (wrap64 (x48 + 1)) Zn3 Zn4 Zn5 Zn6 Zis Zn7 Zn8 ry) else (none)) else (none)) else (if (Zis.length : Int) > 20 then (some false) else (if (ry.length : Int) > 20 then (some false) else (Zx.l0 k x0 x3 x10 x11 (wrap64 (x12 + 1)))))
end
def Zx.f (k : Nat) (l0 : List (Xx)) : Option (Bool) := Zx.l0 k l0 0 l0 (l0.length : Int) 0
theorem Zx.Xy : ∀ k,(∀ y0 y1 y2 y3 y4,Jz (Zx.l0 k y0 y1 y2 y3 y4) (Zx.l0 (k + 1) y0 y1 y2 y3 y4)) ∧ (∀ y0 y1 y2 y3 y4 y5 y6 y7 y8 y9 y10 y11 y12 y13 y14 y15,Jz (Zx.l1 k y0 y1 y2 y3 y4 y5 y6 y7 y8 y9 y10 y11 y12 y13 y14 y15) (Zx.l1 (k + 1) y0 y1 y2 y3 y4 y5 y6 y7 y8 y9 y10 y11 y12 y13 y14 y15)) ∧ (∀ y0 y1 y2 y3 y4 y5 y6 y7 y8 y9 y10 y11 y12 y13 y14 y15,Jz (Zx.l2 k y0 y1 y2 y3 y4 y5 y6 y7 y8 y9 y10 y11 y12 y13 y14 y15) (Zx.l2 (k + 1) y0 y1 y2 y3 y4 y5 y6 y7 y8 y9 y10 y11 y12 y13 y14 y15))
 | 0 => ⟨fun _ _ _ _ _ r h => by simp [Zx.l0] at h,fun _ _ _ _ _ _ _ _ _ _ _ _ _ _ _ _ r h => by simp [Zx.l1] at h,fun _ _ _ _ _ _ _ _ _ _ _ _ _ _ _ _ r h => by simp [Zx.l2] at h⟩
 | k + 1 => by
  obtain ⟨ih0,ih1,ih2⟩ := Zx.Xy k
  refine ⟨?_,?_,?_⟩
  ·intro y0 y1 y2 y3 y4
   unfold Zx.l0
   repeat' first
   | (with_reducible exact ih0 _ _ _ _ _)
   | (with_reducible exact ih1 _ _ _ _ _ _ _ _ _ _ _ _ _ _ _ _)
   | (with_reducible exact ih2 _ _ _ _ _ _ _ _ _ _ _ _ _ _ _ _)
   | (with_reducible exact Jz.refl _)
   | (with_reducible exact Jz.none _)
   | (with_reducible refine Jz.ite ?_ ?_)
   | (with_reducible refine Jz.bind ?_ (fun _ => ?_))
   | exact ih0 _ _ _ _ _
   | exact ih1 _ _ _ _ _ _ _ _ _ _ _ _ _ _ _ _
   | exact ih2 _ _ _ _ _ _ _ _ _ _ _ _ _ _ _ _
   | exact Jz.none _
   | refine Jz.ite ?_ ?_
   | refine Jz.bind ?_ (fun _ => ?_)
  ·intro y0 y1 y2 y3 y4 y5 y6 y7 y8 y9 y10 y11 y12 y13 y14 y15
   unfold Zx.l1
   repeat' first
   | (with_reducible exact ih0 _ _ _ _ _)
   | (with_reducible exact ih1 _ _ _ _ _ _ _ _ _ _ _ _ _ _ _ _)
   | (with_reducible exact ih2 _ _ _ _ _ _ _ _ _ _ _ _ _ _ _ _)
   | (with_reducible exact Jz.refl _)
   | (with_reducible exact Jz.none _)
   | (with_reducible refine Jz.ite ?_ ?_)
   | (with_reducible refine Jz.bind ?_ (fun _ => ?_))
   | exact ih0 _ _ _ _ _
   | exact ih1 _ _ _ _ _ _ _ _ _ _ _ _ _ _ _ _
   | exact ih2 _ _ _ _ _ _ _ _ _ _ _ _ _ _ _ _
   | exact Jz.none _
   | refine Jz.ite ?_ ?_
   | refine Jz.bind ?_ (fun _ => ?_)
  ·intro y0 y1 y2 y3 y4 y5 y6 y7 y8 y9 y10 y11 y12 y13 y14 y15
   unfold Zx.l2
   repeat' first
   | (with_reducible exact ih0 _ _ _ _ _)
   | (with_reducible exact ih1 _ _ _ _ _ _ _ _ _ _ _ _ _ _ _ _)
   | (with_reducible exact ih2 _ _ _ _ _ _ _ _ _ _ _ _ _ _ _ _)
   | (with_reducible exact Jz.refl _)
   | (with_reducible exact Jz.none _)
   | (with_reducible refine Jz.ite ?_ ?_)
   | (with_reducible refine Jz.bind ?_ (fun _ => ?_))
   | exact ih0 _ _ _ _ _
   | exact ih1 _ _ _ _ _ _ _ _ _ _ _ _ _ _ _ _
   | exact ih2 _ _ _ _ _ _ _ _ _ _ _ _ _ _ _ _
   | exact Jz.none _
   | refine Jz.ite ?_ ?_
   | refine Jz.bind ?_ (fun _ => ?_)
theorem Zx.mono : ∀ a0 k,Jz (Zx.f k a0) (Zx.f (k + 1) a0) := by
 intro a0 k
 obtain ⟨ih0,ih1,ih2⟩ := Zx.Xy k
 unfold Zx.f
 repeat' first
   | (with_reducible exact ih0 _ _ _ _ _)
   | (with_reducible exact ih1 _ _ _ _ _ _ _ _ _ _ _ _ _ _ _ _)
   | (with_reducible exact ih2 _ _ _ _ _ _ _ _ _ _ _ _ _ _ _ _)
   | (with_reducible exact Jz.refl _)
   | (with_reducible exact Jz.none _)
   | (with_reducible refine Jz.ite ?_ ?_)
   | (with_reducible refine Jz.bind ?_ (fun _ => ?_))
   | exact ih0 _ _ _ _ _
   | exact ih1 _ _ _ _ _ _ _ _ _ _ _ _ _ _ _ _
   | exact ih2 _ _ _ _ _ _ _ _ _ _ _ _ _ _ _ _
   | exact Jz.none _
   | refine Jz.ite ?_ ?_
   | refine Jz.bind ?_ (fun _ => ?_)
set_option maxHeartbeats 8000000 in
set_option maxRecDepth 100000 in
theorem Zx.calls (k : Nat) (A0 : Option Addr) (c0 : Nat) (l0 : List (Xx)) (r : Bool) (w : World) (hr0 : Kd.C k29 w A0 l0.length l0) (hc0 : l0.length ≤ c0) (h : Zx.f k l0 = some r) :
  Calls Tryz.prog 10 #[.slice A0 l0.length c0] w fun e w' => e = .returned (.bool r) ∧ Below w.heap.size w w' := by
 have Z0x := Tryz.underlying29
 have Z0h := Tryz.underlying44
 have HR0 := Za.mk hr0
 have HC0 := Za.mk hc0
 clear hr0 hc0
 have HB := Za.mk (Below.refl w.heap.size w)
 have H : (Zx.l0 k l0 0 l0 (l0.length : Int) 0) = some r := h
 clear h
 have H' := Za.mk H
 clear H
 go_enter Tryz.func10,Tryz.ntmps10
 go_wp2
 go_loopg [3,12] k (fun kq v3 v12 w' => ∃ (Zk8 : Int) (Jk : Int),v3 = .int .i64 Zk8 ∧ v12 = .int .i64 Jk ∧ Za (Zx.l0 kq l0 Zk8 l0 (l0.length : Int) Jk = some r) ∧ Za (kq ≤ k) ∧ Za (Below w.heap.size w w'))
 case atStart => exact ⟨(0),(0),Vz,Vz,H',⟨Nat.le_refl _⟩,⟨J5⟩⟩
 case round =>
  clear H'
  try clear c1
  obtain ⟨Zk8,Jk,rfl,rfl,HA,HK1,HB⟩ := hrel
  cases gk with
  | zero => exact absurd HA.out (by simp [Zx.l0])
  | succ k1 =>
   have H := HA.out
   clear HA
   simp only [Zx.l0] at H
   by_cases c2 : Jk < (l0.length : Int)
   ·rw [if_pos c2] at H
    have wm : decide (Jk < (l0.length : Int)) = true := decide_eq_true c2
    clear c2
    by_cases c3 : 0 ≤ Jk
    ·rw [if_pos c3] at H
     have ww : decide (0 ≤ Jk) = true := decide_eq_true c3
     clear c3
     by_cases c4 : Jk < (l0.length : Int)
     ·rw [if_pos c4] at H
      have Sj : decide (Jk < (l0.length : Int)) = true := decide_eq_true c4
      clear c4
      have H' := Za.mk H
      clear H
      have Jfv : 0 ≤ (Jk : Int) := of_decide_eq_true Xu
      have Jfw : Jk < (l0.length : Int) := of_decide_eq_true Xu
      obtain ⟨Vhe,Zbo,Zbp,Jfx,Zr3,Vc7,Zit,Ziu,Ziv,Ziw,Zix,Ziy,Ziz,Zi0,Z7w,Z7x,Z7y,Z7z⟩ := jb HR0.out Jk Jfv Jfw
      cases Vc7
      replace Zit := (HB.out.cell (World.block_lt_of_cell? w _ Zit)).trans Zit
      replace Ziu := (HB.out.cell (World.block_lt_of_cell? w _ Ziu)).trans Ziu
      replace Ziv := (HB.out.cell (World.block_lt_of_cell? w _ Ziv)).trans Ziv
      replace Ziw := (HB.out.cell (World.block_lt_of_cell? w _ Ziw)).trans Ziw
      replace Zix := (HB.out.cell (World.block_lt_of_cell? w _ Zix)).trans Zix
      replace Ziy := (HB.out.cell (World.block_lt_of_cell? w _ Ziy)).trans Ziy
      replace Ziz := (HB.out.cell (World.block_lt_of_cell? w _ Ziz)).trans Ziz
      replace Zi0 := (HB.out.cell (World.block_lt_of_cell? w _ Zi0)).trans Zi0
      have Jj6 := Za.mk Z7x
      have J8x := Za.mk Z7w
      clear Z7x Z7w
      have Jj7 := Za.mk Z7z
      have J8y := Za.mk Z7y
      clear Z7z Z7y
      replace Jfv := eq_true Jfv
      replace Jfw := eq_true Jfw
      go_wp2_with (first | ((with_reducible refine Jg (N := 5) rfl ?_);(try (refine Jr (by rfl) ?_;dsimp only));refine Je ?hg (N := 5) ?hd (cs := #[.int .i64 0,.string (⟨#[]⟩ : ByteArray),.string (⟨#[]⟩ : ByteArray),.bool false,.slice none 0 0,.string (⟨#[]⟩ : ByteArray),.string (⟨#[]⟩ : ByteArray),.slice none 0 0]) (t := 29) ?hr ?_;(case hd => rfl);(case hg => rfl);(case hr => first | (go_simp;done) | (go_simp;rfl));intro Zi1 hg w5 hbox hb;have Zbn := Za.mk (hbox);have Vhf := Za.mk (((by rw [hg];exact (Jh J5)) : w.heap.size ≤ Zi1));have Jmt := Za.mk (((by rw [hg];exact (Jh J5)) : w.heap.size ≤ Zi1));replace HB := Za.mk (Zm J5 hb);clear hb hbox hg;obtain ⟨Z3j,Z3k,Z3l,Z3m,Z3n,Z3o,Z3p,Z3q,Z3r,Z3s,Z3t,Z3u,Z3v,Z3w,Z3x,Z3y⟩ := Jf Zbn.out))
      go_loopg [3,36] k1 (fun kq v3 v36 w' => ∃ (Zk7 : Int) (ji : Int),v3 = .int .i64 Zk7 ∧ v36 = .int .i64 ji ∧ Za (Zx.l1 kq l0 Zk7 l0 (l0.length : Int) Jk ((Ze l0 Jk).f4) (((Ze l0 Jk).f4).length : Int) ji ((Ze l0 Jk).f0) ((Ze l0 Jk).f1) ((Ze l0 Jk).f2) ((Ze l0 Jk).f3) ((Ze l0 Jk).f4) ((Ze l0 Jk).f5) ((Ze l0 Jk).f6) ((Ze l0 Jk).f7) = some r) ∧ Za (kq ≤ k1) ∧ Za (w'.heap[Zi1]? = some (.cells #[.int .i64 ((Ze l0 Jk).f0),.string ((Ze l0 Jk).f1),.string ((Ze l0 Jk).f2),.bool ((Ze l0 Jk).f3),(.slice Zbo ((Ze l0 Jk).f4).length Zbp),.string ((Ze l0 Jk).f5),.string ((Ze l0 Jk).f6),(.slice Jfx ((Ze l0 Jk).f7).length Zr3)] 29 (0,0))) ∧ Za (Below w.heap.size w w'))
      case atStart => exact ⟨(wrap64 (Zk8 + (wrap64 ((wrap64 ((wrap64 ((((Ze l0 Jk).f1).size : Int) + (((Ze l0 Jk).f2).size : Int))) + (((Ze l0 Jk).f5).size : Int))) + (((Ze l0 Jk).f6).size : Int))))),(0),Vz,Vz,H',⟨Nat.le_refl _⟩,⟨(by (with_reducible repeat (first | refine Zc ?_ _ | refine Zf ?_ | refine Zb ?_ _));refine Zo (cs := #[.int .i64 ((Ze l0 Jk).f0),.string ((Ze l0 Jk).f1),.string ((Ze l0 Jk).f2),.bool ((Ze l0 Jk).f3),.slice Zbo ((Ze l0 Jk).f4).length Zbp,.string ((Ze l0 Jk).f5),.string ((Ze l0 Jk).f6),.slice none 0 0]) ?_ 7 _ rfl;(with_reducible repeat (first | refine Zc ?_ _ | refine Zf ?_ | refine Zb ?_ _));refine Zo (cs := #[.int .i64 ((Ze l0 Jk).f0),.string ((Ze l0 Jk).f1),.string ((Ze l0 Jk).f2),.bool ((Ze l0 Jk).f3),.slice Zbo ((Ze l0 Jk).f4).length Zbp,.string ((Ze l0 Jk).f5),.string (⟨#[]⟩ : ByteArray),.slice none 0 0]) ?_ 6 _ rfl;(with_reducible repeat (first | refine Zc ?_ _ | refine Zf ?_ | refine Zb ?_ _));refine Zo (cs := #[.int .i64 ((Ze l0 Jk).f0),.string ((Ze l0 Jk).f1),.string ((Ze l0 Jk).f2),.bool ((Ze l0 Jk).f3),.slice Zbo ((Ze l0 Jk).f4).length Zbp,.string (⟨#[]⟩ : ByteArray),.string (⟨#[]⟩ : ByteArray),.slice none 0 0]) ?_ 5 _ rfl;(with_reducible repeat (first | refine Zc ?_ _ | refine Zf ?_ | refine Zb ?_ _));refine Zo (cs := #[.int .i64 ((Ze l0 Jk).f0),.string ((Ze l0 Jk).f1),.string ((Ze l0 Jk).f2),.bool ((Ze l0 Jk).f3),.slice none 0 0,.string (⟨#[]⟩ : ByteArray),.string (⟨#[]⟩ : ByteArray),.slice none 0 0]) ?_ 4 _ rfl;(with_reducible repeat (first | refine Zc ?_ _ | refine Zf ?_ | refine Zb ?_ _));refine Zo (cs := #[.int .i64 ((Ze l0 Jk).f0),.string ((Ze l0 Jk).f1),.string ((Ze l0 Jk).f2),.bool false,.slice none 0 0,.string (⟨#[]⟩ : ByteArray),.string (⟨#[]⟩ : ByteArray),.slice none 0 0]) ?_ 3 _ rfl;(with_reducible repeat (first | refine Zc ?_ _ | refine Zf ?_ | refine Zb ?_ _));refine Zo (cs := #[.int .i64 ((Ze l0 Jk).f0),.string ((Ze l0 Jk).f1),.string (⟨#[]⟩ : ByteArray),.bool false,.slice none 0 0,.string (⟨#[]⟩ : ByteArray),.string (⟨#[]⟩ : ByteArray),.slice none 0 0]) ?_ 2 _ rfl;(with_reducible repeat (first | refine Zc ?_ _ | refine Zf ?_ | refine Zb ?_ _));refine Zo (cs := #[.int .i64 ((Ze l0 Jk).f0),.string (⟨#[]⟩ : ByteArray),.string (⟨#[]⟩ : ByteArray),.bool false,.slice none 0 0,.string (⟨#[]⟩ : ByteArray),.string (⟨#[]⟩ : ByteArray),.slice none 0 0]) ?_ 1 _ rfl;(with_reducible repeat (first | refine Zc ?_ _ | refine Zf ?_ | refine Zb ?_ _));refine Zo (cs := #[.int .i64 0,.string (⟨#[]⟩ : ByteArray),.string (⟨#[]⟩ : ByteArray),.bool false,.slice none 0 0,.string (⟨#[]⟩ : ByteArray),.string (⟨#[]⟩ : ByteArray),.slice none 0 0]) ?_ 0 _ rfl;(with_reducible repeat (first | refine Zc ?_ _ | refine Zf ?_ | refine Zb ?_ _));exact Zbn.out)⟩,⟨Vh⟩⟩
      case round =>
       clear H'
       try clear c1
       try clear p1
       try clear q1
       try clear hx1
       try clear c2
       try clear wm
       try clear p2
       try clear c3
       try clear ww
       try clear c4
       try clear Sj
       try clear p6
       try clear Z3j Z3k Z3l Z3m Z3n Z3o Z3p Z3q
       try clear Z3r Z3s Z3t Z3u Z3v Z3w Z3x Z3y
       try clear Zit
       try clear Ziu
       try clear Ziv
       try clear Ziw
       try clear Zix
       try clear Ziy
       try clear Ziz
       try clear Zi0
       try clear Jfv
       try clear Jfw
       obtain ⟨Zk7,ji,rfl,rfl,HA,HK2,Zbn,HB⟩ := hrel
       cases gk with
       | zero => exact absurd HA.out (by simp [Zx.l1])
       | succ k2 =>
        have H := HA.out
        clear HA
        simp only [Zx.l1] at H
        by_cases c7 : ji < (((Ze l0 Jk).f4).length : Int)
        ·rw [if_pos c7] at H
         have Zmg : decide (ji < (((Ze l0 Jk).f4).length : Int)) = true := decide_eq_true c7
         clear c7
         by_cases c8 : 0 ≤ ji
         ·rw [if_pos c8] at H
          have Zfr : decide (0 ≤ ji) = true := decide_eq_true c8
          clear c8
          by_cases c9 : ji < (((Ze l0 Jk).f4).length : Int)
          ·rw [if_pos c9] at H
           have Hl : decide (ji < (((Ze l0 Jk).f4).length : Int)) = true := decide_eq_true c9
           clear c9
           have H' := Za.mk H
           clear H
           have Jj8 : 0 ≤ (ji : Int) := of_decide_eq_true Xu
           have Jj9 : ji < (((Ze l0 Jk).f4).length : Int) := of_decide_eq_true Xu
           obtain ⟨Vhg,e116,Zn9⟩ := Kd.Ht Jj6.out ji Jj8 Jj9
           cases e116
           replace Zn9 := (HB.out.cell (World.block_lt_of_cell? w _ Zn9)).trans Zn9
           replace Jj8 := eq_true Jj8
           replace Jj9 := eq_true Jj9
           go_wp2
           go_roundg k2
           case measure => have := HK1.out;have := HK2.out;omega
           case rel => exact ⟨(wrap64 (Zk7 + ((Ha ByteArray.empty ((Ze l0 Jk).f4) ji).size : Int))),(wrap64 (ji + 1)),Vz,Vz,H',⟨(by have := HK1.out;have := HK2.out;omega)⟩,⟨Yb⟩,⟨Vh⟩⟩
          ·rw [if_neg c9] at H
           exact absurd H (by simp)
         ·rw [if_neg c8] at H
          exact absurd H (by simp)
        ·rw [if_neg c7] at H
         have Zmg : decide (ji < (((Ze l0 Jk).f4).length : Int)) = false := decide_eq_false c7
         clear c7
         have H' := Za.mk H
         clear H
         obtain ⟨Jka,Jkb,Jkc,Jkd,Jke,Jkf,Jkg,Jkh,Jki,Jkj,Jkk,Jkl,Jkm,Jkn,Jko,Jkp⟩ := Jf Zbn.out
         go_wp2
         go_loopg [3,48] k2 (fun kq v3 v48 w' => ∃ (Jfy : Int) (Sr : Int),v3 = .int .i64 Jfy ∧ v48 = .int .i64 Sr ∧ Za (Zx.l2 kq l0 Jfy l0 (l0.length : Int) Jk ((Ze l0 Jk).f7) (((Ze l0 Jk).f7).length : Int) Sr ((Ze l0 Jk).f0) ((Ze l0 Jk).f1) ((Ze l0 Jk).f2) ((Ze l0 Jk).f3) ((Ze l0 Jk).f4) ((Ze l0 Jk).f5) ((Ze l0 Jk).f6) ((Ze l0 Jk).f7) = some r) ∧ Za (kq ≤ k2) ∧ Za (w'.heap[Zi1]? = some (.cells #[.int .i64 ((Ze l0 Jk).f0),.string ((Ze l0 Jk).f1),.string ((Ze l0 Jk).f2),.bool ((Ze l0 Jk).f3),(.slice Zbo ((Ze l0 Jk).f4).length Zbp),.string ((Ze l0 Jk).f5),.string ((Ze l0 Jk).f6),(.slice Jfx ((Ze l0 Jk).f7).length Zr3)] 29 (0,0))) ∧ Za (Below w.heap.size w w'))
         case atStart => exact ⟨(Zk7),(0),Vz,Vz,H',⟨Nat.le_refl _⟩,⟨Yb⟩,⟨Vh⟩⟩
         case round =>
          clear H'
          try clear c1
          try clear p1 p1
          try clear q1 q1
          try clear hx1
          try clear c2
          try clear wm
          try clear p2 p2
          try clear c3
          try clear ww
          try clear c4
          try clear Sj
          try clear p6 p6
          try clear c7
          try clear Zmg
          try clear c8
          try clear Zfr
          try clear c9
          try clear Hl
          try clear c10
          try clear Jka Jkb Jkc Jkd Jke Jkf Jkg Jkh
          try clear Z3j Z3k Z3l Z3m Z3n Z3o Z3p Z3q
          try clear Jki Jkj Jkk Jkl Jkm Jkn Jko Jkp
          try clear Z3r Z3s Z3t Z3u Z3v Z3w Z3x Z3y
          try clear Zit
          try clear Ziu
          try clear Ziv
          try clear Ziw
          try clear Zix
          try clear Ziy
          try clear Ziz
          try clear Zi0
          try clear Zn9
          try clear Jfv
          try clear Jj8
          try clear Jfw
          try clear Jj9
          obtain ⟨Jfy,Sr,rfl,rfl,HA,HK3,Zbn,HB⟩ := hrel
          cases gk with
          | zero => exact absurd HA.out (by simp [Zx.l2])
          | succ k3 =>
           have H := HA.out
           clear HA
           simp only [Zx.l2] at H
           by_cases c11 : Sr < (((Ze l0 Jk).f7).length : Int)
           ·rw [if_pos c11] at H
            have Ny : decide (Sr < (((Ze l0 Jk).f7).length : Int)) = true := decide_eq_true c11
            clear c11
            by_cases c12 : 0 ≤ Sr
            ·rw [if_pos c12] at H
             have Zg2 : decide (0 ≤ Sr) = true := decide_eq_true c12
             clear c12
             by_cases c13 : Sr < (((Ze l0 Jk).f7).length : Int)
             ·rw [if_pos c13] at H
              have Sq : decide (Sr < (((Ze l0 Jk).f7).length : Int)) = true := decide_eq_true c13
              clear c13
              have H' := Za.mk H
              clear H
              have Jp2 : 0 ≤ (Sr : Int) := of_decide_eq_true Xu
              have Jp3 : Sr < (((Ze l0 Jk).f7).length : Int) := of_decide_eq_true Xu
              obtain ⟨Jfz,e117,Zw6,Zw7,Zw8⟩ := ja Jj7.out Sr Jp2 Jp3
              cases e117
              replace Zw6 := (HB.out.cell (World.block_lt_of_cell? w _ Zw6)).trans Zw6
              replace Zw7 := (HB.out.cell (World.block_lt_of_cell? w _ Zw7)).trans Zw7
              replace Zw8 := (HB.out.cell (World.block_lt_of_cell? w _ Zw8)).trans Zw8
              replace Jp2 := eq_true Jp2
              replace Jp3 := eq_true Jp3
              go_wp2_with (first | ((with_reducible refine Jg (N := 9) rfl ?_);(try (refine Jr (by rfl) ?_;dsimp only));refine Je ?hg (N := 9) ?hd (cs := #[.string (⟨#[]⟩ : ByteArray),.int .i64 0,.string (⟨#[]⟩ : ByteArray)]) (t := 44) ?hr ?_;(case hd => rfl);(case hg => rfl);(case hr => first | (go_simp;done) | (go_simp;rfl));intro Z70 hg w14 hbox hb;have Jw9 := Za.mk (hbox);have Vhh := Za.mk (((by rw [hg];exact (Jh Vh)) : w.heap.size ≤ Z70));have Jxa := Za.mk (((by rw [hg];exact (Jh Vh)) : w.heap.size ≤ Z70));replace HB := Za.mk (Zm Vh hb);have Zd0 := Za.mk (((by rw [hg];exact Nat.ne_of_lt (Y3 (g := Zi1) (o := .cells #[.int .i64 ((Ze l0 Jk).f0),.string ((Ze l0 Jk).f1),.string ((Ze l0 Jk).f2),.bool ((Ze l0 Jk).f3),.slice Zbo ((Ze l0 Jk).f4).length Zbp,.string ((Ze l0 Jk).f5),.string ((Ze l0 Jk).f6),.slice (some Jfz) ((Ze l0 Jk).f7).length Zr3] 29 (0,0)) Yb)) : Zi1 ≠ Z70));have Jca := Za.mk (((by rw [hg];exact Nat.ne_of_gt (Y3 (g := Zi1) (o := .cells #[.int .i64 ((Ze l0 Jk).f0),.string ((Ze l0 Jk).f1),.string ((Ze l0 Jk).f2),.bool ((Ze l0 Jk).f3),.slice Zbo ((Ze l0 Jk).f4).length Zbp,.string ((Ze l0 Jk).f5),.string ((Ze l0 Jk).f6),.slice (some Jfz) ((Ze l0 Jk).f7).length Zr3] 29 (0,0)) Yb)) : Z70 ≠ Zi1));replace Zbn := Za.mk (Zw (g := Zi1) (o := .cells #[.int .i64 ((Ze l0 Jk).f0),.string ((Ze l0 Jk).f1),.string ((Ze l0 Jk).f2),.bool ((Ze l0 Jk).f3),.slice Zbo ((Ze l0 Jk).f4).length Zbp,.string ((Ze l0 Jk).f5),.string ((Ze l0 Jk).f6),.slice (some Jfz) ((Ze l0 Jk).f7).length Zr3] 29 (0,0)) Yb hb);clear hb hbox hg;have Jvv := Jca.out;have Jvw := Zd0.out;obtain ⟨Rt,Ru,Rv,Rw,Rx,Ry⟩ := Va Jw9.out))
              go_roundg k3
              case measure => have := HK1.out;have := HK2.out;have := HK3.out;omega
              case rel => exact ⟨(wrap64 (Jfy + (wrap64 ((((Z6 ((Ze l0 Jk).f7) Sr).f0).size : Int) + (((Z6 ((Ze l0 Jk).f7) Sr).f2).size : Int))))),(wrap64 (Sr + 1)),Vz,Vz,H',⟨(by have := HK1.out;have := HK2.out;have := HK3.out;omega)⟩,⟨(by (with_reducible repeat (first | refine Zc ?_ _ | refine Zf ?_ | refine Zb ?_ _));refine Jl ?_ Zd0.out _;(with_reducible repeat (first | refine Zc ?_ _ | refine Zf ?_ | refine Zb ?_ _));refine Jl ?_ Zd0.out _;(with_reducible repeat (first | refine Zc ?_ _ | refine Zf ?_ | refine Zb ?_ _));refine Jl ?_ Zd0.out _;(with_reducible repeat (first | refine Zc ?_ _ | refine Zf ?_ | refine Zb ?_ _));exact Zbn.out)⟩,⟨(by repeat (first | (with_reducible first | exact HB.out | apply Z4 | apply Zr | apply Zz | refine Z8 ?_ Jmt.out | refine Z8 ?_ Jxa.out) | exact HB.out))⟩⟩
             ·rw [if_neg c13] at H
              exact absurd H (by simp)
            ·rw [if_neg c12] at H
             exact absurd H (by simp)
           ·rw [if_neg c11] at H
            have Ny : decide (Sr < (((Ze l0 Jk).f7).length : Int)) = false := decide_eq_false c11
            clear c11
            by_cases c17 : (((Ze l0 Jk).f4).length : Int) > 20
            ·rw [if_pos c17] at H
             have Zqu : decide (20 < (((Ze l0 Jk).f4).length : Int)) = true := decide_eq_true c17
             have Zz9 : decide (20 < ((Ze l0 Jk).f4).length) = true := decide_eq_true (by omega)
             clear c17
             obtain rfl := Option.some.inj H
             obtain ⟨Zoa,Zob,Zoc,Zod,Zoe,Zof,Zog,Zoh,Zoi,Zoj,Zok,Zol,Zom,Zon,Zoo,Zop⟩ := Jf Zbn.out
             go_wp2
             go_ret
             exact ⟨Qw,Vh⟩
            ·rw [if_neg c17] at H
             have Zqu : decide (20 < (((Ze l0 Jk).f4).length : Int)) = false := decide_eq_false c17
             have Zz9 : decide (20 < ((Ze l0 Jk).f4).length) = false := decide_eq_false (by omega)
             clear c17
             by_cases c19 : (((Ze l0 Jk).f7).length : Int) > 20
             ·rw [if_pos c19] at H
              have Zhq : decide (20 < (((Ze l0 Jk).f7).length : Int)) = true := decide_eq_true c19
              have Zhr : decide (20 < ((Ze l0 Jk).f7).length) = true := decide_eq_true (by omega)
              clear c19
              obtain rfl := Option.some.inj H
              obtain ⟨Zoq,Zor,Zos,Zot,Zou,Zov,Zow,Zox,Zoy,Zoz,Zo0,Zo1,Zo2,Zo3,Zo4,Zo5⟩ := Jf Zbn.out
              go_wp2
              go_ret
              exact ⟨Qw,Vh⟩
             ·rw [if_neg c19] at H
              have Zhq : decide (20 < (((Ze l0 Jk).f7).length : Int)) = false := decide_eq_false c19
              have Zhr : decide (20 < ((Ze l0 Jk).f7).length) = false := decide_eq_false (by omega)
              clear c19
              have H' := Za.mk H
              clear H
              obtain ⟨Lp,Lr,Ls,Lt,Lu,Lv,Lx,L6,L8,L9,Ma,Mc,Md,Me,Mf,Mg⟩ := Jf Zbn.out
              go_wp2
              go_roundg k3
              case measure => have := HK1.out;have := HK2.out;have := HK3.out;omega
              case rel => exact ⟨(Jfy),(wrap64 (Jk + 1)),Vz,Vz,H',⟨(by have := HK1.out;have := HK2.out;have := HK3.out;omega)⟩,⟨Vh⟩⟩
     ·rw [if_neg c4] at H
      exact absurd H (by simp)
    ·rw [if_neg c3] at H
     exact absurd H (by simp)
   ·rw [if_neg c2] at H
    have wm : decide (Jk < (l0.length : Int)) = false := decide_eq_false c2
    clear c2
    by_cases Pq : (l0.length : Int) ≤ 20
    ·rw [if_pos Pq] at H
     have Sn : decide ((l0.length : Int) ≤ 20) = true := decide_eq_true Pq
     have Ziq : decide (l0.length ≤ 20) = true := decide_eq_true (by omega)
     clear Pq
     obtain rfl := Option.some.inj H
     go_wp2
     go_ret
     exact ⟨Qw,J5⟩
    ·rw [if_neg Pq] at H
     have Sn : decide ((l0.length : Int) ≤ 20) = false := decide_eq_false Pq
     have Ziq : decide (l0.length ≤ 20) = false := decide_eq_false (by omega)
     clear Pq
     obtain rfl := Option.some.inj H
     go_wp2
     go_ret
     exact ⟨Qw,J5⟩
end Go.Proofs.YtdhpcofnddkcaaaGreatDoor.S
namespace Go.Proofs.YtdhpcofnddkcaaaGreatDoor.S
open Go.RowKit Go.Proofs.YtdhpcofnddkcaaaGreatDoor.G Go.Proofs.YtdhpcofnddkcaaaGreatDoorW.PrintWords Go.Proofs.YtdhpcofnddkcaaaGreatDoorW.PrintLast Go.Proofs.YtdhpcofnddkcaaaGreatDoorW.PrintMore
set_option linter.unusedVariables false
set_option linter.unusedSimpArgs false
def Mem (s : Xx) : Prop := s.f1.size ≤ 281474976710656 ∧ s.f2.size ≤ 281474976710656 ∧ s.f5.size ≤ 281474976710656 ∧ s.f6.size ≤ 281474976710656 ∧ s.f4.length ≤ 281474976710656 ∧ s.f7.length ≤ 281474976710656 ∧
  (∀ t ∈ s.f4,t.size ≤ 281474976710656) ∧ (∀ a ∈ s.f7,a.f0.size ≤ 281474976710656 ∧ a.f2.size ≤ 281474976710656)
def Gy (l : List ByteArray) : Nat := (l.map ByteArray.size).sum
def Sb (l : List Y4) : Nat := (l.map fun a => a.f0.size + a.f2.size).sum
theorem Jcb (l : List ByteArray) (i : Nat) (h : i < l.length) : Gy (l.drop i) = l[i].size + Gy (l.drop (i + 1)) := by
  rw [List.drop_eq_getElem_cons h]
  unfold Gy
  rw [List.map_cons,List.sum_cons]
theorem Jcc (l : List Y4) (i : Nat) (h : i < l.length) : Sb (l.drop i) = (l[i].f0.size + l[i].f2.size) + Sb (l.drop (i + 1)) := by
  rw [List.drop_eq_getElem_cons h]
  unfold Sb
  rw [List.map_cons,List.sum_cons]
theorem Jkq (l : List ByteArray) (h : ∀ t ∈ l,t.size ≤ 281474976710656) : Gy l ≤ l.length * 281474976710656 := by
  induction l with
  | nil => simp [Gy]
  | cons a t ih =>
    have h1 := ih (fun x hx => h x (.tail _ hx))
    have h2 := h a (.head _)
    simp [Gy] at h1 ⊢
    omega
theorem Jkr (l : List Y4) (h : ∀ a ∈ l,a.f0.size ≤ 281474976710656 ∧ a.f2.size ≤ 281474976710656) : Sb l ≤ l.length * 562949953421312 := by
  induction l with
  | nil => simp [Sb]
  | cons a t ih =>
    have h1 := ih (fun x hx => h x (.tail _ hx))
    have h2 := h a (.head _)
    simp [Sb] at h1 ⊢
    omega
theorem Jp4 (x0 x10 : List Xx) (x11 x12 : Int) (s : Xx) (l : List Y4) (hl : l.length ≤ 281474976710656) (hm : ∀ a ∈ l,a.f0.size ≤ 281474976710656 ∧ a.f2.size ≤ 281474976710656) : ∀ (d i : Nat) (n : Int),l.length - i ≤ d → i ≤ l.length → ∀ k,
    ∃ n',Zx.l2 (d + k + 1) x0 n x10 x11 x12 l (l.length : Int) (i : Int) s.f0 s.f1 s.f2 s.f3 s.f4 s.f5 s.f6 s.f7 = (if (s.f4.length : Int) > 20 then some false else (if (s.f7.length : Int) > 20 then some false else (Zx.l0 (k + (d - (l.length - i))) x0 n' x10 x11 (wrap64 (x12 + 1))))) ∧
      (0 ≤ n → n + Sb (l.drop i) ≤ 4611686018427387904 → n' = n + Sb (l.drop i)) := by
  intro d
  induction d with
  | zero =>
    intro i n h1 h2 k
    refine ⟨n,?_,fun _ _ => ?_⟩
    · rw [Zx.l2,if_neg (by omega),show 0 + k = k + (0 - (l.length - i)) by omega]
    · rw [List.drop_of_length_le (by omega)]
      simp [Sb]
  | succ d ih =>
    intro i n h1 h2 k
    by_cases hi : i < l.length
    · obtain ⟨n',e1,e2⟩ := ih (i + 1) (wrap64 (n + wrap64 ((l[i].f0.size : Int) + (l[i].f2.size : Int)))) (by omega) (by omega) k
      have hb := hm _ (List.getElem_mem hi)
      refine ⟨n',?_,fun h3 h4 => ?_⟩
      · rw [show d + 1 + k + 1 = (d + k + 1) + 1 by omega,Zx.l2,if_pos (by omega),if_pos (by omega),if_pos (by omega),Jfa l i hi,l5 ((i : Int) + 1) (by omega) (by omega),show (i : Int) + 1 = ((i + 1 : Nat) : Int) by omega,e1]
        rw [show d - (l.length - (i + 1)) = d + 1 - (l.length - i) by omega]
      · rw [Jcc l i hi] at h4 ⊢
        rw [l5 ((l[i].f0.size : Int) + (l[i].f2.size : Int)) (by omega) (by omega),l5 (n + ((l[i].f0.size : Int) + (l[i].f2.size : Int))) (by omega) (by omega)] at e2
        rw [e2 (by omega) (by omega)]
        omega
    · refine ⟨n,?_,fun _ _ => ?_⟩
      · rw [show d + 1 + k + 1 = (d + 1 + k) + 1 by omega,Zx.l2,if_neg (by omega),show d + 1 + k = k + (d + 1 - (l.length - i)) by omega]
      · rw [List.drop_of_length_le (by omega)]
        simp [Sb]
theorem Jp5 (x0 x10 : List Xx) (x11 x12 : Int) (s : Xx) (l : List ByteArray) (hl : l.length ≤ 281474976710656) (hm : ∀ t ∈ l,t.size ≤ 281474976710656) : ∀ (d i : Nat) (n : Int),l.length - i ≤ d → i ≤ l.length → ∀ k,
    ∃ n',Zx.l1 (d + k + 1) x0 n x10 x11 x12 l (l.length : Int) (i : Int) s.f0 s.f1 s.f2 s.f3 s.f4 s.f5 s.f6 s.f7 = Zx.l2 (k + (d - (l.length - i))) x0 n' x10 x11 x12 s.f7 (s.f7.length : Int) 0 s.f0 s.f1 s.f2 s.f3 s.f4 s.f5 s.f6 s.f7 ∧
      (0 ≤ n → n + Gy (l.drop i) ≤ 4611686018427387904 → n' = n + Gy (l.drop i)) := by
  intro d
  induction d with
  | zero =>
    intro i n h1 h2 k
    refine ⟨n,?_,fun _ _ => ?_⟩
    · rw [Zx.l1,if_neg (by omega),show 0 + k = k + (0 - (l.length - i)) by omega]
    · rw [List.drop_of_length_le (by omega)]
      simp [Gy]
  | succ d ih =>
    intro i n h1 h2 k
    by_cases hi : i < l.length
    · obtain ⟨n',e1,e2⟩ := ih (i + 1) (wrap64 (n + (l[i].size : Int))) (by omega) (by omega) k
      have hb := hm _ (List.getElem_mem hi)
      refine ⟨n',?_,fun h3 h4 => ?_⟩
      · rw [show d + 1 + k + 1 = (d + k + 1) + 1 by omega,Zx.l1,if_pos (by omega),if_pos (by omega),if_pos (by omega),Jw7 l i hi,l5 ((i : Int) + 1) (by omega) (by omega),show (i : Int) + 1 = ((i + 1 : Nat) : Int) by omega,e1]
        rw [show d - (l.length - (i + 1)) = d + 1 - (l.length - i) by omega]
      · rw [Jcb l i hi] at h4 ⊢
        rw [l5 _ (by omega) (by omega)] at e2
        rw [e2 (by omega) (by omega)]
        omega
    · refine ⟨n,?_,fun _ _ => ?_⟩
      · rw [show d + 1 + k + 1 = (d + 1 + k) + 1 by omega,Zx.l1,if_neg (by omega),show d + 1 + k = k + (d + 1 - (l.length - i)) by omega]
      · rw [List.drop_of_length_le (by omega)]
        simp [Gy]
def Zr4 (s : Xx) : Nat := s.f1.size + s.f2.size + s.f5.size + s.f6.size + Gy s.f4 + Sb s.f7
def tot (l : List Xx) : Nat := (l.map Zr4).sum
def fuel : List Xx → Nat
  | [] => 1
  | s :: t => s.f4.length + s.f7.length + 3 + fuel t
theorem Zi2 (s : Xx) (t : List Xx) : tot (s :: t) = Zr4 s + tot t := by
  unfold tot
  rw [List.map_cons,List.sum_cons]
theorem Jp6 (l : List Xx) (hl : l.length ≤ 281474976710656) (hm : ∀ s ∈ l,Mem s) : ∀ (d i : Nat) (n : Int),l.length - i ≤ d → i ≤ l.length →
    ∃ b,Zx.l0 (fuel (l.drop i)) l n l (l.length : Int) (i : Int) = some b ∧ (b = true → l.length ≤ 20 ∧ (∀ s ∈ l.drop i,s.f4.length ≤ 20 ∧ s.f7.length ≤ 20) ∧ (0 ≤ n → n + tot (l.drop i) ≤ 4611686018427387904 → n + tot (l.drop i) ≤ 3000)) := by
  intro d
  induction d with
  | zero =>
    intro i n h1 h2
    rw [List.drop_of_length_le (by omega)]
    show ∃ b,Zx.l0 (0 + 1) l n l (l.length : Int) (i : Int) = some b ∧ _
    rw [Zx.l0,if_neg (by omega)]
    by_cases h : (l.length : Int) ≤ 20
    · rw [if_pos h]
      refine ⟨_,rfl,fun hb => ⟨by omega,(fun s hs => by cases hs),fun _ _ => ?_⟩⟩
      have := of_decide_eq_true hb
      show n + ((0 : Nat) : Int) ≤ 3000
      omega
    · rw [if_neg h]
      exact ⟨false,rfl,fun hb => by cases hb⟩
  | succ d ih =>
    intro i n h1 h2
    by_cases hi : i < l.length
    · have hd : l.drop i = l[i] :: l.drop (i + 1) := List.drop_eq_getElem_cons hi
      obtain ⟨m1,m2,m5,m6,m4,m7,mw,ma⟩ := hm _ (List.getElem_mem hi)
      rw [hd]
      show ∃ b,Zx.l0 (l[i].f4.length + l[i].f7.length + 3 + fuel (l.drop (i + 1))) l n l (l.length : Int) (i : Int) = some b ∧ _
      generalize hs : l[i] = s at *
      obtain ⟨n1,e1,g1⟩ := Jp5 l l (l.length : Int) (i : Int) s s.f4 m4 mw s.f4.length 0 (wrap64 (n + wrap64 (wrap64 (wrap64 ((s.f1.size : Int) + (s.f2.size : Int)) + (s.f5.size : Int)) + (s.f6.size : Int)))) (by omega) (by omega) (s.f7.length + fuel (l.drop (i + 1)) + 1)
      obtain ⟨n2,e2,g2⟩ := Jp4 l l (l.length : Int) (i : Int) s s.f7 m7 ma s.f7.length 0 n1 (by omega) (by omega) (fuel (l.drop (i + 1)))
      rw [show s.f4.length + s.f7.length + 3 + fuel (l.drop (i + 1)) = (s.f4.length + (s.f7.length + fuel (l.drop (i + 1)) + 1) + 1) + 1 by omega,Zx.l0,if_pos (by omega),if_pos (by omega),if_pos (by omega),Jj5 l i hi,hs]
      rw [show ((0 : Nat) : Int) = 0 from rfl] at e1 e2
      rw [e1,show s.f7.length + fuel (l.drop (i + 1)) + 1 + (s.f4.length - (s.f4.length - 0)) = s.f7.length + fuel (l.drop (i + 1)) + 1 by omega,e2,show fuel (l.drop (i + 1)) + (s.f7.length - (s.f7.length - 0)) = fuel (l.drop (i + 1)) by omega]
      by_cases c4 : (s.f4.length : Int) > 20
      · rw [if_pos c4]
        exact ⟨false,rfl,fun hb => by cases hb⟩
      · rw [if_neg c4]
        by_cases c7 : (s.f7.length : Int) > 20
        · rw [if_pos c7]
          exact ⟨false,rfl,fun hb => by cases hb⟩
        · rw [if_neg c7,l5 ((i : Int) + 1) (by omega) (by omega),show (i : Int) + 1 = ((i + 1 : Nat) : Int) by omega]
          obtain ⟨b,eb,gb⟩ := ih (i + 1) n2 (by omega) (by omega)
          refine ⟨b,eb,fun hb => ?_⟩
          obtain ⟨q1,q2,q3⟩ := gb hb
          refine ⟨q1,?_,fun h0 ht => ?_⟩
          · intro x hx
            rcases List.mem_cons.1 hx with rfl | hx
            · exact ⟨by omega,by omega⟩
            · exact q2 x hx
          · rw [Zi2] at ht ⊢
            rw [List.drop_zero] at g1 g2
            have es : Zr4 s = s.f1.size + s.f2.size + s.f5.size + s.f6.size + Gy s.f4 + Sb s.f7 := rfl
            rw [l5 ((s.f1.size : Int) + (s.f2.size : Int)) (by omega) (by omega),l5 ((s.f1.size : Int) + (s.f2.size : Int) + (s.f5.size : Int)) (by omega) (by omega),l5 ((s.f1.size : Int) + (s.f2.size : Int) + (s.f5.size : Int) + (s.f6.size : Int)) (by omega) (by omega),
              l5 (n + ((s.f1.size : Int) + (s.f2.size : Int) + (s.f5.size : Int) + (s.f6.size : Int))) (by omega) (by omega)] at g1
            have k1 := g1 (by omega) (by omega)
            have k2 := g2 (by omega) (by omega)
            have k3 := q3 (by omega) (by omega)
            omega
    · have he : i = l.length := by omega
      subst he
      rw [List.drop_of_length_le (Nat.le_refl _)]
      show ∃ b,Zx.l0 (0 + 1) l n l (l.length : Int) (l.length : Int) = some b ∧ _
      rw [Zx.l0,if_neg (by omega)]
      by_cases h : (l.length : Int) ≤ 20
      · rw [if_pos h]
        refine ⟨_,rfl,fun hb => ⟨by omega,(fun s hs => by cases hs),fun _ _ => ?_⟩⟩
        have := of_decide_eq_true hb
        show n + ((0 : Nat) : Int) ≤ 3000
        omega
      · rw [if_neg h]
        exact ⟨false,rfl,fun hb => by cases hb⟩
end Go.Proofs.YtdhpcofnddkcaaaGreatDoor.S
namespace Go.Proofs.YtdhpcofnddkcaaaGreatDoor.E
open Go.ChangeShapes Go.WideShapes Go.ChangeAt Go.RowKit Go.Joins Go.Deep Go.Proofs.YtdhpcofnddkcaaaGreatDoor.G Go.Proofs.YtdhpcofnddkcaaaGreatDoor.S Go.Proofs.YtdhpcofnddkcaaaGreatDoorW.PrintWords
set_option linter.unusedVariables false
set_option linter.unusedSimpArgs false
theorem Z71 {α : Type} {p : Nat → α → Prop} : ∀ {n : Nat},(∀ i,i < n → ∃ x,p i x) → ∃ l : List α,l.length = n ∧ ∀ i x,l[i]? = some x → p i x
  | 0,_ => ⟨[],rfl,fun i x h => by simp at h⟩
  | n + 1,h => by
    obtain ⟨l,h1,h2⟩ := Z71 (p := p) (n := n) (fun i hi => h i (by omega))
    obtain ⟨x,hx⟩ := h n (by omega)
    refine ⟨l ++ [x],by simp [h1],fun i y hy => ?_⟩
    by_cases hi : i < l.length
    · rw [List.getElem?_append_left hi] at hy
      exact h2 i y hy
    · rw [List.getElem?_append_right (by omega)] at hy
      have hz : i - l.length = 0 := by
        have := (List.getElem?_eq_some_iff.1 hy).1
        simp at this
        omega
      rw [hz] at hy
      obtain rfl : x = y := by simpa using hy
      obtain rfl : i = n := by omega
      exact hx
theorem add_add (a : Addr) (m n : Nat) : (a.add m).add n = a.add (m + n) := by
  unfold Addr.add
  by_cases hm : m = 0
  · subst hm
    simp
  · by_cases hn : n = 0
    · subst hn
      simp [hm]
    · rw [if_neg hm,if_neg hn,if_neg (by omega)]
      simp [Nat.add_assoc]
section
variable {H : Type} {enc : TypeId × Value → H} {P : Program} {w : World} {base : Nat} {spare : Nat → Bool} {held : Bool}
def Fits (P : Program) (t : TypeId) (d : DataW H) : Prop := ∀ n ∈ d.weights P t,n ≤ 281474976710656
theorem Zbq {e : TypeId} : ∀ {l : List (DataW H)} {d : DataW H},d ∈ l → ∀ n ∈ d.weights P e,n ∈ DataW.weightsAll P e l
  | a :: r,d,h,n,hn => by
    rw [DataW.weightsAll]
    rcases List.mem_cons.1 h with rfl | h
    · exact List.mem_append_left _ hn
    · exact List.mem_append_right _ (Zbq h n hn)
theorem Zk9 {α : Type} (K : α → List Value → Prop) (Q : α → Prop) (sz : Nat) {t e : TypeId} (ht : P.underlying t = some (.slice e)) (hc : P.cellsOf e = sz) (hB : 0 < P.bytesOf e)
    (hel : ∀ n cs y,DataW.trod enc P w base spare held n e cs = some y → Fits P e y.1 → ∃ x,K x cs ∧ Q x) {fuel : Nat} {cs : List Value} {x : DataW H × List MemPlace} (h : DataW.trod enc P w base spare held fuel t cs = some x) (hf : Fits P t x.1) :
    ∃ (A : Option Addr) (c : Nat) (l : List α),cs = [.slice A l.length c] ∧ l.length ≤ c ∧ Ud K sz w A l.length l ∧ l.length ≤ 281474976710656 ∧ ∀ y ∈ l,Q y := by
  rcases open_slice ht h with ⟨rfl,_⟩ | ⟨a,len,cap,m,n,D,Pl,rfl,hb,hl,hm,hmm,rfl,hx⟩
  · exact ⟨none,0,[],rfl,Nat.le_refl _,⟨rfl,Nat.zero_le _,fun hn => absurd hn (Nat.lt_irrefl _)⟩,Nat.zero_le _,fun y hy => by cases hy⟩
  · have hlm : len ≤ m := by rw [hmm];split <;> omega
    have ew : ∀ es sp : List (DataW H),(DataW.slice es sp).weights P t = (es.length + sp.length) * P.bytesOf e :: (DataW.weightsAll P e es ++ DataW.weightsAll P e sp) := fun es sp => by simp [DataW.weights,ht]
    unfold Fits at hf
    rw [ew] at hf
    have hlen := hf _ (.head _)
    rw [List.length_map,List.length_range] at hlen
    have hle : len ≤ 281474976710656 := Nat.le_trans (Nat.le_trans (Nat.le_mul_of_pos_right len hB) (Nat.mul_le_mul_right _ (Nat.le_add_right _ _))) hlen
    obtain ⟨l,h1,h2⟩ := Z71 (p := fun i x => ∃ cs',cs'.length = sz ∧ K x cs' ∧ Q x ∧ ∀ j u,cs'[j]? = some u → w.cell? (a.add (i * sz + j)) = some u) (n := len) (fun i hi => by
      obtain ⟨cs',e1,e2⟩ := hx i (by omega)
      rw [hc] at e1
      obtain ⟨_,g1,g2⟩ := World.cells?_some e1
      obtain ⟨x,k1,k2⟩ := hel n cs' _ e2 (fun q hq => hf q (.tail _ (List.mem_append_left _ (Zbq (List.mem_map_of_mem (List.mem_range.2 hi)) q hq))))
      refine ⟨x,cs',g1,k1,k2,fun j u hu => ?_⟩
      have hj := (List.getElem?_eq_some_iff.1 hu).1
      rw [← add_add,g2 j (by omega),hu])
    subst h1
    refine ⟨some a,cap,l,rfl,hl,⟨rfl,by omega,fun _ => ⟨a,rfl,fun j p hp => ?_⟩⟩,hle,fun y hy => ?_⟩
    · obtain ⟨cs',g1,g2,_,g3⟩ := h2 j p hp
      exact ⟨cs',g1,g2,g3⟩
    · obtain ⟨i,hi,rfl⟩ := List.getElem_of_mem hy
      obtain ⟨_,_,_,g,_⟩ := h2 i _ (List.getElem?_eq_getElem hi)
      exact g
theorem Zl8 {t : TypeId} {fs : Array Field} {fuel : Nat} {cs : List Value} {x : DataW H × List MemPlace} (ht : P.underlying t = some (.struct fs)) (hone : oneCellFields P fs = true) (h : DataW.trod enc P w base spare held fuel t cs = some x) (hq : Fits P t x.1) :
    cs.length = P.cellsOf t ∧ ∃ n,∀ i f,fs[i]? = some f → ∃ y,DataW.trod enc P w base spare held n f.type ((cs.drop i).take 1) = some y ∧ Fits P f.type y.1 := by
  obtain ⟨xs,n,_,rfl,hl,hlen,hf⟩ := DataW.trod_struct ht h
  refine ⟨hl,n,fun i f hi => ?_⟩
  have hlt : i < fs.size := (Array.getElem?_eq_some_iff.1 hi).1
  obtain ⟨o,k⟩ := hone_of hone i f hi
  have := hf i f hi
  rw [o,k,List.getElem?_eq_getElem (by omega)] at this
  have ew : ∀ ps : List (DataW H),(DataW.agg ps).weights P t = DataW.weightsEach P (fs.toList.map (·.type)) ps := fun ps => by simp [DataW.weights,ht]
  unfold Fits at hq
  rw [ew] at hq
  refine ⟨_,this,fun q hq' => hq q (DataW.weights_mem_each (j := i) (t := f.type) (d := (xs[i]'(by omega)).1) ?_ ?_ q hq')⟩
  · rw [List.getElem?_map,Array.getElem?_toList,hi]
    rfl
  · rw [List.getElem?_map,List.getElem?_eq_getElem (by omega)]
    rfl
end
theorem Jxb {α : Type} {l : List α} (h : l.length = 3) : ∃ a b c,l = [a,b,c] := by
  match l,h with
  | [a,b,c],_ => exact ⟨a,b,c,rfl⟩
theorem Jxc {α : Type} {l : List α} (h : l.length = 8) : ∃ a b c d e f g i,l = [a,b,c,d,e,f,g,i] := by
  match l,h with
  | [a,b,c,d,e,f,g,i],_ => exact ⟨a,b,c,d,e,f,g,i,rfl⟩
section
variable {H : Type} {enc : TypeId × Value → H} {w : World} {base : Nat} {spare : Nat → Bool} {held : Bool}
theorem jk {n : Nat} {cs : List Value} {y : DataW H × List MemPlace} (h : DataW.trod enc Tryz.prog w base spare held n 9 cs = some y) (hf : Fits Tryz.prog 9 y.1) : ∃ s : ByteArray,cs = [.string s] ∧ s.size ≤ 281474976710656 := by
  obtain ⟨s,e,rfl,hs⟩ := DataW.trod_string Tryz.underlying9 h
  exact ⟨s,e,hf s.data.toList.length (by simp [DataW.weights])⟩
theorem Jp7 (n : Nat) (cs : List Value) (y : DataW H × List MemPlace) (h : DataW.trod enc Tryz.prog w base spare held n 9 cs = some y) (hf : Fits Tryz.prog 9 y.1) : ∃ x,Kd.string.K w x cs ∧ x.size ≤ 281474976710656 := jk h hf
def Jmu (a : Y4) : Prop := a.f0.size ≤ 281474976710656 ∧ a.f2.size ≤ 281474976710656
set_option maxRecDepth 100000 in
theorem Jp8 (n : Nat) (cs : List Value) (y : DataW H × List MemPlace) (h : DataW.trod enc Tryz.prog w base spare held n 44 cs = some y) (hq : Fits Tryz.prog 44 y.1) : ∃ x,k44.K w x cs ∧ Jmu x := by
  obtain ⟨hl,m,hf⟩ := Zl8 Tryz.underlying44 (by kernel_rfl) h hq
  rw [Ztt] at hl
  obtain ⟨a,b,c,rfl⟩ := Jxb hl
  obtain ⟨y0,h0,f0⟩ := hf 0 _ rfl
  obtain ⟨y1,h1,f1⟩ := hf 1 _ rfl
  obtain ⟨y2,h2,f2⟩ := hf 2 _ rfl
  obtain ⟨s,e0,z0⟩ := jk h0 f0
  obtain ⟨k,e1,_,_⟩ := DataW.trod_int Tryz.underlying42 h1
  obtain ⟨t,e2,z2⟩ := jk h2 f2
  simp at e0 e1 e2
  subst e0 e1 e2
  exact ⟨⟨s,k,t⟩,Jod w ⟨s,k,t⟩,z0,z2⟩
theorem step_cells : Tryz.prog.cellsOf 29 = 8 := by kernel_rfl
theorem Jcd : Tryz.prog.cellsOf 9 = 1 := by kernel_rfl
set_option maxRecDepth 100000 in
theorem Zla : 0 < Tryz.prog.bytesOf 9 ∧ 0 < Tryz.prog.bytesOf 44 ∧ 0 < Tryz.prog.bytesOf 29 := ⟨by decide +kernel,by decide +kernel,by decide +kernel⟩
set_option maxRecDepth 100000 in
theorem Jks (n : Nat) (cs : List Value) (y : DataW H × List MemPlace) (h : DataW.trod enc Tryz.prog w base spare held n 29 cs = some y) (hq : Fits Tryz.prog 29 y.1) : ∃ x,k29.K w x cs ∧ Mem x := by
  obtain ⟨hl,m,hf⟩ := Zl8 Tryz.underlying29 (by kernel_rfl) h hq
  rw [step_cells] at hl
  obtain ⟨c0,c1,c2,c3,c4,c5,c6,c7,rfl⟩ := Jxc hl
  obtain ⟨y0,h0,f0⟩ := hf 0 _ rfl
  obtain ⟨y1,h1,f1⟩ := hf 1 _ rfl
  obtain ⟨y2,h2,f2⟩ := hf 2 _ rfl
  obtain ⟨y3,h3,f3⟩ := hf 3 _ rfl
  obtain ⟨y4,h4,f4⟩ := hf 4 _ rfl
  obtain ⟨y5,h5,f5⟩ := hf 5 _ rfl
  obtain ⟨y6,h6,f6⟩ := hf 6 _ rfl
  obtain ⟨y7,h7,f7⟩ := hf 7 _ rfl
  obtain ⟨k,e0,_,_⟩ := DataW.trod_int Tryz.underlying25 h0
  obtain ⟨s1,e1,z1⟩ := jk h1 f1
  obtain ⟨s2,e2,z2⟩ := jk h2 f2
  obtain ⟨b,e3,_⟩ := DataW.trod_bool Tryz.underlying4 h3
  obtain ⟨A4,n4,l4,e4,q4,r4,z4,w4⟩ := Zk9 (Kd.string.K w) (fun x => x.size ≤ 281474976710656) 1 Tryz.underlying26 Jcd Zla.1 (Jp7 (enc := enc)) h4 f4
  obtain ⟨s5,e5,z5⟩ := jk h5 f5
  obtain ⟨s6,e6,z6⟩ := jk h6 f6
  obtain ⟨A7,n7,l7,e7,q7,r7,z7,w7⟩ := Zk9 (k44.K w) Jmu 3 Tryz.underlying27 Ztt Zla.2.1 (Jp8 (enc := enc)) h7 f7
  simp at e0 e1 e2 e3 e4 e5 e6 e7
  subst e0 e1 e2 e3 e4 e5 e6 e7
  exact ⟨⟨k,s1,s2,b,l4,s5,s6,l7⟩,Joe w ⟨k,s1,s2,b,l4,s5,s6,l7⟩ q4 r4 q7 r7,z1,z2,z5,z6,z4,z7,w4,w7⟩
end
set_option maxRecDepth 100000 in
theorem Z35 {H : Type} {enc : TypeId × Value → H} {W : World} {base : Nat} {v : Value} {d : DataW H} {p : List MemPlace} (hval : Value.okWide Tryz.prog W .any base 22 v) (h : DataW.Trod enc Tryz.prog W 0 (fun _ => true) true 22 v d p) (hq : Fits Tryz.prog 22 d) :
    ∃ (A : Option Addr) (c : Nat) (l : List Xx),v = .slice A l.length c ∧ l.length ≤ c ∧ Kd.C k29 W A l.length l ∧ l.length ≤ 281474976710656 ∧ ∀ s ∈ l,Mem s := by
  obtain ⟨a,len,cap,rfl⟩ := okWide_slice Tryz.underlying22 hval
  obtain ⟨fuel,hf⟩ := h
  obtain ⟨A,c,l,e,hc,hC,hz,hQ⟩ := Zk9 (k29.K W) Mem 8 Tryz.underlying22 step_cells Zla.2.2 (Jks (enc := enc)) hf hq
  simp [Value.cells] at e
  obtain ⟨rfl,rfl,rfl⟩ := e
  exact ⟨a,cap,l,rfl,hc,hC,hz,hQ⟩
end Go.Proofs.YtdhpcofnddkcaaaGreatDoor.E
namespace Go.Proofs.YtdhpcofnddkcaaaGreatDoor
open Go.RowKit
set_option linter.unusedVariables false
set_option linter.unusedSimpArgs false
theorem Jmv : (Tryz.prog.info? 62).map (·.size) = some 2 := by kernel_rfl
theorem Jf0 : (Tryz.prog.info? 5).map (fun i => (i.zero,i.size,i.bytes)) = some (some (.int .u8 0),1,1) := by kernel_rfl
theorem Jxd : liesAt Tryz.prog Tryz.prog.depth 62 (2 / Tryz.prog.cellsOf 62) 0 62 1 = true := by kernel_rfl
theorem bNe : (62 : Nat) ≠ 5 := by decide
set_option maxRecDepth 100000 in
theorem Jce (b : Nat) (w : World) (h0 : w.cell? ⟨b,0,none⟩ = some (.pointer (some ⟨b,0,none⟩))) :
    Calls Tryz.prog 34 #[.pointer (some ⟨b,0,none⟩)] w fun e w' => e = .returned (.tuple #[]) ∧ w' = w := by
  obtain ⟨j,hj,_⟩ := Option.map_eq_some_iff.1 Jmv
  go_enter Tryz.func34,Tryz.ntmps34
  go_wp2
  rw [Lib.run_neq_ptr_same w _ Tryz.underlying60 hj]
  go_wp2
  go_end0
  exact ⟨rfl,rfl⟩
set_option maxRecDepth 100000 in
theorem Z36 (b : Nat) (w : World) (h0 : w.cell? ⟨b,0,none⟩ = some (.pointer none)) (hsh : w.shape? b = some (62,2)) (hfz : w.frozen? ⟨b,0,none⟩ = false) :
    Calls Tryz.prog 34 #[.pointer (some ⟨b,0,none⟩)] w fun e w' => e = .returned (.tuple #[]) ∧ w' = w.setCell ⟨b,0,none⟩ (.pointer (some ⟨b,0,none⟩)) := by
  obtain ⟨j,hj,hjs⟩ := Option.map_eq_some_iff.1 Jmv
  go_enter Tryz.func34,Tryz.ntmps34
  go_wp2
  rw [Lib.run_to_unsafe w ⟨b,0,none⟩ Tryz.underlying60 Tryz.underlying94 hj (by rw [hjs];decide) hsh (Nat.zero_lt_succ 1)]
  simp only [Result.andThen]
  rw [Oper.upon_value]
  go_wp2
  rw [run_callFunc_extern Tryz.func47 (by kernel_rfl) (by kernel_rfl) (by kernel_rfl) (e := Extern.AbiNoEscape.same) (by kernel_rfl)]
  rw [Lib.run_noEscape]
  simp only [Result.andThen]
  rw [Oper.upon_value]
  go_wp2
  rw [Lib.run_from_unsafe w ⟨b,0,none⟩ Tryz.underlying94 Tryz.underlying60 hj hsh Jxd]
  simp only [Result.andThen]
  rw [Oper.upon_value]
  go_wp2
  go_end0
  exact ⟨rfl,rfl⟩
abbrev BF (B b : Nat) (bs : List Value) (w : World) : Prop := Lib.IsBuilderF 62 5 B b bs w
abbrev BU (B b : Nat) (bs : List Value) (w : World) : Prop := Lib.BuilderAtF 62 5 B b (.pointer (some ⟨b,0,none⟩)) bs w
theorem Jf1 (B b : Nat) (bs : List Value) (w : World) (h : BF B b bs w) :
    Calls Tryz.prog 34 #[.pointer (some ⟨b,0,none⟩)] w fun e w' => e = .returned (.tuple #[]) ∧ BU B b bs w' ∧ Below B w w' ∧ Lib.OthersKept 5 (some b) w w' := by
  rcases h with h | h
  · refine (Z36 b w h.cell0 h.shape h.frozen0).mono ?_
    rintro e w' ⟨rfl,rfl⟩
    exact ⟨rfl,h.used _,(Below.refl B w).setCell (p := ⟨b,0,none⟩) h.1 _,(Lib.OthersKept.refl _ _ w).setCell ⟨b,0,none⟩ rfl _⟩
  · refine (Jce b w h.cell0).mono ?_
    rintro e w' ⟨rfl,rfl⟩
    exact ⟨rfl,h,Below.refl B _,Lib.OthersKept.refl _ _ _⟩
set_option maxHeartbeats 2000000 in
set_option maxRecDepth 100000 in
theorem Zmp (B b : Nat) (bs : List Value) (s : ByteArray) (w : World) (h : BF B b bs w) (hlen : bs.length + s.size ≤ 140737488355328) (hBw : B ≤ w.heap.size) :
    Calls Tryz.prog 22 #[.pointer (some ⟨b,0,none⟩),.string s] w fun e w' => e = .returned (.tuple #[.int .i64 s.size,.nilIface]) ∧ BU B b (bs ++ Lib.strCells s) w' ∧ Below B w w' ∧ Lib.OthersKept 5 (some b) w w' := by
  obtain ⟨i0,hi,hz0,hz1,hz2⟩ := info_parts Jf0
  go_enter Tryz.func22,Tryz.ntmps22
  go_wp2_with (go_at_call 34;refine (Jf1 B b bs _ h).mono ?_)
  rintro e w1 ⟨rfl,h1,hb1,hk1⟩
  obtain ⟨hB,v,hbk,hown,hne⟩ := h1
  have c0 : w1.cell? ⟨b,0,none⟩ = some (.pointer (some ⟨b,0,none⟩)) := by rw [Lib.cell_of_heap hbk];rfl
  have c1 : w1.cell? ⟨b,1,none⟩ = some v := by rw [Lib.cell_of_heap hbk];rfl
  go_wp2_with (at_builtin;refine Lib.wpList_append_own_stringF _ rfl _ _ 32 9 rfl B 5 i0 Tryz.underlying32 Tryz.underlying9 hi hz0 hz1 hz2 _ _ _ rfl hown s rfl ?c3 ?c4 ?c5 ?_)
  case c3 => unfold maxLen;omega
  case c4 => omega
  case c5 => have := hb1.size;omega
  intro v' w2 hown' hgrow _
  have hlt : b < w1.heap.size := by
    rcases Nat.lt_or_ge b w1.heap.size with h' | h'
    · exact h'
    · simp [Array.getElem?_eq_none h'] at hbk
  have hb2 : w2.heap[b]? = some (.cells #[.pointer (some ⟨b,0,none⟩),v] 62 (0,0)) := by
    rw [hgrow.block b hlt (fun e => hne e.symm)]
    exact hbk
  have d0 : w2.cell? ⟨b,0,none⟩ = some (.pointer (some ⟨b,0,none⟩)) := by rw [Lib.cell_of_heap hb2];rfl
  have d1 : w2.cell? ⟨b,1,none⟩ = some v := by rw [Lib.cell_of_heap hb2];rfl
  have f1 : w2.frozen? ⟨b,1,none⟩ = false := Lib.frozen_of_heap hb2 1
  obtain ⟨ao,n',cap,rfl⟩ : ∃ ao n' cap,v' = .slice ao n' cap := by
    rcases hown'.2 with ⟨hv,_⟩ | ⟨g,cap,cur,fz,hv,_⟩
    · exact ⟨_,_,_,hv⟩
    · exact ⟨_,_,_,hv⟩
  go_wp2
  go_ret2
  refine ⟨rfl,?_,?_,(hk1.grown hgrow (Lib.ownsRowF_kind hown)).setCell ⟨b,1,none⟩ rfl _⟩
  · exact Lib.BuilderAtF.put (T := 62) (e := 5) hB hb2 (bs' := bs ++ Lib.strCells s) (by simpa [Lib.strCells_length] using hown') bNe
  · exact (hb1.grown hgrow (by have := hb1.size;omega) (fun k hk => (hown.lt k hk).1)).setCell (p := ⟨b,1,none⟩) hB _
theorem BF.below {B b : Nat} {bs : List Value} {w w' : World} (h : BF B b bs w) (hb : Below w.heap.size w w') : BF B b bs w' := by
  have go : ∀ p,Lib.BuilderAtF 62 5 B b p bs w → Lib.BuilderAtF 62 5 B b p bs w' := by
    intro p h
    have hlt := h.lt
    obtain ⟨hB,v,hk,hown,hne⟩ := h
    refine ⟨hB,v,(hb.block b hlt).trans hk,hown.kept (row := none) ⟨hb.os,hb.tape,hb.output,hb.size,fun i hi _ => hb.block i hi⟩ ?_,hne⟩
    cases h0 : v.ownBlock with
    | none => exact .inl rfl
    | some _ => exact .inr (by simp)
  exact h.elim (fun x => .inl (go _ x)) (fun x => .inr (go _ x))
theorem BF.lt {B b : Nat} {bs : List Value} {w : World} (h : BF B b bs w) : b < w.heap.size := h.elim (·.lt) (·.lt)
theorem BF.ge {B b : Nat} {bs : List Value} {w : World} (h : BF B b bs w) : B ≤ b := h.elim (·.1) (·.1)
theorem BF.new (w : World) : BF w.heap.size w.heap.size [] (w.alloc (.cells #[.pointer none,.slice none 0 0] 62)) :=
  .inl ⟨Nat.le_refl _,.slice none 0 0,Go.Proofs.YtdhpcofnddkcaaaGreatDoorW.PrintWords.Z4u w _,World.ownsRowF_nil _ _ _ _,by simp [Value.ownBlock]⟩
theorem Z37 {b g : Nat} {w w' : World} (h : Lib.OthersKept 5 (some b) w w') {cs : Array Value} {t : TypeId} {fr : Nat × Nat} (hg : w.heap[g]? = some (.cells cs t fr)) (hne : g ≠ b) (ht : t ≠ 5) : w'.heap[g]? = some (.cells cs t fr) :=
  h g _ hg (fun e => hne (Option.some.inj e)) (fun c fz e => ht (by injection e))
end Go.Proofs.YtdhpcofnddkcaaaGreatDoor
