/- polyglotlaw18.ScriptBytes: for every slice of steps the call returns true and leaves it unchanged. (Names shortened by a program.) (Text 4 of 10: what the law's proof rests on, joined; walks printed by the kit's print over given contracts, walks and plain laws by hand.) -/
import Derived.Test.YtdhpcofnddkcaaaGreatDoorByt0
import Derived.Test.YtdhpcofnddkcaaaGreatDoorByt1
import Derived.Test.YtdhpcofnddkcaaaGreatDoorByt2
namespace Go.Proofs.YtdhpcofnddkcaaaGreatDoor.S
open Go.RowKit Go.Proofs.YtdhpcofnddkcaaaGreatDoor.G Go.Proofs.YtdhpcofnddkcaaaGreatDoorW.PrintWords Go.Proofs.YtdhpcofnddkcaaaGreatDoorW.PrintLast Go.Proofs.YtdhpcofnddkcaaaGreatDoorW.PrintMore
set_option linter.unusedVariables false
set_option linter.unusedSimpArgs false
namespace Jtm
theorem Va {w : World} {g : Nat} {t : TypeId} {a0 a1 a2 : Value} (h : w.heap[g]? = some (.cells #[a0,a1,a2] t (0,0))) : w.cell? ⟨g,0,none⟩ = some a0 ∧ w.cell? ⟨g,1,none⟩ = some a1 ∧ w.cell? ⟨g,2,none⟩ = some a2 ∧ w.frozen? ⟨g,0,none⟩ = false ∧ w.frozen? ⟨g,1,none⟩ = false ∧ w.frozen? ⟨g,2,none⟩ = false := ⟨(Zd h 0).trans rfl,(Zd h 1).trans rfl,(Zd h 2).trans rfl,Zj h 0,Zj h 1,Zj h 2⟩
theorem Xk {w : World} {g : Nat} {t : TypeId} {a0 a1 a2 a3 a4 a5 a6 a7 a8 a9 a10 a11 : Value} (h : w.heap[g]? = some (.cells #[a0,a1,a2,a3,a4,a5,a6,a7,a8,a9,a10,a11] t (0,0))) : w.cell? ⟨g,0,none⟩ = some a0 ∧ w.cell? ⟨g,1,none⟩ = some a1 ∧ w.cell? ⟨g,2,none⟩ = some a2 ∧ w.cell? ⟨g,3,none⟩ = some a3 ∧ w.cell? ⟨g,4,none⟩ = some a4 ∧ w.cell? ⟨g,5,none⟩ = some a5 ∧ w.cell? ⟨g,6,none⟩ = some a6 ∧ w.cell? ⟨g,7,none⟩ = some a7 ∧ w.cell? ⟨g,8,none⟩ = some a8 ∧ w.cell? ⟨g,9,none⟩ = some a9 ∧ w.cell? ⟨g,10,none⟩ = some a10 ∧ w.cell? ⟨g,11,none⟩ = some a11 ∧ w.frozen? ⟨g,0,none⟩ = false ∧ w.frozen? ⟨g,1,none⟩ = false ∧ w.frozen? ⟨g,2,none⟩ = false ∧ w.frozen? ⟨g,3,none⟩ = false ∧ w.frozen? ⟨g,4,none⟩ = false ∧ w.frozen? ⟨g,5,none⟩ = false ∧ w.frozen? ⟨g,6,none⟩ = false ∧ w.frozen? ⟨g,7,none⟩ = false ∧ w.frozen? ⟨g,8,none⟩ = false ∧ w.frozen? ⟨g,9,none⟩ = false ∧ w.frozen? ⟨g,10,none⟩ = false ∧ w.frozen? ⟨g,11,none⟩ = false := ⟨(Zd h 0).trans rfl,(Zd h 1).trans rfl,(Zd h 2).trans rfl,(Zd h 3).trans rfl,(Zd h 4).trans rfl,(Zd h 5).trans rfl,(Zd h 6).trans rfl,(Zd h 7).trans rfl,(Zd h 8).trans rfl,(Zd h 9).trans rfl,(Zd h 10).trans rfl,(Zd h 11).trans rfl,Zj h 0,Zj h 1,Zj h 2,Zj h 3,Zj h 4,Zj h 5,Zj h 6,Zj h 7,Zj h 8,Zj h 9,Zj h 10,Zj h 11⟩
theorem Vh {p_ : Prop} (h_ : p_ := by (with_reducible repeat (first | refine Zc ?_ _ | refine Zf ?_ | refine Zb ?_ _));refine Zo (cs := #[.int .i64 0,.string (⟨#[]⟩ : ByteArray),.bool false,.string (⟨#[]⟩ : ByteArray),.int .i64 0,.int .i64 0,.int .i64 0,.int .i64 0,.bool false,.bool false,.int .i64 0,.int .i64 0]) ?_ 11 _ rfl;(with_reducible repeat (first | refine Zc ?_ _ | refine Zf ?_ | refine Zb ?_ _));refine Zo (cs := #[.int .i64 0,.string (⟨#[]⟩ : ByteArray),.bool false,.string (⟨#[]⟩ : ByteArray),.int .i64 0,.int .i64 0,.int .i64 0,.int .i64 0,.bool false,.bool false,.int .i64 0,.int .i64 0]) ?_ 10 _ rfl;(with_reducible repeat (first | refine Zc ?_ _ | refine Zf ?_ | refine Zb ?_ _));refine Zo (cs := #[.int .i64 0,.string (⟨#[]⟩ : ByteArray),.bool false,.string (⟨#[]⟩ : ByteArray),.int .i64 0,.int .i64 0,.int .i64 0,.int .i64 0,.bool false,.bool false,.int .i64 0,.int .i64 0]) ?_ 9 _ rfl;(with_reducible repeat (first | refine Zc ?_ _ | refine Zf ?_ | refine Zb ?_ _));refine Zo (cs := #[.int .i64 0,.string (⟨#[]⟩ : ByteArray),.bool false,.string (⟨#[]⟩ : ByteArray),.int .i64 0,.int .i64 0,.int .i64 0,.int .i64 0,.bool false,.bool false,.int .i64 0,.int .i64 0]) ?_ 8 _ rfl;(with_reducible repeat (first | refine Zc ?_ _ | refine Zf ?_ | refine Zb ?_ _));refine Zo (cs := #[.int .i64 0,.string (⟨#[]⟩ : ByteArray),.bool false,.string (⟨#[]⟩ : ByteArray),.int .i64 0,.int .i64 0,.int .i64 0,.int .i64 0,.bool false,.bool false,.int .i64 0,.int .i64 0]) ?_ 7 _ rfl;(with_reducible repeat (first | refine Zc ?_ _ | refine Zf ?_ | refine Zb ?_ _));refine Zo (cs := #[.int .i64 0,.string (⟨#[]⟩ : ByteArray),.bool false,.string (⟨#[]⟩ : ByteArray),.int .i64 0,.int .i64 0,.int .i64 0,.int .i64 0,.bool false,.bool false,.int .i64 0,.int .i64 0]) ?_ 6 _ rfl;(with_reducible repeat (first | refine Zc ?_ _ | refine Zf ?_ | refine Zb ?_ _));refine Zo (cs := #[.int .i64 0,.string (⟨#[]⟩ : ByteArray),.bool false,.string (⟨#[]⟩ : ByteArray),.int .i64 0,.int .i64 0,.int .i64 0,.int .i64 0,.bool false,.bool false,.int .i64 0,.int .i64 0]) ?_ 5 _ rfl;(with_reducible repeat (first | refine Zc ?_ _ | refine Zf ?_ | refine Zb ?_ _));refine Zo (cs := #[.int .i64 0,.string (⟨#[]⟩ : ByteArray),.bool false,.string (⟨#[]⟩ : ByteArray),.int .i64 0,.int .i64 0,.int .i64 0,.int .i64 0,.bool false,.bool false,.int .i64 0,.int .i64 0]) ?_ 4 _ rfl;(with_reducible repeat (first | refine Zc ?_ _ | refine Zf ?_ | refine Zb ?_ _));refine Zo (cs := #[.int .i64 0,.string (⟨#[]⟩ : ByteArray),.bool false,.string (⟨#[]⟩ : ByteArray),.int .i64 0,.int .i64 0,.int .i64 0,.int .i64 0,.bool false,.bool false,.int .i64 0,.int .i64 0]) ?_ 3 _ rfl;(with_reducible repeat (first | refine Zc ?_ _ | refine Zf ?_ | refine Zb ?_ _));refine Zo (cs := #[.int .i64 0,.string (⟨#[]⟩ : ByteArray),.bool false,.string (⟨#[]⟩ : ByteArray),.int .i64 0,.int .i64 0,.int .i64 0,.int .i64 0,.bool false,.bool false,.int .i64 0,.int .i64 0]) ?_ 2 _ rfl;(with_reducible repeat (first | refine Zc ?_ _ | refine Zf ?_ | refine Zb ?_ _));refine Zo (cs := #[.int .i64 0,.string (⟨#[]⟩ : ByteArray),.bool false,.string (⟨#[]⟩ : ByteArray),.int .i64 0,.int .i64 0,.int .i64 0,.int .i64 0,.bool false,.bool false,.int .i64 0,.int .i64 0]) ?_ 1 _ rfl;(with_reducible repeat (first | refine Zc ?_ _ | refine Zf ?_ | refine Zb ?_ _));refine Zo (cs := #[.int .i64 0,.string (⟨#[]⟩ : ByteArray),.bool false,.string (⟨#[]⟩ : ByteArray),.int .i64 0,.int .i64 0,.int .i64 0,.int .i64 0,.bool false,.bool false,.int .i64 0,.int .i64 0]) ?_ 0 _ rfl;(with_reducible repeat (first | refine Zc ?_ _ | refine Zf ?_ | refine Zb ?_ _));exact U5.out) : p_ := h_
theorem J5 {p_ : Prop} (h_ : p_ := by (with_reducible repeat (first | refine Zc ?_ _ | refine Zf ?_ | refine Zb ?_ _));exact Um.out) : p_ := h_
theorem Vz {p_ : Prop} (h_ : p_ := by repeat (first | (with_reducible first | exact HB.out | apply Z4 | apply Zr | apply Zz | refine Z8 ?_ Zl0.out | refine Z8 ?_ Zq8.out) | exact HB.out)) : p_ := h_
theorem Yb {p_ : Prop} (h_ : p_ := by repeat (first | (with_reducible first | exact HB.out | apply Z4 | apply Zr | apply Zz | refine Z8 ?_ Zl0.out) | exact HB.out)) : p_ := h_
theorem Qw {p_ : Prop} (h_ : p_ := by repeat (first | (with_reducible first | exact HB.out | apply Z4 | apply Zr | apply Zz) | exact HB.out)) : p_ := h_
theorem Xu {p_ : Prop} (h_ : p_ := by (with_reducible repeat (first | refine Zc ?_ _ | refine Zf ?_ | refine Zb ?_ _));exact U5.out) : p_ := h_
theorem Qg {p_ : Prop} (h_ : p_ := by rw [hg];exact Nat.ne_of_lt (Y3 (g := Y1) (o := .cells #[.string Z5,.int .i64 Jb,.string Jc] 44 (0,0)) J5)) : p_ := h_
theorem Dx {p_ : Prop} (h_ : p_ := by rw [hg];exact Nat.ne_of_gt (Y3 (g := Y1) (o := .cells #[.string Z5,.int .i64 Jb,.string Jc] 44 (0,0)) J5)) : p_ := h_
theorem Wp {p_ : Prop} (h_ : p_ := by (try simp only [List.map_toArray,List.map_cons,List.map_nil]);first | done | rfl | (simp only [List.length_drop,List.length_take];rfl)) : p_ := h_
theorem Sy {p_ : Prop} (h_ : p_ := by first | rfl | (simp [Vd,Ve] <;> rfl) | (simp [*,Vd,Ve] <;> rfl)) : p_ := h_
theorem Qy {p_ : Prop} (h_ : p_ := by repeat (first | (with_reducible first | exact HB.out | apply Z4 | apply Zr | apply Zz | refine Z8 ?_ Zl0.out | refine Z8 ?_ Zq8.out | refine Z8 ?_ Jl5.out) | exact HB.out)) : p_ := h_
theorem Xv {p_ : Prop} (h_ : p_ := by rw [hg];exact (Jh Qw)) : p_ := h_
theorem Ye {p_ : Prop} (h_ : p_ := by rw [hg];exact (Jh Yb)) : p_ := h_
theorem Pd {p_ : Prop} (h_ : p_ := by rw [hg];exact Nat.ne_of_lt (Y3 (g := Y2) (o := .cells #[.int .i64 0,.string (⟨#[]⟩ : ByteArray),.bool false,.string (⟨#[]⟩ : ByteArray),.int .i64 0,.int .i64 0,.int .i64 0,.int .i64 0,.bool false,.bool false,.int .i64 0,.int .i64 0] 51 (0,0)) Xu)) : p_ := h_
theorem je {p_ : Prop} (h_ : p_ := by rw [hg];exact Nat.ne_of_gt (Y3 (g := Y2) (o := .cells #[.int .i64 0,.string (⟨#[]⟩ : ByteArray),.bool false,.string (⟨#[]⟩ : ByteArray),.int .i64 0,.int .i64 0,.int .i64 0,.int .i64 0,.bool false,.bool false,.int .i64 0,.int .i64 0] 51 (0,0)) Xu)) : p_ := h_
theorem Q0 {p_ : Prop} (h_ : p_ := by first | (go_simp;done) | (go_simp;rfl)) : p_ := h_
end Jtm
open Jtm
def Jy.f (k : Nat) (Z5 : ByteArray) (Jb : Int) (Jc : ByteArray) : Option (Int × ByteArray × Bool × ByteArray × Int × Int × Int × Int × Bool × Bool × Int × Int × Bool) := if Jb = 0 then ((Hu.f Jc).bind fun Dm => (some (Dm.1,Dm.2.1,Dm.2.2.1,Dm.2.2.2.1,Dm.2.2.2.2.1,Dm.2.2.2.2.2.1,Dm.2.2.2.2.2.2.1,Dm.2.2.2.2.2.2.2.1,Dm.2.2.2.2.2.2.2.2.1,Dm.2.2.2.2.2.2.2.2.2.1,Dm.2.2.2.2.2.2.2.2.2.2.1,Dm.2.2.2.2.2.2.2.2.2.2.2,true))) else (if Jb = 1 then ((Zi.f k Jc).bind fun Zg5 => (if Zg5.2.2.2 = true then ((Ut.f Zg5.1 Zg5.2.1 Zg5.2.2.1).bind fun Yr => (some (Yr.1,Yr.2.1,Yr.2.2.1,Yr.2.2.2.1,Yr.2.2.2.2.1,Yr.2.2.2.2.2.1,Yr.2.2.2.2.2.2.1,Yr.2.2.2.2.2.2.2.1,Yr.2.2.2.2.2.2.2.2.1,Yr.2.2.2.2.2.2.2.2.2.1,Yr.2.2.2.2.2.2.2.2.2.2.1,Yr.2.2.2.2.2.2.2.2.2.2.2,true))) else (some (0,(⟨#[]⟩ : ByteArray),false,(⟨#[]⟩ : ByteArray),0,0,0,0,false,false,0,0,false)))) else (if Jb = 2 then ((Zt.f k Jc).bind fun Z0q => (if Z0q.2 = true then ((Dk.f Z0q.1).bind fun Yt => (some (Yt.1,Yt.2.1,Yt.2.2.1,Yt.2.2.2.1,Yt.2.2.2.2.1,Yt.2.2.2.2.2.1,Yt.2.2.2.2.2.2.1,Yt.2.2.2.2.2.2.2.1,Yt.2.2.2.2.2.2.2.2.1,Yt.2.2.2.2.2.2.2.2.2.1,Yt.2.2.2.2.2.2.2.2.2.2.1,Yt.2.2.2.2.2.2.2.2.2.2.2,true))) else (some (0,(⟨#[]⟩ : ByteArray),false,(⟨#[]⟩ : ByteArray),0,0,0,0,false,false,0,0,false)))) else (some (0,(⟨#[]⟩ : ByteArray),false,(⟨#[]⟩ : ByteArray),0,0,0,0,false,false,0,0,false))))
theorem Jy.mono : ∀ a0 a1 a2 k,Jz (Jy.f k a0 a1 a2) (Jy.f (k + 1) a0 a1 a2) := by
 intro a0 a1 a2 k
 unfold Jy.f
 repeat' first
   | (with_reducible exact Zi.mono _ _)
   | (with_reducible exact Zt.mono _ _)
   | (with_reducible exact Jz.refl _)
   | (with_reducible exact Jz.none _)
   | (with_reducible refine Jz.ite ?_ ?_)
   | (with_reducible refine Jz.bind ?_ (fun _ => ?_))
   | exact Zi.mono _ _
   | exact Zt.mono _ _
   | exact Jz.none _
   | refine Jz.ite ?_ ?_
   | refine Jz.bind ?_ (fun _ => ?_)
set_option maxHeartbeats 8000000 in
set_option maxRecDepth 100000 in
theorem Jy.calls (k : Nat) (Z5 : ByteArray) (Jb : Int) (Jc : ByteArray) (r1 : Int) (r2 : ByteArray) (r3 : Bool) (r4 : ByteArray) (r5 : Int) (r6 : Int) (r7 : Int) (r8 : Int) (r9 : Bool) (Fx : Bool) (Fy : Int) (r12 : Int) (r13 : Bool) (w : World) (h : Jy.f k Z5 Jb Jc = some (r1,r2,r3,r4,r5,r6,r7,r8,r9,Fx,Fy,r12,r13)) :
  Calls Tryz.prog 18 #[.agg #[.string Z5,.int .i64 Jb,.string Jc]] w fun e w' => e = .returned (.tuple #[.agg #[.int .i64 r1,.string r2,.bool r3,.string r4,.int .i64 r5,.int .i64 r6,.int .i64 r7,.int .i64 r8,.bool r9,.bool Fx,.int .i64 Fy,.int .i64 r12],.bool r13]) ∧ Below w.heap.size w w' := by
 have Z0h := Tryz.underlying44
 have Jbq := Tryz.underlying51
 have Jec := Tryz.underlying46
 have HB := Za.mk (Below.refl w.heap.size w)
 have H : (if Jb = 0 then ((Hu.f Jc).bind fun Dm => (some (Dm.1,Dm.2.1,Dm.2.2.1,Dm.2.2.2.1,Dm.2.2.2.2.1,Dm.2.2.2.2.2.1,Dm.2.2.2.2.2.2.1,Dm.2.2.2.2.2.2.2.1,Dm.2.2.2.2.2.2.2.2.1,Dm.2.2.2.2.2.2.2.2.2.1,Dm.2.2.2.2.2.2.2.2.2.2.1,Dm.2.2.2.2.2.2.2.2.2.2.2,true))) else (if Jb = 1 then ((Zi.f k Jc).bind fun Zg5 => (if Zg5.2.2.2 = true then ((Ut.f Zg5.1 Zg5.2.1 Zg5.2.2.1).bind fun Yr => (some (Yr.1,Yr.2.1,Yr.2.2.1,Yr.2.2.2.1,Yr.2.2.2.2.1,Yr.2.2.2.2.2.1,Yr.2.2.2.2.2.2.1,Yr.2.2.2.2.2.2.2.1,Yr.2.2.2.2.2.2.2.2.1,Yr.2.2.2.2.2.2.2.2.2.1,Yr.2.2.2.2.2.2.2.2.2.2.1,Yr.2.2.2.2.2.2.2.2.2.2.2,true))) else (some (0,(⟨#[]⟩ : ByteArray),false,(⟨#[]⟩ : ByteArray),0,0,0,0,false,false,0,0,false)))) else (if Jb = 2 then ((Zt.f k Jc).bind fun Z0q => (if Z0q.2 = true then ((Dk.f Z0q.1).bind fun Yt => (some (Yt.1,Yt.2.1,Yt.2.2.1,Yt.2.2.2.1,Yt.2.2.2.2.1,Yt.2.2.2.2.2.1,Yt.2.2.2.2.2.2.1,Yt.2.2.2.2.2.2.2.1,Yt.2.2.2.2.2.2.2.2.1,Yt.2.2.2.2.2.2.2.2.2.1,Yt.2.2.2.2.2.2.2.2.2.2.1,Yt.2.2.2.2.2.2.2.2.2.2.2,true))) else (some (0,(⟨#[]⟩ : ByteArray),false,(⟨#[]⟩ : ByteArray),0,0,0,0,false,false,0,0,false)))) else (some (0,(⟨#[]⟩ : ByteArray),false,(⟨#[]⟩ : ByteArray),0,0,0,0,false,false,0,0,false))))) = some (r1,r2,r3,r4,r5,r6,r7,r8,r9,Fx,Fy,r12,r13) := h
 clear h
 by_cases c2 : Jb = 0
 ·rw [if_pos c2] at H
  have wm : (Jb == 0) = true := beq_iff_eq.mpr c2
  have Zfp : (Jb != 0) = false := bne_eq_false_iff_eq.mpr c2
  clear c2
  replace H := Option.bind_eq_some_iff.mp H
  obtain ⟨⟨t213,Zkp,Zmj,Zq9,Zs1,t218,Z0r,Z3f,Jby,t222,Jiq,Jo4⟩,A30,H⟩ := H
  replace H : (some (t213,Zkp,Zmj,Zq9,Zs1,t218,Z0r,Z3f,Jby,t222,Jiq,Jo4,true)) = some (r1,r2,r3,r4,r5,r6,r7,r8,r9,Fx,Fy,r12,r13) := H
  have A3 := Za.mk A30
  clear A30
  simp only [Option.some.injEq,Prod.mk.injEq] at H
  obtain ⟨rfl,rfl,rfl,rfl,rfl,rfl,rfl,rfl,rfl,rfl,rfl,rfl,rfl⟩ := H
  go_enter Tryz.func18,Tryz.ntmps18
  go_wp2_with (first | ((with_reducible refine Jg (N := 1) rfl ?_);refine Je ?hg (N := 1) ?hd (cs := #[.string Z5,.int .i64 Jb,.string Jc]) (t := 44) ?hr ?_;(case hd => rfl);(case hg => rfl);(case hr => exact Q0);intro Y1 hg w4 hbox hb;have Um := Za.mk (hbox);have Z0s := Za.mk ((Xv : w.heap.size ≤ Y1));have Zl0 := Za.mk ((Xv : w.heap.size ≤ Y1));replace HB := Za.mk (Zm Qw hb);clear hb hbox hg) | ((with_reducible refine Jg (N := 2) rfl ?_);refine Je ?hg (N := 2) ?hd (cs := #[.int .i64 0,.string (⟨#[]⟩ : ByteArray),.bool false,.string (⟨#[]⟩ : ByteArray),.int .i64 0,.int .i64 0,.int .i64 0,.int .i64 0,.bool false,.bool false,.int .i64 0,.int .i64 0]) (t := 51) ?hr ?_;(case hd => rfl);(case hg => rfl);(case hr => exact Q0);intro Y2 hg w5 hbox hb;have U5 := Za.mk (hbox);have Z0t := Za.mk ((Ye : w.heap.size ≤ Y2));have Zq8 := Za.mk ((Ye : w.heap.size ≤ Y2));replace HB := Za.mk (Zm Yb hb);have Wd := Za.mk ((Qg : Y1 ≠ Y2));have We := Za.mk ((Dx : Y2 ≠ Y1));replace Um := Za.mk (Zw (g := Y1) (o := .cells #[.string Z5,.int .i64 Jb,.string Jc] 44 (0,0)) J5 hb);clear hb hbox hg;have hnb6 := Wd.out;have hnc6 := We.out;obtain ⟨Jor,Jos,Jot,Jou,Jov,Jow⟩ := Va Um.out) | ((with_reducible refine Z7 (f := 26) rfl ?_);refine Ju (some 14) rfl rfl Tryz.func26 (by kernel_rfl) rfl #[.string Jc] rfl Wp ?_;(with_reducible refine (Hu.calls Jc t213 Zkp Zmj Zq9 Zs1 t218 Z0r Z3f Jby t222 Jiq Jo4 _ A3.out).mono ?_);rintro e w8 ⟨rfl,hb⟩;refine ⟨_,rfl,?_⟩;replace Um := Za.mk (Zw (g := Y1) (o := .cells #[.string Z5,.int .i64 Jb,.string Jc] 44 (0,0)) J5 hb);replace U5 := Za.mk (Zw (g := Y2) (o := .cells #[.int .i64 0,.string (⟨#[]⟩ : ByteArray),.bool false,.string (⟨#[]⟩ : ByteArray),.int .i64 0,.int .i64 0,.int .i64 0,.int .i64 0,.bool false,.bool false,.int .i64 0,.int .i64 0] 51 (0,0)) Xu hb);replace HB := Za.mk (Zm Vz hb);(try clear hb);(try clear hb2);(try clear hk);(try clear hi);obtain ⟨Z2x,Z2y,Z2z,Z20,Z21,Z22,Z23,Z24,Jox,Joy,Jie,Jif,Z25,Z26,Z27,Z28,Z29,Z3a,Z3b,Z3c,Joz,Jo0,Jig,Jih⟩ := Xk U5.out))
  refine bodyPost_ret (Vr rfl _ _ Y2 51 #[.int .i64 t213,.string Zkp,.bool Zmj,.string Zq9,.int .i64 Zs1,.int .i64 t218,.int .i64 Z0r,.int .i64 Z3f,.bool Jby,.bool t222,.int .i64 Jiq,.int .i64 Jo4] (0,0) _ rfl (by (with_reducible repeat (first | refine Zc ?_ _ | refine Zf ?_ | refine Zb ?_ _));refine Zo (cs := #[.int .i64 t213,.string Zkp,.bool Zmj,.string Zq9,.int .i64 Zs1,.int .i64 t218,.int .i64 Z0r,.int .i64 Z3f,.bool Jby,.bool t222,.int .i64 Jiq,.int .i64 0]) ?_ 11 _ rfl;(with_reducible repeat (first | refine Zc ?_ _ | refine Zf ?_ | refine Zb ?_ _));refine Zo (cs := #[.int .i64 t213,.string Zkp,.bool Zmj,.string Zq9,.int .i64 Zs1,.int .i64 t218,.int .i64 Z0r,.int .i64 Z3f,.bool Jby,.bool t222,.int .i64 0,.int .i64 0]) ?_ 10 _ rfl;(with_reducible repeat (first | refine Zc ?_ _ | refine Zf ?_ | refine Zb ?_ _));refine Zo (cs := #[.int .i64 t213,.string Zkp,.bool Zmj,.string Zq9,.int .i64 Zs1,.int .i64 t218,.int .i64 Z0r,.int .i64 Z3f,.bool Jby,.bool false,.int .i64 0,.int .i64 0]) ?_ 9 _ rfl;(with_reducible repeat (first | refine Zc ?_ _ | refine Zf ?_ | refine Zb ?_ _));refine Zo (cs := #[.int .i64 t213,.string Zkp,.bool Zmj,.string Zq9,.int .i64 Zs1,.int .i64 t218,.int .i64 Z0r,.int .i64 Z3f,.bool false,.bool false,.int .i64 0,.int .i64 0]) ?_ 8 _ rfl;(with_reducible repeat (first | refine Zc ?_ _ | refine Zf ?_ | refine Zb ?_ _));refine Zo (cs := #[.int .i64 t213,.string Zkp,.bool Zmj,.string Zq9,.int .i64 Zs1,.int .i64 t218,.int .i64 Z0r,.int .i64 0,.bool false,.bool false,.int .i64 0,.int .i64 0]) ?_ 7 _ rfl;(with_reducible repeat (first | refine Zc ?_ _ | refine Zf ?_ | refine Zb ?_ _));refine Zo (cs := #[.int .i64 t213,.string Zkp,.bool Zmj,.string Zq9,.int .i64 Zs1,.int .i64 t218,.int .i64 0,.int .i64 0,.bool false,.bool false,.int .i64 0,.int .i64 0]) ?_ 6 _ rfl;(with_reducible repeat (first | refine Zc ?_ _ | refine Zf ?_ | refine Zb ?_ _));refine Zo (cs := #[.int .i64 t213,.string Zkp,.bool Zmj,.string Zq9,.int .i64 Zs1,.int .i64 0,.int .i64 0,.int .i64 0,.bool false,.bool false,.int .i64 0,.int .i64 0]) ?_ 5 _ rfl;(with_reducible repeat (first | refine Zc ?_ _ | refine Zf ?_ | refine Zb ?_ _));refine Zo (cs := #[.int .i64 t213,.string Zkp,.bool Zmj,.string Zq9,.int .i64 0,.int .i64 0,.int .i64 0,.int .i64 0,.bool false,.bool false,.int .i64 0,.int .i64 0]) ?_ 4 _ rfl;(with_reducible repeat (first | refine Zc ?_ _ | refine Zf ?_ | refine Zb ?_ _));refine Zo (cs := #[.int .i64 t213,.string Zkp,.bool Zmj,.string (⟨#[]⟩ : ByteArray),.int .i64 0,.int .i64 0,.int .i64 0,.int .i64 0,.bool false,.bool false,.int .i64 0,.int .i64 0]) ?_ 3 _ rfl;(with_reducible repeat (first | refine Zc ?_ _ | refine Zf ?_ | refine Zb ?_ _));refine Zo (cs := #[.int .i64 t213,.string Zkp,.bool false,.string (⟨#[]⟩ : ByteArray),.int .i64 0,.int .i64 0,.int .i64 0,.int .i64 0,.bool false,.bool false,.int .i64 0,.int .i64 0]) ?_ 2 _ rfl;(with_reducible repeat (first | refine Zc ?_ _ | refine Zf ?_ | refine Zb ?_ _));refine Zo (cs := #[.int .i64 t213,.string (⟨#[]⟩ : ByteArray),.bool false,.string (⟨#[]⟩ : ByteArray),.int .i64 0,.int .i64 0,.int .i64 0,.int .i64 0,.bool false,.bool false,.int .i64 0,.int .i64 0]) ?_ 1 _ rfl;(with_reducible repeat (first | refine Zc ?_ _ | refine Zf ?_ | refine Zb ?_ _));refine Zo (cs := #[.int .i64 0,.string (⟨#[]⟩ : ByteArray),.bool false,.string (⟨#[]⟩ : ByteArray),.int .i64 0,.int .i64 0,.int .i64 0,.int .i64 0,.bool false,.bool false,.int .i64 0,.int .i64 0]) ?_ 0 _ rfl;(with_reducible repeat (first | refine Zc ?_ _ | refine Zf ?_ | refine Zb ?_ _));exact U5.out) Tryz.underlying51 rfl (by kernel_rfl)) rfl ?_
  exact ⟨Sy,Vz⟩
 ·rw [if_neg c2] at H
  have wm : (Jb == 0) = false := beq_eq_false_iff_ne.mpr c2
  have Zfp : (Jb != 0) = true := bne_iff_ne.mpr c2
  by_cases c10 : Jb = 1
  ·rw [if_pos c10] at H
   have df : (Jb == 1) = true := beq_iff_eq.mpr c10
   have Zq3 : (Jb != 1) = false := bne_eq_false_iff_eq.mpr c10
   clear c10
   replace H := Option.bind_eq_some_iff.mp H
   obtain ⟨⟨Zvr,t226,t227,t228⟩,Z0l,H⟩ := H
   replace H : (if t228 = true then ((Ut.f Zvr t226 t227).bind fun Yr => (some (Yr.1,Yr.2.1,Yr.2.2.1,Yr.2.2.2.1,Yr.2.2.2.2.1,Yr.2.2.2.2.2.1,Yr.2.2.2.2.2.2.1,Yr.2.2.2.2.2.2.2.1,Yr.2.2.2.2.2.2.2.2.1,Yr.2.2.2.2.2.2.2.2.2.1,Yr.2.2.2.2.2.2.2.2.2.2.1,Yr.2.2.2.2.2.2.2.2.2.2.2,true))) else (some (0,(⟨#[]⟩ : ByteArray),false,(⟨#[]⟩ : ByteArray),0,0,0,0,false,false,0,0,false))) = some (r1,r2,r3,r4,r5,r6,r7,r8,r9,Fx,Fy,r12,r13) := H
   have A11 := Za.mk Z0l
   clear Z0l
   by_cases c12 : t228 = true
   ·subst c12
    have H1 : ((Ut.f Zvr t226 t227).bind fun Yr => (some (Yr.1,Yr.2.1,Yr.2.2.1,Yr.2.2.2.1,Yr.2.2.2.2.1,Yr.2.2.2.2.2.1,Yr.2.2.2.2.2.2.1,Yr.2.2.2.2.2.2.2.1,Yr.2.2.2.2.2.2.2.2.1,Yr.2.2.2.2.2.2.2.2.2.1,Yr.2.2.2.2.2.2.2.2.2.2.1,Yr.2.2.2.2.2.2.2.2.2.2.2,true))) = some (r1,r2,r3,r4,r5,r6,r7,r8,r9,Fx,Fy,r12,r13) := by rw [if_pos rfl] at H;exact H
    clear H
    have H := H1
    clear H1
    replace H := Option.bind_eq_some_iff.mp H
    obtain ⟨⟨Zg6,Zkq,t232,t233,t234,Zvs,t236,Z3g,Jbz,Jeu,Jir,Jo5⟩,Zqt,H⟩ := H
    replace H : (some (Zg6,Zkq,t232,t233,t234,Zvs,t236,Z3g,Jbz,Jeu,Jir,Jo5,true)) = some (r1,r2,r3,r4,r5,r6,r7,r8,r9,Fx,Fy,r12,r13) := H
    have A13 := Za.mk Zqt
    clear Zqt
    simp only [Option.some.injEq,Prod.mk.injEq] at H
    obtain ⟨rfl,rfl,rfl,rfl,rfl,rfl,rfl,rfl,rfl,rfl,rfl,rfl,rfl⟩ := H
    go_enter Tryz.func18,Tryz.ntmps18
    go_wp2_with (first | ((with_reducible refine Jg (N := 1) rfl ?_);refine Je ?hg (N := 1) ?hd (cs := #[.string Z5,.int .i64 Jb,.string Jc]) (t := 44) ?hr ?_;(case hd => rfl);(case hg => rfl);(case hr => exact Q0);intro Y1 hg w14 hbox hb;have Um := Za.mk (hbox);have Z0s := Za.mk ((Xv : w.heap.size ≤ Y1));have Zl0 := Za.mk ((Xv : w.heap.size ≤ Y1));replace HB := Za.mk (Zm Qw hb);clear hb hbox hg) | ((with_reducible refine Jg (N := 2) rfl ?_);refine Je ?hg (N := 2) ?hd (cs := #[.int .i64 0,.string (⟨#[]⟩ : ByteArray),.bool false,.string (⟨#[]⟩ : ByteArray),.int .i64 0,.int .i64 0,.int .i64 0,.int .i64 0,.bool false,.bool false,.int .i64 0,.int .i64 0]) (t := 51) ?hr ?_;(case hd => rfl);(case hg => rfl);(case hr => exact Q0);intro Y2 hg w15 hbox hb;have U5 := Za.mk (hbox);have Z0t := Za.mk ((Ye : w.heap.size ≤ Y2));have Zq8 := Za.mk ((Ye : w.heap.size ≤ Y2));replace HB := Za.mk (Zm Yb hb);have Wd := Za.mk ((Qg : Y1 ≠ Y2));have We := Za.mk ((Dx : Y2 ≠ Y1));replace Um := Za.mk (Zw (g := Y1) (o := .cells #[.string Z5,.int .i64 Jb,.string Jc] 44 (0,0)) J5 hb);clear hb hbox hg;have Jlz := Wd.out;have Jl0 := We.out;obtain ⟨Ra,Rb,Rc,Re,Rf,Rh⟩ := Va Um.out) | ((with_reducible refine Z7 (f := 31) rfl ?_);refine Ju (some 20) rfl rfl Tryz.func31 (by kernel_rfl) rfl #[.string Jc] rfl Wp ?_;(with_reducible refine (Zi.calls k Jc Zvr t226 t227 true _ A11.out).mono ?_);rintro e w18 ⟨rfl,hb⟩;refine ⟨_,rfl,?_⟩;replace Um := Za.mk (Zw (g := Y1) (o := .cells #[.string Z5,.int .i64 Jb,.string Jc] 44 (0,0)) J5 hb);replace U5 := Za.mk (Zw (g := Y2) (o := .cells #[.int .i64 0,.string (⟨#[]⟩ : ByteArray),.bool false,.string (⟨#[]⟩ : ByteArray),.int .i64 0,.int .i64 0,.int .i64 0,.int .i64 0,.bool false,.bool false,.int .i64 0,.int .i64 0] 51 (0,0)) Xu hb);replace HB := Za.mk (Zm Vz hb);(try clear hb);(try clear hb2);(try clear hk);(try clear hi)) | ((with_reducible refine Jg (N := 4) rfl ?_);refine Je ?hg (N := 4) ?hd (cs := #[.bool false,.string (⟨#[]⟩ : ByteArray),.int .i64 0]) (t := 46) ?hr ?_;(case hd => rfl);(case hg => rfl);(case hr => exact Q0);intro xm hg w19 hbox hb;have Z0u := Za.mk (hbox);have Jtn := Za.mk (((by rw [hg];exact (Jh Vz)) : w.heap.size ≤ xm));have Jl5 := Za.mk (((by rw [hg];exact (Jh Vz)) : w.heap.size ≤ xm));replace HB := Za.mk (Zm Vz hb);have zt := Za.mk ((Qg : Y1 ≠ xm));have Zkr := Za.mk ((Dx : xm ≠ Y1));replace Um := Za.mk (Zw (g := Y1) (o := .cells #[.string Z5,.int .i64 Jb,.string Jc] 44 (0,0)) J5 hb);have Gc := Za.mk ((Pd : Y2 ≠ xm));have Zks := Za.mk ((je : xm ≠ Y2));replace U5 := Za.mk (Zw (g := Y2) (o := .cells #[.int .i64 0,.string (⟨#[]⟩ : ByteArray),.bool false,.string (⟨#[]⟩ : ByteArray),.int .i64 0,.int .i64 0,.int .i64 0,.int .i64 0,.bool false,.bool false,.int .i64 0,.int .i64 0] 51 (0,0)) Xu hb);clear hb hbox hg;have Jl1 := Zkr.out;have Jl2 := zt.out;have Jss := Zks.out;have Jst := Gc.out;obtain ⟨Zm2,Zm3,Zm4,Zm5,Zm6,Zm7⟩ := Va Z0u.out) | ((with_reducible refine Z7 (f := 28) rfl ?_);refine Ju (some 25) rfl rfl Tryz.func28 (by kernel_rfl) rfl #[.agg #[.bool Zvr,.string t226,.int .i64 t227]] rfl Wp ?_;(with_reducible refine (Ut.calls Zvr t226 t227 Zg6 Zkq t232 t233 t234 Zvs t236 Z3g Jbz Jeu Jir Jo5 _ A13.out).mono ?_);rintro e w23 ⟨rfl,hb⟩;refine ⟨_,rfl,?_⟩;replace Um := Za.mk (Zw (g := Y1) (o := .cells #[.string Z5,.int .i64 Jb,.string Jc] 44 (0,0)) (by (with_reducible repeat (first | refine Zc ?_ _ | refine Zf ?_ | refine Zb ?_ _));refine Jl ?_ zt.out _;(with_reducible repeat (first | refine Zc ?_ _ | refine Zf ?_ | refine Zb ?_ _));refine Jl ?_ zt.out _;(with_reducible repeat (first | refine Zc ?_ _ | refine Zf ?_ | refine Zb ?_ _));refine Jl ?_ zt.out _;(with_reducible repeat (first | refine Zc ?_ _ | refine Zf ?_ | refine Zb ?_ _));exact Um.out) hb);replace U5 := Za.mk (Zw (g := Y2) (o := .cells #[.int .i64 0,.string (⟨#[]⟩ : ByteArray),.bool false,.string (⟨#[]⟩ : ByteArray),.int .i64 0,.int .i64 0,.int .i64 0,.int .i64 0,.bool false,.bool false,.int .i64 0,.int .i64 0] 51 (0,0)) (by (with_reducible repeat (first | refine Zc ?_ _ | refine Zf ?_ | refine Zb ?_ _));refine Jl ?_ Gc.out _;(with_reducible repeat (first | refine Zc ?_ _ | refine Zf ?_ | refine Zb ?_ _));refine Jl ?_ Gc.out _;(with_reducible repeat (first | refine Zc ?_ _ | refine Zf ?_ | refine Zb ?_ _));refine Jl ?_ Gc.out _;(with_reducible repeat (first | refine Zc ?_ _ | refine Zf ?_ | refine Zb ?_ _));exact U5.out) hb);replace Z0u := Za.mk (Zw (g := xm) (o := .cells #[.bool Zvr,.string t226,.int .i64 t227] 46 (0,0)) (by (with_reducible repeat (first | refine Zc ?_ _ | refine Zf ?_ | refine Zb ?_ _));refine Zo (cs := #[.bool Zvr,.string t226,.int .i64 0]) ?_ 2 _ rfl;(with_reducible repeat (first | refine Zc ?_ _ | refine Zf ?_ | refine Zb ?_ _));refine Zo (cs := #[.bool Zvr,.string (⟨#[]⟩ : ByteArray),.int .i64 0]) ?_ 1 _ rfl;(with_reducible repeat (first | refine Zc ?_ _ | refine Zf ?_ | refine Zb ?_ _));refine Zo (cs := #[.bool false,.string (⟨#[]⟩ : ByteArray),.int .i64 0]) ?_ 0 _ rfl;(with_reducible repeat (first | refine Zc ?_ _ | refine Zf ?_ | refine Zb ?_ _));exact Z0u.out) hb);replace HB := Za.mk (Zm Qy hb);(try clear hb);(try clear hb2);(try clear hk);(try clear hi);obtain ⟨Wq,Ws,Wt,Ri,Rj,Rk,Rl,Rm,Zm8,Zm9,Zgw,Zgx,Wu,Wv,Ww,Rn,Ro,Rp,Rq,Rs,Zna,Znb,Zgy,Zgz⟩ := Xk U5.out))
    refine bodyPost_ret (Vr rfl _ _ Y2 51 #[.int .i64 Zg6,.string Zkq,.bool t232,.string t233,.int .i64 t234,.int .i64 Zvs,.int .i64 t236,.int .i64 Z3g,.bool Jbz,.bool Jeu,.int .i64 Jir,.int .i64 Jo5] (0,0) _ rfl (by (with_reducible repeat (first | refine Zc ?_ _ | refine Zf ?_ | refine Zb ?_ _));refine Zo (cs := #[.int .i64 Zg6,.string Zkq,.bool t232,.string t233,.int .i64 t234,.int .i64 Zvs,.int .i64 t236,.int .i64 Z3g,.bool Jbz,.bool Jeu,.int .i64 Jir,.int .i64 0]) ?_ 11 _ rfl;(with_reducible repeat (first | refine Zc ?_ _ | refine Zf ?_ | refine Zb ?_ _));refine Zo (cs := #[.int .i64 Zg6,.string Zkq,.bool t232,.string t233,.int .i64 t234,.int .i64 Zvs,.int .i64 t236,.int .i64 Z3g,.bool Jbz,.bool Jeu,.int .i64 0,.int .i64 0]) ?_ 10 _ rfl;(with_reducible repeat (first | refine Zc ?_ _ | refine Zf ?_ | refine Zb ?_ _));refine Zo (cs := #[.int .i64 Zg6,.string Zkq,.bool t232,.string t233,.int .i64 t234,.int .i64 Zvs,.int .i64 t236,.int .i64 Z3g,.bool Jbz,.bool false,.int .i64 0,.int .i64 0]) ?_ 9 _ rfl;(with_reducible repeat (first | refine Zc ?_ _ | refine Zf ?_ | refine Zb ?_ _));refine Zo (cs := #[.int .i64 Zg6,.string Zkq,.bool t232,.string t233,.int .i64 t234,.int .i64 Zvs,.int .i64 t236,.int .i64 Z3g,.bool false,.bool false,.int .i64 0,.int .i64 0]) ?_ 8 _ rfl;(with_reducible repeat (first | refine Zc ?_ _ | refine Zf ?_ | refine Zb ?_ _));refine Zo (cs := #[.int .i64 Zg6,.string Zkq,.bool t232,.string t233,.int .i64 t234,.int .i64 Zvs,.int .i64 t236,.int .i64 0,.bool false,.bool false,.int .i64 0,.int .i64 0]) ?_ 7 _ rfl;(with_reducible repeat (first | refine Zc ?_ _ | refine Zf ?_ | refine Zb ?_ _));refine Zo (cs := #[.int .i64 Zg6,.string Zkq,.bool t232,.string t233,.int .i64 t234,.int .i64 Zvs,.int .i64 0,.int .i64 0,.bool false,.bool false,.int .i64 0,.int .i64 0]) ?_ 6 _ rfl;(with_reducible repeat (first | refine Zc ?_ _ | refine Zf ?_ | refine Zb ?_ _));refine Zo (cs := #[.int .i64 Zg6,.string Zkq,.bool t232,.string t233,.int .i64 t234,.int .i64 0,.int .i64 0,.int .i64 0,.bool false,.bool false,.int .i64 0,.int .i64 0]) ?_ 5 _ rfl;(with_reducible repeat (first | refine Zc ?_ _ | refine Zf ?_ | refine Zb ?_ _));refine Zo (cs := #[.int .i64 Zg6,.string Zkq,.bool t232,.string t233,.int .i64 0,.int .i64 0,.int .i64 0,.int .i64 0,.bool false,.bool false,.int .i64 0,.int .i64 0]) ?_ 4 _ rfl;(with_reducible repeat (first | refine Zc ?_ _ | refine Zf ?_ | refine Zb ?_ _));refine Zo (cs := #[.int .i64 Zg6,.string Zkq,.bool t232,.string (⟨#[]⟩ : ByteArray),.int .i64 0,.int .i64 0,.int .i64 0,.int .i64 0,.bool false,.bool false,.int .i64 0,.int .i64 0]) ?_ 3 _ rfl;(with_reducible repeat (first | refine Zc ?_ _ | refine Zf ?_ | refine Zb ?_ _));refine Zo (cs := #[.int .i64 Zg6,.string Zkq,.bool false,.string (⟨#[]⟩ : ByteArray),.int .i64 0,.int .i64 0,.int .i64 0,.int .i64 0,.bool false,.bool false,.int .i64 0,.int .i64 0]) ?_ 2 _ rfl;(with_reducible repeat (first | refine Zc ?_ _ | refine Zf ?_ | refine Zb ?_ _));refine Zo (cs := #[.int .i64 Zg6,.string (⟨#[]⟩ : ByteArray),.bool false,.string (⟨#[]⟩ : ByteArray),.int .i64 0,.int .i64 0,.int .i64 0,.int .i64 0,.bool false,.bool false,.int .i64 0,.int .i64 0]) ?_ 1 _ rfl;(with_reducible repeat (first | refine Zc ?_ _ | refine Zf ?_ | refine Zb ?_ _));refine Zo (cs := #[.int .i64 0,.string (⟨#[]⟩ : ByteArray),.bool false,.string (⟨#[]⟩ : ByteArray),.int .i64 0,.int .i64 0,.int .i64 0,.int .i64 0,.bool false,.bool false,.int .i64 0,.int .i64 0]) ?_ 0 _ rfl;(with_reducible repeat (first | refine Zc ?_ _ | refine Zf ?_ | refine Zb ?_ _));exact U5.out) Tryz.underlying51 rfl (by kernel_rfl)) rfl ?_
    exact ⟨Sy,Qy⟩
   ·replace c12 := Bool.eq_false_iff.mpr c12
    subst c12
    have H1 : (some (0,(⟨#[]⟩ : ByteArray),false,(⟨#[]⟩ : ByteArray),0,0,0,0,false,false,0,0,false)) = some (r1,r2,r3,r4,r5,r6,r7,r8,r9,Fx,Fy,r12,r13) := by rw [if_neg (show ¬ (false = true) by decide)] at H;exact H
    clear H
    have H := H1
    clear H1
    simp only [Option.some.injEq,Prod.mk.injEq] at H
    obtain ⟨rfl,rfl,rfl,rfl,rfl,rfl,rfl,rfl,rfl,rfl,rfl,rfl,rfl⟩ := H
    go_enter Tryz.func18,Tryz.ntmps18
    go_wp2_with (first | ((with_reducible refine Jg (N := 1) rfl ?_);refine Je ?hg (N := 1) ?hd (cs := #[.string Z5,.int .i64 Jb,.string Jc]) (t := 44) ?hr ?_;(case hd => rfl);(case hg => rfl);(case hr => exact Q0);intro Y1 hg w25 hbox hb;have Um := Za.mk (hbox);have Z0s := Za.mk ((Xv : w.heap.size ≤ Y1));have Zl0 := Za.mk ((Xv : w.heap.size ≤ Y1));replace HB := Za.mk (Zm Qw hb);clear hb hbox hg) | ((with_reducible refine Jg (N := 2) rfl ?_);refine Je ?hg (N := 2) ?hd (cs := #[.int .i64 0,.string (⟨#[]⟩ : ByteArray),.bool false,.string (⟨#[]⟩ : ByteArray),.int .i64 0,.int .i64 0,.int .i64 0,.int .i64 0,.bool false,.bool false,.int .i64 0,.int .i64 0]) (t := 51) ?hr ?_;(case hd => rfl);(case hg => rfl);(case hr => exact Q0);intro Y2 hg w26 hbox hb;have U5 := Za.mk (hbox);have Z0t := Za.mk ((Ye : w.heap.size ≤ Y2));have Zq8 := Za.mk ((Ye : w.heap.size ≤ Y2));replace HB := Za.mk (Zm Yb hb);have Wd := Za.mk ((Qg : Y1 ≠ Y2));have We := Za.mk ((Dx : Y2 ≠ Y1));replace Um := Za.mk (Zw (g := Y1) (o := .cells #[.string Z5,.int .i64 Jb,.string Jc] 44 (0,0)) J5 hb);clear hb hbox hg;have Jsu := Wd.out;have Jsv := We.out;obtain ⟨l6,l8,l9,mf,mg,mh⟩ := Va Um.out) | ((with_reducible refine Z7 (f := 31) rfl ?_);refine Ju (some 20) rfl rfl Tryz.func31 (by kernel_rfl) rfl #[.string Jc] rfl Wp ?_;(with_reducible refine (Zi.calls k Jc Zvr t226 t227 false _ A11.out).mono ?_);rintro e w29 ⟨rfl,hb⟩;refine ⟨_,rfl,?_⟩;replace Um := Za.mk (Zw (g := Y1) (o := .cells #[.string Z5,.int .i64 Jb,.string Jc] 44 (0,0)) J5 hb);replace U5 := Za.mk (Zw (g := Y2) (o := .cells #[.int .i64 0,.string (⟨#[]⟩ : ByteArray),.bool false,.string (⟨#[]⟩ : ByteArray),.int .i64 0,.int .i64 0,.int .i64 0,.int .i64 0,.bool false,.bool false,.int .i64 0,.int .i64 0] 51 (0,0)) Xu hb);replace HB := Za.mk (Zm Vz hb);(try clear hb);(try clear hb2);(try clear hk);(try clear hi)) | ((with_reducible refine Jg (N := 4) rfl ?_);refine Je ?hg (N := 4) ?hd (cs := #[.bool false,.string (⟨#[]⟩ : ByteArray),.int .i64 0]) (t := 46) ?hr ?_;(case hd => rfl);(case hg => rfl);(case hr => exact Q0);intro xm hg w30 hbox hb;have Z0u := Za.mk (hbox);have Jtn := Za.mk (((by rw [hg];exact (Jh Vz)) : w.heap.size ≤ xm));have Jl5 := Za.mk (((by rw [hg];exact (Jh Vz)) : w.heap.size ≤ xm));replace HB := Za.mk (Zm Vz hb);have zt := Za.mk ((Qg : Y1 ≠ xm));have Zkr := Za.mk ((Dx : xm ≠ Y1));replace Um := Za.mk (Zw (g := Y1) (o := .cells #[.string Z5,.int .i64 Jb,.string Jc] 44 (0,0)) J5 hb);have Gc := Za.mk ((Pd : Y2 ≠ xm));have Zks := Za.mk ((je : xm ≠ Y2));replace U5 := Za.mk (Zw (g := Y2) (o := .cells #[.int .i64 0,.string (⟨#[]⟩ : ByteArray),.bool false,.string (⟨#[]⟩ : ByteArray),.int .i64 0,.int .i64 0,.int .i64 0,.int .i64 0,.bool false,.bool false,.int .i64 0,.int .i64 0] 51 (0,0)) Xu hb);clear hb hbox hg;have Jl3 := Zkr.out;have Jl4 := zt.out;have Jsw := Zks.out;have Jsx := Gc.out;obtain ⟨Uz,U0,U1,U2,U3,U4⟩ := Va Z0u.out;obtain ⟨Zu2,Zu3,Zu4,Zu5,Zu6,Zu7,Zu8,Zu9,Jij,Jik,Jeo,Jep,Zva,Zvb,Zvc,Zvd,Zve,Zvf,Zvg,Zvh,Jil,Jim,Jeq,Jer⟩ := Xk U5.out))
    refine bodyPost_ret (Vr rfl _ _ Y2 51 #[.int .i64 0,.string (⟨#[]⟩ : ByteArray),.bool false,.string (⟨#[]⟩ : ByteArray),.int .i64 0,.int .i64 0,.int .i64 0,.int .i64 0,.bool false,.bool false,.int .i64 0,.int .i64 0] (0,0) _ rfl (by (with_reducible repeat (first | refine Zc ?_ _ | refine Zf ?_ | refine Zb ?_ _));refine Zo (cs := #[.int .i64 0,.string (⟨#[]⟩ : ByteArray),.bool false,.string (⟨#[]⟩ : ByteArray),.int .i64 0,.int .i64 0,.int .i64 0,.int .i64 0,.bool false,.bool false,.int .i64 0,.int .i64 0]) ?_ 11 _ rfl;(with_reducible repeat (first | refine Zc ?_ _ | refine Zf ?_ | refine Zb ?_ _));refine Zo (cs := #[.int .i64 0,.string (⟨#[]⟩ : ByteArray),.bool false,.string (⟨#[]⟩ : ByteArray),.int .i64 0,.int .i64 0,.int .i64 0,.int .i64 0,.bool false,.bool false,.int .i64 0,.int .i64 0]) ?_ 10 _ rfl;(with_reducible repeat (first | refine Zc ?_ _ | refine Zf ?_ | refine Zb ?_ _));refine Zo (cs := #[.int .i64 0,.string (⟨#[]⟩ : ByteArray),.bool false,.string (⟨#[]⟩ : ByteArray),.int .i64 0,.int .i64 0,.int .i64 0,.int .i64 0,.bool false,.bool false,.int .i64 0,.int .i64 0]) ?_ 9 _ rfl;(with_reducible repeat (first | refine Zc ?_ _ | refine Zf ?_ | refine Zb ?_ _));refine Zo (cs := #[.int .i64 0,.string (⟨#[]⟩ : ByteArray),.bool false,.string (⟨#[]⟩ : ByteArray),.int .i64 0,.int .i64 0,.int .i64 0,.int .i64 0,.bool false,.bool false,.int .i64 0,.int .i64 0]) ?_ 8 _ rfl;(with_reducible repeat (first | refine Zc ?_ _ | refine Zf ?_ | refine Zb ?_ _));refine Zo (cs := #[.int .i64 0,.string (⟨#[]⟩ : ByteArray),.bool false,.string (⟨#[]⟩ : ByteArray),.int .i64 0,.int .i64 0,.int .i64 0,.int .i64 0,.bool false,.bool false,.int .i64 0,.int .i64 0]) ?_ 7 _ rfl;(with_reducible repeat (first | refine Zc ?_ _ | refine Zf ?_ | refine Zb ?_ _));refine Zo (cs := #[.int .i64 0,.string (⟨#[]⟩ : ByteArray),.bool false,.string (⟨#[]⟩ : ByteArray),.int .i64 0,.int .i64 0,.int .i64 0,.int .i64 0,.bool false,.bool false,.int .i64 0,.int .i64 0]) ?_ 6 _ rfl;(with_reducible repeat (first | refine Zc ?_ _ | refine Zf ?_ | refine Zb ?_ _));refine Zo (cs := #[.int .i64 0,.string (⟨#[]⟩ : ByteArray),.bool false,.string (⟨#[]⟩ : ByteArray),.int .i64 0,.int .i64 0,.int .i64 0,.int .i64 0,.bool false,.bool false,.int .i64 0,.int .i64 0]) ?_ 5 _ rfl;(with_reducible repeat (first | refine Zc ?_ _ | refine Zf ?_ | refine Zb ?_ _));refine Zo (cs := #[.int .i64 0,.string (⟨#[]⟩ : ByteArray),.bool false,.string (⟨#[]⟩ : ByteArray),.int .i64 0,.int .i64 0,.int .i64 0,.int .i64 0,.bool false,.bool false,.int .i64 0,.int .i64 0]) ?_ 4 _ rfl;(with_reducible repeat (first | refine Zc ?_ _ | refine Zf ?_ | refine Zb ?_ _));refine Zo (cs := #[.int .i64 0,.string (⟨#[]⟩ : ByteArray),.bool false,.string (⟨#[]⟩ : ByteArray),.int .i64 0,.int .i64 0,.int .i64 0,.int .i64 0,.bool false,.bool false,.int .i64 0,.int .i64 0]) ?_ 3 _ rfl;(with_reducible repeat (first | refine Zc ?_ _ | refine Zf ?_ | refine Zb ?_ _));refine Zo (cs := #[.int .i64 0,.string (⟨#[]⟩ : ByteArray),.bool false,.string (⟨#[]⟩ : ByteArray),.int .i64 0,.int .i64 0,.int .i64 0,.int .i64 0,.bool false,.bool false,.int .i64 0,.int .i64 0]) ?_ 2 _ rfl;(with_reducible repeat (first | refine Zc ?_ _ | refine Zf ?_ | refine Zb ?_ _));refine Zo (cs := #[.int .i64 0,.string (⟨#[]⟩ : ByteArray),.bool false,.string (⟨#[]⟩ : ByteArray),.int .i64 0,.int .i64 0,.int .i64 0,.int .i64 0,.bool false,.bool false,.int .i64 0,.int .i64 0]) ?_ 1 _ rfl;(with_reducible repeat (first | refine Zc ?_ _ | refine Zf ?_ | refine Zb ?_ _));refine Zo (cs := #[.int .i64 0,.string (⟨#[]⟩ : ByteArray),.bool false,.string (⟨#[]⟩ : ByteArray),.int .i64 0,.int .i64 0,.int .i64 0,.int .i64 0,.bool false,.bool false,.int .i64 0,.int .i64 0]) ?_ 0 _ rfl;(with_reducible repeat (first | refine Zc ?_ _ | refine Zf ?_ | refine Zb ?_ _));refine Jl ?_ Gc.out _;(with_reducible repeat (first | refine Zc ?_ _ | refine Zf ?_ | refine Zb ?_ _));refine Jl ?_ Gc.out _;(with_reducible repeat (first | refine Zc ?_ _ | refine Zf ?_ | refine Zb ?_ _));refine Jl ?_ Gc.out _;(with_reducible repeat (first | refine Zc ?_ _ | refine Zf ?_ | refine Zb ?_ _));exact U5.out) Tryz.underlying51 rfl (by kernel_rfl)) rfl ?_
    exact ⟨Sy,Qy⟩
  ·rw [if_neg c10] at H
   have df : (Jb == 1) = false := beq_eq_false_iff_ne.mpr c10
   have Zq3 : (Jb != 1) = true := bne_iff_ne.mpr c10
   by_cases jc : Jb = 2
   ·rw [if_pos jc] at H
    have Za4 : (Jb == 2) = true := beq_iff_eq.mpr jc
    have Zfg : (Jb != 2) = false := bne_eq_false_iff_eq.mpr jc
    clear jc
    replace H := Option.bind_eq_some_iff.mp H
    obtain ⟨⟨Jb0,Jto⟩,Jes,H⟩ := H
    replace H : (if Jto = true then ((Dk.f Jb0).bind fun Yt => (some (Yt.1,Yt.2.1,Yt.2.2.1,Yt.2.2.2.1,Yt.2.2.2.2.1,Yt.2.2.2.2.2.1,Yt.2.2.2.2.2.2.1,Yt.2.2.2.2.2.2.2.1,Yt.2.2.2.2.2.2.2.2.1,Yt.2.2.2.2.2.2.2.2.2.1,Yt.2.2.2.2.2.2.2.2.2.2.1,Yt.2.2.2.2.2.2.2.2.2.2.2,true))) else (some (0,(⟨#[]⟩ : ByteArray),false,(⟨#[]⟩ : ByteArray),0,0,0,0,false,false,0,0,false))) = some (r1,r2,r3,r4,r5,r6,r7,r8,r9,Fx,Fy,r12,r13) := H
    have A36 := Za.mk Jes
    clear Jes
    by_cases c37 : Jto = true
    ·subst c37
     have H1 : ((Dk.f Jb0).bind fun Yt => (some (Yt.1,Yt.2.1,Yt.2.2.1,Yt.2.2.2.1,Yt.2.2.2.2.1,Yt.2.2.2.2.2.1,Yt.2.2.2.2.2.2.1,Yt.2.2.2.2.2.2.2.1,Yt.2.2.2.2.2.2.2.2.1,Yt.2.2.2.2.2.2.2.2.2.1,Yt.2.2.2.2.2.2.2.2.2.2.1,Yt.2.2.2.2.2.2.2.2.2.2.2,true))) = some (r1,r2,r3,r4,r5,r6,r7,r8,r9,Fx,Fy,r12,r13) := by rw [if_pos rfl] at H;exact H
     clear H
     have H := H1
     clear H1
     replace H := Option.bind_eq_some_iff.mp H
     obtain ⟨⟨Zg7,Zkt,Zmk,Zra,Zs2,Zvt,Z0v,Z3h,Jb1,Jev,Jis,Jo6⟩,Zqs,H⟩ := H
     replace H : (some (Zg7,Zkt,Zmk,Zra,Zs2,Zvt,Z0v,Z3h,Jb1,Jev,Jis,Jo6,true)) = some (r1,r2,r3,r4,r5,r6,r7,r8,r9,Fx,Fy,r12,r13) := H
     have A38 := Za.mk Zqs
     clear Zqs
     simp only [Option.some.injEq,Prod.mk.injEq] at H
     obtain ⟨rfl,rfl,rfl,rfl,rfl,rfl,rfl,rfl,rfl,rfl,rfl,rfl,rfl⟩ := H
     go_enter Tryz.func18,Tryz.ntmps18
     go_wp2_with (first | ((with_reducible refine Jg (N := 1) rfl ?_);refine Je ?hg (N := 1) ?hd (cs := #[.string Z5,.int .i64 Jb,.string Jc]) (t := 44) ?hr ?_;(case hd => rfl);(case hg => rfl);(case hr => exact Q0);intro Y1 hg w39 hbox hb;have Um := Za.mk (hbox);have Z0s := Za.mk ((Xv : w.heap.size ≤ Y1));have Zl0 := Za.mk ((Xv : w.heap.size ≤ Y1));replace HB := Za.mk (Zm Qw hb);clear hb hbox hg) | ((with_reducible refine Jg (N := 2) rfl ?_);refine Je ?hg (N := 2) ?hd (cs := #[.int .i64 0,.string (⟨#[]⟩ : ByteArray),.bool false,.string (⟨#[]⟩ : ByteArray),.int .i64 0,.int .i64 0,.int .i64 0,.int .i64 0,.bool false,.bool false,.int .i64 0,.int .i64 0]) (t := 51) ?hr ?_;(case hd => rfl);(case hg => rfl);(case hr => exact Q0);intro Y2 hg w40 hbox hb;have U5 := Za.mk (hbox);have Z0t := Za.mk ((Ye : w.heap.size ≤ Y2));have Zq8 := Za.mk ((Ye : w.heap.size ≤ Y2));replace HB := Za.mk (Zm Yb hb);have Wd := Za.mk ((Qg : Y1 ≠ Y2));have We := Za.mk ((Dx : Y2 ≠ Y1));replace Um := Za.mk (Zw (g := Y1) (o := .cells #[.string Z5,.int .i64 Jb,.string Jc] 44 (0,0)) J5 hb);clear hb hbox hg;have Js0 := Wd.out;have Js1 := We.out;obtain ⟨Z5j,Z5k,Z5l,Z5m,Z5n,Z5o⟩ := Va Um.out) | ((with_reducible refine Z7 (f := 32) rfl ?_);refine Ju (some 31) rfl rfl Tryz.func32 (by kernel_rfl) rfl #[.string Jc] rfl Wp ?_;(with_reducible refine (Zt.calls k Jc Jb0 true _ A36.out).mono ?_);rintro e w' ⟨rfl,⟨nd,rfl⟩⟩;refine ⟨_,rfl,?_⟩;(try (rw [N7 w40];generalize hq_ : World.drewN w40 _ = w40;have Gt : Za (w40.heap[Y1]? = some (.cells #[.string Z5,.int .i64 Jb,.string Jc] 44 (0,0))) := ⟨(by rw [← hq_];exact J5)⟩;have Hy : Za (w40.heap[Y2]? = some (.cells #[.int .i64 0,.string (⟨#[]⟩ : ByteArray),.bool false,.string (⟨#[]⟩ : ByteArray),.int .i64 0,.int .i64 0,.int .i64 0,.int .i64 0,.bool false,.bool false,.int .i64 0,.int .i64 0] 51 (0,0))) := ⟨(by rw [← hq_];exact Xu)⟩;have n2_ : Za (Below w.heap.size w w40) := ⟨(by rw [← hq_];exact Vz)⟩;clear Um U5 HB hq_;have Um := Gt;have U5 := Hy;have HB := n2_;clear Gt Hy n2_))) | ((with_reducible refine Z7 (f := 30) rfl ?_);refine Ju (some 36) rfl rfl Tryz.func30 (by kernel_rfl) rfl #[.int .i64 Jb0] rfl Wp ?_;(with_reducible refine (Dk.calls Jb0 Zg7 Zkt Zmk Zra Zs2 Zvt Z0v Z3h Jb1 Jev Jis Jo6 _ A38.out).mono ?_);rintro e w43 ⟨rfl,hb⟩;refine ⟨_,rfl,?_⟩;replace Um := Za.mk (Zw (g := Y1) (o := .cells #[.string Z5,.int .i64 Jb,.string Jc] 44 (0,0)) J5 hb);replace U5 := Za.mk (Zw (g := Y2) (o := .cells #[.int .i64 0,.string (⟨#[]⟩ : ByteArray),.bool false,.string (⟨#[]⟩ : ByteArray),.int .i64 0,.int .i64 0,.int .i64 0,.int .i64 0,.bool false,.bool false,.int .i64 0,.int .i64 0] 51 (0,0)) Xu hb);replace HB := Za.mk (Zm Vz hb);(try clear hb);(try clear hb2);(try clear hk);(try clear hi);obtain ⟨Zmw,Zmx,Zmy,Zvu,Zvv,Zvw,Zvx,Zvy,J5m,J5n,Jtp,Jtq,Zmz,Zm0,Zm1,Zvz,Zv0,Zv1,Zv2,Zv3,J5o,J5p,Jtr,Jts⟩ := Xk U5.out))
     refine bodyPost_ret (Vr rfl _ _ Y2 51 #[.int .i64 Zg7,.string Zkt,.bool Zmk,.string Zra,.int .i64 Zs2,.int .i64 Zvt,.int .i64 Z0v,.int .i64 Z3h,.bool Jb1,.bool Jev,.int .i64 Jis,.int .i64 Jo6] (0,0) _ rfl (by (with_reducible repeat (first | refine Zc ?_ _ | refine Zf ?_ | refine Zb ?_ _));refine Zo (cs := #[.int .i64 Zg7,.string Zkt,.bool Zmk,.string Zra,.int .i64 Zs2,.int .i64 Zvt,.int .i64 Z0v,.int .i64 Z3h,.bool Jb1,.bool Jev,.int .i64 Jis,.int .i64 0]) ?_ 11 _ rfl;(with_reducible repeat (first | refine Zc ?_ _ | refine Zf ?_ | refine Zb ?_ _));refine Zo (cs := #[.int .i64 Zg7,.string Zkt,.bool Zmk,.string Zra,.int .i64 Zs2,.int .i64 Zvt,.int .i64 Z0v,.int .i64 Z3h,.bool Jb1,.bool Jev,.int .i64 0,.int .i64 0]) ?_ 10 _ rfl;(with_reducible repeat (first | refine Zc ?_ _ | refine Zf ?_ | refine Zb ?_ _));refine Zo (cs := #[.int .i64 Zg7,.string Zkt,.bool Zmk,.string Zra,.int .i64 Zs2,.int .i64 Zvt,.int .i64 Z0v,.int .i64 Z3h,.bool Jb1,.bool false,.int .i64 0,.int .i64 0]) ?_ 9 _ rfl;(with_reducible repeat (first | refine Zc ?_ _ | refine Zf ?_ | refine Zb ?_ _));refine Zo (cs := #[.int .i64 Zg7,.string Zkt,.bool Zmk,.string Zra,.int .i64 Zs2,.int .i64 Zvt,.int .i64 Z0v,.int .i64 Z3h,.bool false,.bool false,.int .i64 0,.int .i64 0]) ?_ 8 _ rfl;(with_reducible repeat (first | refine Zc ?_ _ | refine Zf ?_ | refine Zb ?_ _));refine Zo (cs := #[.int .i64 Zg7,.string Zkt,.bool Zmk,.string Zra,.int .i64 Zs2,.int .i64 Zvt,.int .i64 Z0v,.int .i64 0,.bool false,.bool false,.int .i64 0,.int .i64 0]) ?_ 7 _ rfl;(with_reducible repeat (first | refine Zc ?_ _ | refine Zf ?_ | refine Zb ?_ _));refine Zo (cs := #[.int .i64 Zg7,.string Zkt,.bool Zmk,.string Zra,.int .i64 Zs2,.int .i64 Zvt,.int .i64 0,.int .i64 0,.bool false,.bool false,.int .i64 0,.int .i64 0]) ?_ 6 _ rfl;(with_reducible repeat (first | refine Zc ?_ _ | refine Zf ?_ | refine Zb ?_ _));refine Zo (cs := #[.int .i64 Zg7,.string Zkt,.bool Zmk,.string Zra,.int .i64 Zs2,.int .i64 0,.int .i64 0,.int .i64 0,.bool false,.bool false,.int .i64 0,.int .i64 0]) ?_ 5 _ rfl;(with_reducible repeat (first | refine Zc ?_ _ | refine Zf ?_ | refine Zb ?_ _));refine Zo (cs := #[.int .i64 Zg7,.string Zkt,.bool Zmk,.string Zra,.int .i64 0,.int .i64 0,.int .i64 0,.int .i64 0,.bool false,.bool false,.int .i64 0,.int .i64 0]) ?_ 4 _ rfl;(with_reducible repeat (first | refine Zc ?_ _ | refine Zf ?_ | refine Zb ?_ _));refine Zo (cs := #[.int .i64 Zg7,.string Zkt,.bool Zmk,.string (⟨#[]⟩ : ByteArray),.int .i64 0,.int .i64 0,.int .i64 0,.int .i64 0,.bool false,.bool false,.int .i64 0,.int .i64 0]) ?_ 3 _ rfl;(with_reducible repeat (first | refine Zc ?_ _ | refine Zf ?_ | refine Zb ?_ _));refine Zo (cs := #[.int .i64 Zg7,.string Zkt,.bool false,.string (⟨#[]⟩ : ByteArray),.int .i64 0,.int .i64 0,.int .i64 0,.int .i64 0,.bool false,.bool false,.int .i64 0,.int .i64 0]) ?_ 2 _ rfl;(with_reducible repeat (first | refine Zc ?_ _ | refine Zf ?_ | refine Zb ?_ _));refine Zo (cs := #[.int .i64 Zg7,.string (⟨#[]⟩ : ByteArray),.bool false,.string (⟨#[]⟩ : ByteArray),.int .i64 0,.int .i64 0,.int .i64 0,.int .i64 0,.bool false,.bool false,.int .i64 0,.int .i64 0]) ?_ 1 _ rfl;(with_reducible repeat (first | refine Zc ?_ _ | refine Zf ?_ | refine Zb ?_ _));refine Zo (cs := #[.int .i64 0,.string (⟨#[]⟩ : ByteArray),.bool false,.string (⟨#[]⟩ : ByteArray),.int .i64 0,.int .i64 0,.int .i64 0,.int .i64 0,.bool false,.bool false,.int .i64 0,.int .i64 0]) ?_ 0 _ rfl;(with_reducible repeat (first | refine Zc ?_ _ | refine Zf ?_ | refine Zb ?_ _));exact U5.out) Tryz.underlying51 rfl (by kernel_rfl)) rfl ?_
     exact ⟨Sy,Vz⟩
    ·replace c37 := Bool.eq_false_iff.mpr c37
     subst c37
     have H1 : (some (0,(⟨#[]⟩ : ByteArray),false,(⟨#[]⟩ : ByteArray),0,0,0,0,false,false,0,0,false)) = some (r1,r2,r3,r4,r5,r6,r7,r8,r9,Fx,Fy,r12,r13) := by rw [if_neg (show ¬ (false = true) by decide)] at H;exact H
     clear H
     have H := H1
     clear H1
     simp only [Option.some.injEq,Prod.mk.injEq] at H
     obtain ⟨rfl,rfl,rfl,rfl,rfl,rfl,rfl,rfl,rfl,rfl,rfl,rfl,rfl⟩ := H
     go_enter Tryz.func18,Tryz.ntmps18
     go_wp2_with (first | ((with_reducible refine Jg (N := 1) rfl ?_);refine Je ?hg (N := 1) ?hd (cs := #[.string Z5,.int .i64 Jb,.string Jc]) (t := 44) ?hr ?_;(case hd => rfl);(case hg => rfl);(case hr => exact Q0);intro Y1 hg w45 hbox hb;have Um := Za.mk (hbox);have Z0s := Za.mk ((Xv : w.heap.size ≤ Y1));have Zl0 := Za.mk ((Xv : w.heap.size ≤ Y1));replace HB := Za.mk (Zm Qw hb);clear hb hbox hg) | ((with_reducible refine Jg (N := 2) rfl ?_);refine Je ?hg (N := 2) ?hd (cs := #[.int .i64 0,.string (⟨#[]⟩ : ByteArray),.bool false,.string (⟨#[]⟩ : ByteArray),.int .i64 0,.int .i64 0,.int .i64 0,.int .i64 0,.bool false,.bool false,.int .i64 0,.int .i64 0]) (t := 51) ?hr ?_;(case hd => rfl);(case hg => rfl);(case hr => exact Q0);intro Y2 hg w46 hbox hb;have U5 := Za.mk (hbox);have Z0t := Za.mk ((Ye : w.heap.size ≤ Y2));have Zq8 := Za.mk ((Ye : w.heap.size ≤ Y2));replace HB := Za.mk (Zm Yb hb);have Wd := Za.mk ((Qg : Y1 ≠ Y2));have We := Za.mk ((Dx : Y2 ≠ Y1));replace Um := Za.mk (Zw (g := Y1) (o := .cells #[.string Z5,.int .i64 Jb,.string Jc] 44 (0,0)) J5 hb);clear hb hbox hg;have Vf1 := Wd.out;have Vf2 := We.out;obtain ⟨Zg8,Zg9,Zha,Zhb,Zhc,Zhd⟩ := Va Um.out) | ((with_reducible refine Z7 (f := 32) rfl ?_);refine Ju (some 31) rfl rfl Tryz.func32 (by kernel_rfl) rfl #[.string Jc] rfl Wp ?_;(with_reducible refine (Zt.calls k Jc Jb0 false _ A36.out).mono ?_);rintro e w' ⟨rfl,⟨nd,rfl⟩⟩;refine ⟨_,rfl,?_⟩;(try (rw [N7 w46];generalize hq_ : World.drewN w46 _ = w46;have Gt : Za (w46.heap[Y1]? = some (.cells #[.string Z5,.int .i64 Jb,.string Jc] 44 (0,0))) := ⟨(by rw [← hq_];exact J5)⟩;have Hy : Za (w46.heap[Y2]? = some (.cells #[.int .i64 0,.string (⟨#[]⟩ : ByteArray),.bool false,.string (⟨#[]⟩ : ByteArray),.int .i64 0,.int .i64 0,.int .i64 0,.int .i64 0,.bool false,.bool false,.int .i64 0,.int .i64 0] 51 (0,0))) := ⟨(by rw [← hq_];exact Xu)⟩;have n2_ : Za (Below w.heap.size w w46) := ⟨(by rw [← hq_];exact Vz)⟩;clear Um U5 HB hq_;have Um := Gt;have U5 := Hy;have HB := n2_;clear Gt Hy n2_));obtain ⟨Pj,Pk,Pm,xn,xq,xu,xw,xx,J5q,J5r,Jtt,Jtu,Pn,Po,Pp,xy,xz,qa,qb,qc,J5s,J5t,Jtv,Jtw⟩ := Xk U5.out))
     refine bodyPost_ret (Vr rfl _ _ Y2 51 #[.int .i64 0,.string (⟨#[]⟩ : ByteArray),.bool false,.string (⟨#[]⟩ : ByteArray),.int .i64 0,.int .i64 0,.int .i64 0,.int .i64 0,.bool false,.bool false,.int .i64 0,.int .i64 0] (0,0) _ rfl Vh Tryz.underlying51 rfl (by kernel_rfl)) rfl ?_
     exact ⟨Sy,Vz⟩
   ·rw [if_neg jc] at H
    have Za4 : (Jb == 2) = false := beq_eq_false_iff_ne.mpr jc
    have Zfg : (Jb != 2) = true := bne_iff_ne.mpr jc
    simp only [Option.some.injEq,Prod.mk.injEq] at H
    obtain ⟨rfl,rfl,rfl,rfl,rfl,rfl,rfl,rfl,rfl,rfl,rfl,rfl,rfl⟩ := H
    go_enter Tryz.func18,Tryz.ntmps18
    go_wp2_with (first | ((with_reducible refine Jg (N := 1) rfl ?_);refine Je ?hg (N := 1) ?hd (cs := #[.string Z5,.int .i64 Jb,.string Jc]) (t := 44) ?hr ?_;(case hd => rfl);(case hg => rfl);(case hr => exact Q0);intro Y1 hg w50 hbox hb;have Um := Za.mk (hbox);have Z0s := Za.mk ((Xv : w.heap.size ≤ Y1));have Zl0 := Za.mk ((Xv : w.heap.size ≤ Y1));replace HB := Za.mk (Zm Qw hb);clear hb hbox hg) | ((with_reducible refine Jg (N := 2) rfl ?_);refine Je ?hg (N := 2) ?hd (cs := #[.int .i64 0,.string (⟨#[]⟩ : ByteArray),.bool false,.string (⟨#[]⟩ : ByteArray),.int .i64 0,.int .i64 0,.int .i64 0,.int .i64 0,.bool false,.bool false,.int .i64 0,.int .i64 0]) (t := 51) ?hr ?_;(case hd => rfl);(case hg => rfl);(case hr => exact Q0);intro Y2 hg w51 hbox hb;have U5 := Za.mk (hbox);have Z0t := Za.mk ((Ye : w.heap.size ≤ Y2));have Zq8 := Za.mk ((Ye : w.heap.size ≤ Y2));replace HB := Za.mk (Zm Yb hb);have Wd := Za.mk ((Qg : Y1 ≠ Y2));have We := Za.mk ((Dx : Y2 ≠ Y1));replace Um := Za.mk (Zw (g := Y1) (o := .cells #[.string Z5,.int .i64 Jb,.string Jc] 44 (0,0)) J5 hb);clear hb hbox hg;have Vf3 := Wd.out;have Vf4 := We.out;obtain ⟨Zv4,Zv5,Zv6,Zv7,Zv8,Zv9⟩ := Va Um.out;obtain ⟨Zwa,Zwb,Zwc,Zwd,Zwe,Zwf,Zwg,Zwh,J5u,J5v,Jtx,Jty,Zwi,Zwj,Zwk,Zwl,Zwm,Zwn,Zwo,Zwp,J5w,J5x,Jtz,Jt0⟩ := Xk U5.out))
    refine bodyPost_ret (Vr rfl _ _ Y2 51 #[.int .i64 0,.string (⟨#[]⟩ : ByteArray),.bool false,.string (⟨#[]⟩ : ByteArray),.int .i64 0,.int .i64 0,.int .i64 0,.int .i64 0,.bool false,.bool false,.int .i64 0,.int .i64 0] (0,0) _ rfl Vh Tryz.underlying51 rfl (by kernel_rfl)) rfl ?_
    exact ⟨Sy,Vz⟩
end Go.Proofs.YtdhpcofnddkcaaaGreatDoor.S
namespace Go.Proofs.YtdhpcofnddkcaaaGreatDoor.S
open Go.RowKit Go.Proofs.YtdhpcofnddkcaaaGreatDoor.G Go.Proofs.YtdhpcofnddkcaaaGreatDoorW.PrintWords Go.Proofs.YtdhpcofnddkcaaaGreatDoorW.PrintLast Go.Proofs.YtdhpcofnddkcaaaGreatDoorW.PrintMore
set_option linter.unusedVariables false
set_option linter.unusedSimpArgs false
theorem up {α : Type} {g : Nat → Option α} (hm : ∀ k,Jz (g k) (g (k + 1))) {r : α} : ∀ {k m : Nat},k ≤ m → g k = some r → g m = some r := by
  intro k m hkm h
  induction m with
  | zero =>
    obtain rfl : k = 0 := by omega
    exact h
  | succ m ih =>
    rcases Nat.lt_or_eq_of_le hkm with h1 | rfl
    · exact hm m r (ih (by omega))
    · exact h
theorem Jl6 : ∀ (D : List UInt8),(∀ c ∈ D,Qt c = true) → Net.vl D < 10 ^ D.length := by
  intro D
  generalize hn : D.length = n
  induction n generalizing D with
  | zero =>
    intro _
    have : D = [] := List.eq_nil_of_length_eq_zero hn
    subst this
    decide
  | succ n ih =>
    intro hd
    have hne : D ≠ [] := by intro h;rw [h] at hn;simp at hn
    obtain ⟨E,c,rfl⟩ := Net.Zum hne
    have h1 := ih E (by simp at hn;omega) (fun c hc => hd c (by simp [hc]))
    have hc : Qt c = true := hd c (by simp)
    have hc2 : 48 ≤ c.toNat ∧ c.toNat ≤ 57 := by simpa [Qt] using hc
    rw [Net.Zby,Nat.pow_succ]
    omega
theorem Jit (D : List UInt8) (i : Nat) (h : i < D.length) : Net.vl (D.take (i + 1)) = Net.vl (D.take i) * 10 + (D[i].toNat - 48) := by
  rw [List.take_add_one,List.getElem?_eq_getElem h]
  exact Net.Zby _ _
theorem Z3i (s D : ByteArray) (v : Nat) (hv : v < 10 ^ 16) (k : Nat) (i : Int) (hi : ¬ i < (D.size : Int)) : ∃ r b,Zt.l0 (k + 1) s D (v : Int) i = some (r,b) ∧
    (b = decide (v ≤ 9007199254740992)) ∧ r = (if bl D = bl s then (v : Int) else -(v : Int)) := by
  rw [Zt.l0,if_neg hi,tl,tl]
  by_cases h : bl D = bl s
  · rw [if_pos h,if_pos (by omega),if_pos h]
    exact ⟨_,_,rfl,decide_eq_decide.2 (by omega),rfl⟩
  · rw [if_neg h,if_neg h,l5 _ (by omega) (by omega)]
    by_cases h2 : -(v : Int) ≥ -9007199254740992
    · rw [if_pos h2]
      refine ⟨_,_,rfl,?_,rfl⟩
      rw [decide_eq_true (by omega),decide_eq_true (by omega)]
    · rw [if_neg h2]
      exact ⟨_,_,rfl,(decide_eq_false (by omega)).symm,rfl⟩
theorem Z0w (s D : ByteArray) (hD : (bl D).length ≤ 16) : ∀ (d i : Nat),(bl D).length - i ≤ d → i ≤ (bl D).length → (∀ c ∈ (bl D).take i,Qt c = true) →
    ∃ r b,Zt.l0 (d + 1) s D (Net.vl ((bl D).take i) : Int) (i : Int) = some (r,b) ∧ (b = true ↔ (∀ c ∈ bl D,Qt c = true) ∧ Net.vl (bl D) ≤ 9007199254740992) ∧
      (b = true → r = if bl D = bl s then (Net.vl (bl D) : Int) else -(Net.vl (bl D) : Int)) := by
  have hz : D.size = (bl D).length := sz D
  have fin : ∀ (i k : Nat),(bl D).length ≤ i → i ≤ (bl D).length → (∀ c ∈ (bl D).take i,Qt c = true) → ∃ r b,Zt.l0 (k + 1) s D (Net.vl ((bl D).take i) : Int) (i : Int) = some (r,b) ∧ (b = true ↔ (∀ c ∈ bl D,Qt c = true) ∧ Net.vl (bl D) ≤ 9007199254740992) ∧
      (b = true → r = if bl D = bl s then (Net.vl (bl D) : Int) else -(Net.vl (bl D) : Int)) := by
    intro i k h1 h2 h3
    rw [List.take_of_length_le h1] at h3 ⊢
    have hlt := Jl6 (bl D) h3
    have hle : 10 ^ (bl D).length ≤ 10 ^ 16 := Nat.pow_le_pow_right (by decide) hD
    obtain ⟨r,b,e1,e2,e3⟩ := Z3i s D (Net.vl (bl D)) (by omega) k i (by omega)
    refine ⟨r,b,e1,?_,fun _ => e3⟩
    rw [e2,decide_eq_true_iff]
    exact ⟨fun h => ⟨h3,h⟩,fun h => h.2⟩
  intro d
  induction d with
  | zero =>
    intro i h1 h2 h3
    exact fin i 0 (by omega) h2 h3
  | succ d ih =>
    intro i h1 h2 h3
    by_cases hi : i < (bl D).length
    · have hc : (bl D)[i]? = some (bl D)[i] := List.getElem?_eq_getElem hi
      have hbt := Zkj D i _ hc
      have hlt := Jl6 ((bl D).take i) h3
      have hle : 10 ^ ((bl D).take i).length ≤ 10 ^ 16 := Nat.pow_le_pow_right (by decide) (by rw [List.length_take];omega)
      have h16 : (10 : Nat) ^ 16 = 10000000000000000 := by decide
      rw [Zt.l0,if_pos (by omega),if_pos (by omega),hbt]
      by_cases g1 : ((bl D)[i].toNat : Int) < 48
      · rw [if_pos g1]
        refine ⟨0,false,rfl,⟨fun h => (by cases h),fun h => ?_⟩,fun h => by cases h⟩
        have := h.1 _ (List.getElem_mem hi)
        have : 48 ≤ (bl D)[i].toNat ∧ (bl D)[i].toNat ≤ 57 := by simpa [Qt] using this
        omega
      · rw [if_neg g1]
        by_cases g2 : ((bl D)[i].toNat : Int) > 57
        · rw [if_pos g2]
          refine ⟨0,false,rfl,⟨fun h => (by cases h),fun h => ?_⟩,fun h => by cases h⟩
          have := h.1 _ (List.getElem_mem hi)
          have : 48 ≤ (bl D)[i].toNat ∧ (bl D)[i].toNat ≤ 57 := by simpa [Qt] using this
          omega
        · rw [if_neg g2]
          have hdi : Qt (bl D)[i] = true := by
            show (decide (48 ≤ (bl D)[i].toNat) && decide ((bl D)[i].toNat ≤ 57)) = true
            rw [decide_eq_true (by omega),decide_eq_true (by omega)]
            rfl
          have e1 : wrap64 (wrap64 (10 * (Net.vl ((bl D).take i) : Int)) + (((bl D)[i].toNat : Int) - 48) % 256) = (Net.vl ((bl D).take (i + 1)) : Int) := by
            rw [Jit _ _ hi,l5 (10 * (Net.vl ((bl D).take i) : Int)) (by omega) (by omega),l5 _ (by omega) (by omega)]
            omega
          rw [e1,l5 _ (by omega) (by omega),show (i : Int) + 1 = ((i + 1 : Nat) : Int) by omega]
          refine ih (i + 1) (by omega) (by omega) ?_
          intro c hcm
          rw [List.take_add_one,List.mem_append] at hcm
          rcases hcm with h | h
          · exact h3 c h
          · rw [hc] at h
            have : c = (bl D)[i] := by simpa using h
            rw [this];exact hdi
    · exact fin i (d + 1) (by omega) h2 h3
theorem Zku (s D : ByteArray) (k : Nat) (hk : 30 ≤ k) : ∃ r b,Zt.j1 k s D = some (r,b) ∧
    (b = true ↔ bl D ≠ [] ∧ (bl D).length ≤ 16 ∧ ((bl D).length ≤ 1 ∨ (bl D).head? ≠ some 48) ∧ (∀ c ∈ bl D,Qt c = true) ∧ Net.vl (bl D) ≤ 9007199254740992) ∧
      (b = true → r = if bl D = bl s then (Net.vl (bl D) : Int) else -(Net.vl (bl D) : Int)) := by
  have hz : D.size = (bl D).length := sz D
  obtain ⟨m,rfl⟩ : ∃ m,k = m + 17 + 1 + 1 := ⟨k - 19,by omega⟩
  have hno : ∀ {P : Prop},¬ P → ∃ r b,Zt.j2 (m + 17 + 1) s D true = some (r,b) ∧ (b = true ↔ P) ∧ (b = true → r = if bl D = bl s then (Net.vl (bl D) : Int) else -(Net.vl (bl D) : Int)) := by
    intro P hP
    rw [Zt.j2,if_pos rfl]
    exact ⟨0,false,rfl,⟨(fun h => by cases h),fun h => absurd h hP⟩,(fun h => by cases h)⟩
  rw [Zt.j1,tl]
  by_cases h1 : bl D = []
  · rw [if_pos h1]
    exact hno fun h => h.1 h1
  · rw [if_neg h1]
    by_cases h2 : (D.size : Int) > 16
    · rw [if_pos h2]
      exact hno fun h => by omega
    · rw [if_neg h2]
      have hyes : ((bl D).length ≤ 1 ∨ (bl D).head? ≠ some 48) → ∃ r b,Zt.j2 (m + 17 + 1) s D false = some (r,b) ∧
          (b = true ↔ bl D ≠ [] ∧ (bl D).length ≤ 16 ∧ ((bl D).length ≤ 1 ∨ (bl D).head? ≠ some 48) ∧ (∀ c ∈ bl D,Qt c = true) ∧ Net.vl (bl D) ≤ 9007199254740992) ∧ (b = true → r = if bl D = bl s then (Net.vl (bl D) : Int) else -(Net.vl (bl D) : Int)) := by
        intro hh
        rw [Zt.j2,if_neg (by decide)]
        obtain ⟨r,b,e1,e2,e3⟩ := Z0w s D (by omega) (m + 16) 0 (by omega) (by omega) (by simp)
        refine ⟨r,b,e1,?_,e3⟩
        rw [e2]
        exact ⟨fun h => ⟨h1,by omega,hh,h.1,h.2⟩,fun h => ⟨h.2.2.2.1,h.2.2.2.2⟩⟩
      by_cases h3 : (D.size : Int) > 1
      · rw [if_pos h3,if_pos (by omega)]
        have h0 : 0 < (bl D).length := by omega
        have hc : (bl D)[0]? = some (bl D)[0] := List.getElem?_eq_getElem h0
        have hbt : bt D 0 = (bl D)[0].toNat := Zkj D 0 _ hc
        have hh : (bl D).head? = some (bl D)[0] := by rw [List.head?_eq_getElem?];exact hc
        rw [hbt]
        by_cases h4 : (bl D)[0] = 48
        · rw [show ((((bl D)[0].toNat : Nat) : Int) == 48) = true by rw [h4];rfl]
          exact hno fun h => by
            rcases h.2.2.1 with h | h
            · omega
            · exact h (by rw [hh,h4])
        · rw [show ((((bl D)[0].toNat : Nat) : Int) == 48) = false from beq_eq_false_iff_ne.2 fun h => h4 (UInt8.toNat_inj.1 (by show _ = 48;omega))]
          exact hyes (Or.inr (by rw [hh];exact fun h => h4 (Option.some.inj h)))
      · rw [if_neg h3]
        exact hyes (Or.inl (by omega))
theorem Jew (s : ByteArray) (k : Nat) (hk : 40 ≤ k) : ∃ r b,Zt.f k s = some (r,b) ∧ (match Net.Ze7 (bl s) with | some n => r = n ∧ b = true | none => b = false) := by
  have hz : s.size = (bl s).length := sz s
  obtain ⟨m,rfl⟩ : ∃ m,k = m + 1 := ⟨k - 1,by omega⟩
  have close : ∀ (neg : Bool) (D : ByteArray) (r : Int) (b : Bool),bl s = (if neg = true then 45 :: bl D else bl D) → (neg = false → (bl D).head? ≠ some 45) →
      (b = true ↔ bl D ≠ [] ∧ (bl D).length ≤ 16 ∧ ((bl D).length ≤ 1 ∨ (bl D).head? ≠ some 48) ∧ (neg = true → bl D ≠ [48]) ∧ (∀ c ∈ bl D,Qt c = true) ∧ Net.vl (bl D) ≤ 9007199254740992) →
      (b = true → r = if bl D = bl s then (Net.vl (bl D) : Int) else -(Net.vl (bl D) : Int)) → (match Net.Ze7 (bl s) with | some n => r = n ∧ b = true | none => b = false) := by
    intro neg D r b hs h45 hb hr
    have hm := Net.Z2m (D := bl D) neg
    rw [← hs] at hm
    cases hq : Net.Ze7 (bl s) with
    | none =>
      show b = false
      cases b with
      | false => rfl
      | true =>
        obtain ⟨n,h1,_⟩ := hm.1 (hb.1 rfl)
        rw [hq] at h1
        cases h1
    | some n =>
      show r = n ∧ b = true
      have hn : n = (if neg = true then -(Net.vl (bl D) : Int) else (Net.vl (bl D) : Int)) := by
        obtain ⟨h4,h5,h6⟩ := Net.Zp7.1 hq
        cases neg
        · simp only [Bool.false_eq_true,if_false] at hs ⊢
          have h0 : 0 ≤ n := by
            rcases Int.lt_or_le n 0 with h | h
            · exfalso
              refine h45 rfl ?_
              rw [← hs,h4]
              unfold Lib.itoa
              rw [if_pos h]
              rfl
            · exact h
          have e : bl D = Lib.decDigits n.toNat := by rw [← hs,h4];unfold Lib.itoa;rw [if_neg (by omega)]
          rw [e,Net.Z2l _ _ (Nat.le_refl _)]
          omega
        · simp only [if_true] at hs ⊢
          rcases Int.lt_or_le n 0 with h | h
          · have e : bl D = Lib.decDigits n.natAbs := by
              unfold Lib.itoa at h4
              rw [if_pos h,hs] at h4
              exact (List.cons.inj h4).2
            rw [e,Net.Z2l _ _ (Nat.le_refl _)]
            omega
          · exfalso
            unfold Lib.itoa at h4
            rw [if_neg (by omega),hs] at h4
            obtain ⟨c,q,e,_,Vbr⟩ := Net.Zp5 n.toNat
            rw [e] at h4
            exact Vbr (by rw [← (List.cons.inj h4).1];rfl)
      have hbt : b = true := hb.2 (hm.2 ⟨n,hq,hn,by
        cases neg
        · exact Or.inr (h45 rfl)
        · exact Or.inl rfl⟩)
      refine ⟨?_,hbt⟩
      rw [hr hbt,hn]
      cases neg
      · simp only [Bool.false_eq_true,if_false] at hs ⊢
        rw [if_pos hs.symm]
      · simp only [if_true] at hs ⊢
        rw [if_neg (fun h => by
          have := congrArg List.length (h.trans hs)
          simp at this)]
  unfold Zt.f
  rw [tl]
  by_cases h0 : bl s = []
  · rw [if_pos h0,Zt.j0,if_neg (by decide)]
    obtain ⟨r,b,e1,e2,e3⟩ := Zku s s m (by omega)
    exact ⟨r,b,e1,close false s r b rfl (fun _ => by rw [h0];simp) (by rw [e2];exact ⟨fun ⟨a,b,c,d,e⟩ => ⟨a,b,c,fun h => (by cases h),d,e⟩,fun ⟨a,b,c,_,d,e⟩ => ⟨a,b,c,d,e⟩⟩) e3⟩
  · have hp : 0 < (bl s).length := by
      cases h : bl s with
      | nil => exact absurd h h0
      | cons a t => simp
    have hc : (bl s)[0]? = some (bl s)[0] := List.getElem?_eq_getElem hp
    have hbt : bt s 0 = (bl s)[0].toNat := Zkj s 0 _ hc
    have hh : (bl s).head? = some (bl s)[0] := by rw [List.head?_eq_getElem?];exact hc
    rw [if_neg h0,if_pos (by omega),hbt]
    by_cases h45 : (bl s)[0] = 45
    · rw [show ((((bl s)[0].toNat : Nat) : Int) == 45) = true by rw [h45];rfl,Zt.j0,if_pos rfl,if_pos (by omega),tl]
      have hx : bl (s.extract 1 s.size) = (bl s).tail := by
        rw [Zuz,hz,List.take_of_length_le (by rw [List.length_drop];omega),List.drop_one]
      have hs : bl s = 45 :: bl (s.extract 1 s.size) := by
        rw [hx]
        cases h : bl s with
        | nil => exact absurd h h0
        | cons a t =>
          have : (bl s)[0] = a := by simp [h]
          rw [h45] at this
          rw [← this]
          rfl
      by_cases h48 : bl (s.extract 1 s.size) = [48]
      · rw [if_pos h48]
        refine ⟨0,false,rfl,close true (s.extract 1 s.size) 0 false hs (fun h => by cases h) ⟨fun h => (by cases h),fun h => absurd h48 (h.2.2.2.1 rfl)⟩ (fun h => by cases h)⟩
      · rw [if_neg h48]
        obtain ⟨r,b,e1,e2,e3⟩ := Zku s (s.extract 1 s.size) m (by omega)
        exact ⟨r,b,e1,close true (s.extract 1 s.size) r b hs (fun h => by cases h) (by rw [e2];exact ⟨fun ⟨a,b,c,d,e⟩ => ⟨a,b,c,fun _ => h48,d,e⟩,fun ⟨a,b,c,_,d,e⟩ => ⟨a,b,c,d,e⟩⟩) e3⟩
    · rw [show ((((bl s)[0].toNat : Nat) : Int) == 45) = false from beq_eq_false_iff_ne.2 fun h => h45 (UInt8.toNat_inj.1 (by show _ = 45;omega)),Zt.j0,if_neg (by decide)]
      obtain ⟨r,b,e1,e2,e3⟩ := Zku s s m (by omega)
      exact ⟨r,b,e1,close false s r b rfl (fun _ => by rw [hh];exact fun h => h45 (Option.some.inj h)) (by rw [e2];exact ⟨fun ⟨a,b,c,d,e⟩ => ⟨a,b,c,fun h => (by cases h),d,e⟩,fun ⟨a,b,c,_,d,e⟩ => ⟨a,b,c,d,e⟩⟩) e3⟩
theorem Jex (name : ByteArray) (kind : Int) (text : ByteArray) (hs : text.size ≤ 100000) : ∃ k0,∀ k,k0 ≤ k → Jy.f k name kind text = some (Zvp kind text) := by
  obtain ⟨k1,hk1⟩ := Z0f text hs
  refine ⟨k1 + 40,fun k hk => ?_⟩
  unfold Jy.f Zvp
  by_cases h0 : kind = 0
  · rw [if_pos h0,if_pos h0]
    rfl
  · rw [if_neg h0,if_neg h0]
    by_cases h1 : kind = 1
    · rw [if_pos h1,if_pos h1,up (g := fun k => Zi.f k text) (fun k => Zi.mono text k) (show k1 ≤ k by omega) hk1,Option.bind_some,← Zq7]
      cases (Ll (dh text) (Gx text)).2.2.2 <;> rfl
    · rw [if_neg h1,if_neg h1]
      by_cases h2 : kind = 2
      · rw [if_pos h2,if_pos h2]
        obtain ⟨v,b,hf,hm⟩ := Jew text k (by omega)
        rw [hf,Option.bind_some]
        show (if b = true then _ else _) = _
        revert hm
        cases Net.Ze7 (bl text) with
        | none =>
          intro hm'
          have hm'' : b = false := hm'
          subst hm''
          rfl
        | some n =>
          intro hm'
          obtain ⟨rfl,rfl⟩ := hm'
          rfl
      · rw [if_neg h2,if_neg h2]
        rfl
end Go.Proofs.YtdhpcofnddkcaaaGreatDoor.S
namespace Go.Proofs.YtdhpcofnddkcaaaGreatDoor.S
open Go.RowKit Go.Proofs.YtdhpcofnddkcaaaGreatDoor.G Go.Proofs.YtdhpcofnddkcaaaGreatDoorW.PrintWords Go.Proofs.YtdhpcofnddkcaaaGreatDoorW.PrintLast Go.Proofs.YtdhpcofnddkcaaaGreatDoorW.PrintMore
set_option linter.unusedVariables false
set_option linter.unusedSimpArgs false
namespace Sx8
theorem Va {w : World} {g : Nat} {t : TypeId} {a0 a1 a2 : Value} (h : w.heap[g]? = some (.cells #[a0,a1,a2] t (0,0))) : w.cell? ⟨g,0,none⟩ = some a0 ∧ w.cell? ⟨g,1,none⟩ = some a1 ∧ w.cell? ⟨g,2,none⟩ = some a2 ∧ w.frozen? ⟨g,0,none⟩ = false ∧ w.frozen? ⟨g,1,none⟩ = false ∧ w.frozen? ⟨g,2,none⟩ = false := ⟨(Zd h 0).trans rfl,(Zd h 1).trans rfl,(Zd h 2).trans rfl,Zj h 0,Zj h 1,Zj h 2⟩
theorem Jf {w : World} {g : Nat} {t : TypeId} {a0 a1 a2 a3 a4 a5 a6 a7 : Value} (h : w.heap[g]? = some (.cells #[a0,a1,a2,a3,a4,a5,a6,a7] t (0,0))) : w.cell? ⟨g,0,none⟩ = some a0 ∧ w.cell? ⟨g,1,none⟩ = some a1 ∧ w.cell? ⟨g,2,none⟩ = some a2 ∧ w.cell? ⟨g,3,none⟩ = some a3 ∧ w.cell? ⟨g,4,none⟩ = some a4 ∧ w.cell? ⟨g,5,none⟩ = some a5 ∧ w.cell? ⟨g,6,none⟩ = some a6 ∧ w.cell? ⟨g,7,none⟩ = some a7 ∧ w.frozen? ⟨g,0,none⟩ = false ∧ w.frozen? ⟨g,1,none⟩ = false ∧ w.frozen? ⟨g,2,none⟩ = false ∧ w.frozen? ⟨g,3,none⟩ = false ∧ w.frozen? ⟨g,4,none⟩ = false ∧ w.frozen? ⟨g,5,none⟩ = false ∧ w.frozen? ⟨g,6,none⟩ = false ∧ w.frozen? ⟨g,7,none⟩ = false := ⟨(Zd h 0).trans rfl,(Zd h 1).trans rfl,(Zd h 2).trans rfl,(Zd h 3).trans rfl,(Zd h 4).trans rfl,(Zd h 5).trans rfl,(Zd h 6).trans rfl,(Zd h 7).trans rfl,Zj h 0,Zj h 1,Zj h 2,Zj h 3,Zj h 4,Zj h 5,Zj h 6,Zj h 7⟩
theorem Xk {w : World} {g : Nat} {t : TypeId} {a0 a1 a2 a3 a4 a5 a6 a7 a8 a9 a10 a11 : Value} (h : w.heap[g]? = some (.cells #[a0,a1,a2,a3,a4,a5,a6,a7,a8,a9,a10,a11] t (0,0))) : w.cell? ⟨g,0,none⟩ = some a0 ∧ w.cell? ⟨g,1,none⟩ = some a1 ∧ w.cell? ⟨g,2,none⟩ = some a2 ∧ w.cell? ⟨g,3,none⟩ = some a3 ∧ w.cell? ⟨g,4,none⟩ = some a4 ∧ w.cell? ⟨g,5,none⟩ = some a5 ∧ w.cell? ⟨g,6,none⟩ = some a6 ∧ w.cell? ⟨g,7,none⟩ = some a7 ∧ w.cell? ⟨g,8,none⟩ = some a8 ∧ w.cell? ⟨g,9,none⟩ = some a9 ∧ w.cell? ⟨g,10,none⟩ = some a10 ∧ w.cell? ⟨g,11,none⟩ = some a11 ∧ w.frozen? ⟨g,0,none⟩ = false ∧ w.frozen? ⟨g,1,none⟩ = false ∧ w.frozen? ⟨g,2,none⟩ = false ∧ w.frozen? ⟨g,3,none⟩ = false ∧ w.frozen? ⟨g,4,none⟩ = false ∧ w.frozen? ⟨g,5,none⟩ = false ∧ w.frozen? ⟨g,6,none⟩ = false ∧ w.frozen? ⟨g,7,none⟩ = false ∧ w.frozen? ⟨g,8,none⟩ = false ∧ w.frozen? ⟨g,9,none⟩ = false ∧ w.frozen? ⟨g,10,none⟩ = false ∧ w.frozen? ⟨g,11,none⟩ = false := ⟨(Zd h 0).trans rfl,(Zd h 1).trans rfl,(Zd h 2).trans rfl,(Zd h 3).trans rfl,(Zd h 4).trans rfl,(Zd h 5).trans rfl,(Zd h 6).trans rfl,(Zd h 7).trans rfl,(Zd h 8).trans rfl,(Zd h 9).trans rfl,(Zd h 10).trans rfl,(Zd h 11).trans rfl,Zj h 0,Zj h 1,Zj h 2,Zj h 3,Zj h 4,Zj h 5,Zj h 6,Zj h 7,Zj h 8,Zj h 9,Zj h 10,Zj h 11⟩
theorem Vh {p_ : Prop} (h_ : p_ := by repeat (first | (with_reducible first | exact HB.out | apply Z4 | apply Zr | apply Zz | refine Z8 ?_ Jey.out) | exact HB.out)) : p_ := h_
theorem J5 {p_ : Prop} (h_ : p_ := by (with_reducible repeat (first | refine Zc ?_ _ | refine Zf ?_ | refine Zb ?_ _));exact X0.out) : p_ := h_
theorem Vz {p_ : Prop} (h_ : p_ := by repeat (first | (with_reducible first | exact HB.out | apply Z4 | apply Zr | apply Zz | refine Z8 ?_ Jey.out | refine Z8 ?_ Jez.out) | exact HB.out)) : p_ := h_
theorem Yb {p_ : Prop} (h_ : p_ := by (with_reducible repeat (first | refine Zc ?_ _ | refine Zf ?_ | refine Zb ?_ _));refine Zo (cs := #[.string ((Z6 Zy Xb).f0),.int .i64 ((Z6 Zy Xb).f1),.string (⟨#[]⟩ : ByteArray)]) ?_ 2 _ rfl;(with_reducible repeat (first | refine Zc ?_ _ | refine Zf ?_ | refine Zb ?_ _));refine Zo (cs := #[.string ((Z6 Zy Xb).f0),.int .i64 0,.string (⟨#[]⟩ : ByteArray)]) ?_ 1 _ rfl;(with_reducible repeat (first | refine Zc ?_ _ | refine Zf ?_ | refine Zb ?_ _));refine Zo (cs := #[.string (⟨#[]⟩ : ByteArray),.int .i64 0,.string (⟨#[]⟩ : ByteArray)]) ?_ 0 _ rfl;(with_reducible repeat (first | refine Zc ?_ _ | refine Zf ?_ | refine Zb ?_ _));exact Zhe.out) : p_ := h_
theorem Qw {p_ : Prop} (h_ : p_ := by (with_reducible repeat (first | refine Zc ?_ _ | refine Zf ?_ | refine Zb ?_ _));refine Jl ?_ zu.out _;(with_reducible repeat (first | refine Zc ?_ _ | refine Zf ?_ | refine Zb ?_ _));refine Jl ?_ zu.out _;(with_reducible repeat (first | refine Zc ?_ _ | refine Zf ?_ | refine Zb ?_ _));refine Jl ?_ zu.out _;(with_reducible repeat (first | refine Zc ?_ _ | refine Zf ?_ | refine Zb ?_ _));exact X0.out) : p_ := h_
theorem Xu {p_ : Prop} (h_ : p_ := by rw [hg];exact Nat.ne_of_lt (Y3 (g := Hz) (o := .cells #[.int .i64 Z5,.string Jb,.string Jc,.bool Jt,.slice Vw Jd.length Vu,.string Jn,.string Jm,.slice (some Zhf) Zy.length Vv] 29 (0,0)) J5)) : p_ := h_
theorem Qg {p_ : Prop} (h_ : p_ := by rw [hg];exact Nat.ne_of_gt (Y3 (g := Hz) (o := .cells #[.int .i64 Z5,.string Jb,.string Jc,.bool Jt,.slice Vw Jd.length Vu,.string Jn,.string Jm,.slice (some Zhf) Zy.length Vv] 29 (0,0)) J5)) : p_ := h_
theorem Dx {p_ : Prop} (h_ : p_ := by (with_reducible repeat (first | refine Zc ?_ _ | refine Zf ?_ | refine Zb ?_ _));exact Zhe.out) : p_ := h_
theorem Wp {p_ : Prop} (h_ : p_ := by first | rfl | (simp;done) | (simp [*];done)) : p_ := h_
theorem Sy {p_ : Prop} (h_ : p_ := by repeat (first | (with_reducible first | exact HB.out | apply Z4 | apply Zr | apply Zz) | exact HB.out)) : p_ := h_
theorem Qy {p_ : Prop} (h_ : p_ := by rw [hg];exact Nat.ne_of_lt (Y3 (g := Lm) (o := .cells #[.string ((Z6 Zy Xb).f0),.int .i64 ((Z6 Zy Xb).f1),.string ((Z6 Zy Xb).f2)] 44 (0,0)) Dx)) : p_ := h_
theorem Xv {p_ : Prop} (h_ : p_ := by rw [hg];exact Nat.ne_of_gt (Y3 (g := Lm) (o := .cells #[.string ((Z6 Zy Xb).f0),.int .i64 ((Z6 Zy Xb).f1),.string ((Z6 Zy Xb).f2)] 44 (0,0)) Dx)) : p_ := h_
theorem Ye {p_ : Prop} (h_ : p_ := by first | omega | exact Nat.le_refl _) : p_ := h_
theorem Pd {p_ : Prop} (h_ : p_ := by rw [hg];exact (Jh Vh)) : p_ := h_
theorem je {p_ : Prop} (h_ : p_ := by rw [hg];exact (Jh Vz)) : p_ := h_
theorem Zml {p_ : Prop} (h_ : p_ := by repeat (first | (with_reducible first | exact HB.out | apply Z4 | apply Zr | apply Zz | refine Z8 ?_ Jey.out | refine Z8 ?_ Jez.out | refine Z8 ?_ Jl7.out) | exact HB.out)) : p_ := h_
theorem Zmm {p_ : Prop} (h_ : p_ := by first | rfl | (simp [Vd,Ve] <;> rfl) | (simp [*,Vd,Ve] <;> rfl)) : p_ := h_
theorem Zwq {p_ : Prop} (h_ : p_ := by rw [hg];exact (Jh Sy)) : p_ := h_
theorem Zs3 {p_ : Prop} (h_ : p_ := by first | (with_reducible assumption) | assumption) : p_ := h_
theorem Q0 {p_ : Prop} (h_ : p_ := by first | (go_simp;done) | (go_simp;rfl)) : p_ := h_
end Sx8
open Sx8
mutual
def Zk.j0 : Nat → Bool → Int → ByteArray → ByteArray → Bool → List ByteArray → ByteArray → ByteArray → List (Y4) → Option (Bool)
 | 0,_,_,_,_,_,_,_,_,_ => none
 | k + 1,x74,J5y,J5z,J50,J51,J52,J53,J54,Z58 => if x74 = true then (some false) else (Zk.l0 k Z58 (Z58.length : Int) 0)
def Zk.l0 : Nat → List (Y4) → Int → Int → Option (Bool)
 | 0,_,_,_ => none
 | k + 1,x76,x77,x78 => if x78 < x77 then (if 0 ≤ x78 then (if x78 < (x76.length : Int) then ((Qi.f ((Z6 x76 x78).f0) ((Z6 x76 x78).f1) ((Z6 x76 x78).f2)).bind fun Jt2 => (if Jt2.2.2.2.2.2.2.2.2.2.2.2.2 = true then (Zk.l0 k x76 x77 (wrap64 (x78 + 1))) else (some false))) else (none)) else (none)) else (some true)
end
def Zk.f (k : Nat) (Z5 : Int) (Jb : ByteArray) (Jc : ByteArray) (Jt : Bool) (Jd : List ByteArray) (Jn : ByteArray) (Jm : ByteArray) (Zy : List (Y4)) : Option (Bool) := if Z5 < 0 then (Zk.j0 k true Z5 Jb Jc Jt Jd Jn Jm Zy) else (if Z5 > 2 then (Zk.j0 k true Z5 Jb Jc Jt Jd Jn Jm Zy) else (if Z5 = 0 then (if Z5 = 2 then (if Jb.toList = ([] : List UInt8) then (if Z5 = 1 then (Zk.j0 k false Z5 Jb Jc Jt Jd Jn Jm Zy) else (if (Jd.length : Int) > 0 then (Zk.j0 k true Z5 Jb Jc Jt Jd Jn Jm Zy) else (Zk.j0 k false Z5 Jb Jc Jt Jd Jn Jm Zy))) else (Zk.j0 k true Z5 Jb Jc Jt Jd Jn Jm Zy)) else (if Z5 = 1 then (if Jn.toList = ([] : List UInt8) then (if Jm.toList = ([] : List UInt8) then (Zk.j0 k (decide ((Zy.length : Int) > 0)) Z5 Jb Jc Jt Jd Jn Jm Zy) else (Zk.j0 k true Z5 Jb Jc Jt Jd Jn Jm Zy)) else (Zk.j0 k true Z5 Jb Jc Jt Jd Jn Jm Zy)) else (if (Jd.length : Int) > 0 then (Zk.j0 k true Z5 Jb Jc Jt Jd Jn Jm Zy) else (if Jn.toList = ([] : List UInt8) then (if Jm.toList = ([] : List UInt8) then (Zk.j0 k (decide ((Zy.length : Int) > 0)) Z5 Jb Jc Jt Jd Jn Jm Zy) else (Zk.j0 k true Z5 Jb Jc Jt Jd Jn Jm Zy)) else (Zk.j0 k true Z5 Jb Jc Jt Jd Jn Jm Zy))))) else (if Jt = true then (Zk.j0 k true Z5 Jb Jc Jt Jd Jn Jm Zy) else (if Jc.toList = ([] : List UInt8) then (if Z5 = 2 then (if Jb.toList = ([] : List UInt8) then (if Z5 = 1 then (Zk.j0 k false Z5 Jb Jc Jt Jd Jn Jm Zy) else (if (Jd.length : Int) > 0 then (Zk.j0 k true Z5 Jb Jc Jt Jd Jn Jm Zy) else (Zk.j0 k false Z5 Jb Jc Jt Jd Jn Jm Zy))) else (Zk.j0 k true Z5 Jb Jc Jt Jd Jn Jm Zy)) else (if Z5 = 1 then (if Jn.toList = ([] : List UInt8) then (if Jm.toList = ([] : List UInt8) then (Zk.j0 k (decide ((Zy.length : Int) > 0)) Z5 Jb Jc Jt Jd Jn Jm Zy) else (Zk.j0 k true Z5 Jb Jc Jt Jd Jn Jm Zy)) else (Zk.j0 k true Z5 Jb Jc Jt Jd Jn Jm Zy)) else (if (Jd.length : Int) > 0 then (Zk.j0 k true Z5 Jb Jc Jt Jd Jn Jm Zy) else (if Jn.toList = ([] : List UInt8) then (if Jm.toList = ([] : List UInt8) then (Zk.j0 k (decide ((Zy.length : Int) > 0)) Z5 Jb Jc Jt Jd Jn Jm Zy) else (Zk.j0 k true Z5 Jb Jc Jt Jd Jn Jm Zy)) else (Zk.j0 k true Z5 Jb Jc Jt Jd Jn Jm Zy))))) else (Zk.j0 k true Z5 Jb Jc Jt Jd Jn Jm Zy)))))
theorem Zk.Xy : ∀ k,(∀ y0 y1 y2 y3 y4 y5 y6 y7 y8,Jz (Zk.j0 k y0 y1 y2 y3 y4 y5 y6 y7 y8) (Zk.j0 (k + 1) y0 y1 y2 y3 y4 y5 y6 y7 y8)) ∧ (∀ y0 y1 y2,Jz (Zk.l0 k y0 y1 y2) (Zk.l0 (k + 1) y0 y1 y2))
 | 0 => ⟨fun _ _ _ _ _ _ _ _ _ r h => by simp [Zk.j0] at h,fun _ _ _ r h => by simp [Zk.l0] at h⟩
 | k + 1 => by
  obtain ⟨ih0,ih1⟩ := Zk.Xy k
  refine ⟨?_,?_⟩
  ·intro y0 y1 y2 y3 y4 y5 y6 y7 y8
   unfold Zk.j0
   repeat' first
   | (with_reducible exact ih0 _ _ _ _ _ _ _ _ _)
   | (with_reducible exact ih1 _ _ _)
   | (with_reducible exact Jz.refl _)
   | (with_reducible exact Jz.none _)
   | (with_reducible refine Jz.ite ?_ ?_)
   | (with_reducible refine Jz.bind ?_ (fun _ => ?_))
   | exact ih0 _ _ _ _ _ _ _ _ _
   | exact ih1 _ _ _
   | exact Jz.none _
   | refine Jz.ite ?_ ?_
   | refine Jz.bind ?_ (fun _ => ?_)
  ·intro y0 y1 y2
   unfold Zk.l0
   repeat' first
   | (with_reducible exact ih0 _ _ _ _ _ _ _ _ _)
   | (with_reducible exact ih1 _ _ _)
   | (with_reducible exact Jz.refl _)
   | (with_reducible exact Jz.none _)
   | (with_reducible refine Jz.ite ?_ ?_)
   | (with_reducible refine Jz.bind ?_ (fun _ => ?_))
   | exact ih0 _ _ _ _ _ _ _ _ _
   | exact ih1 _ _ _
   | exact Jz.none _
   | refine Jz.ite ?_ ?_
   | refine Jz.bind ?_ (fun _ => ?_)
theorem Zk.mono : ∀ a0 a1 a2 a3 a4 a5 a6 a7 k,Jz (Zk.f k a0 a1 a2 a3 a4 a5 a6 a7) (Zk.f (k + 1) a0 a1 a2 a3 a4 a5 a6 a7) := by
 intro a0 a1 a2 a3 a4 a5 a6 a7 k
 obtain ⟨ih0,ih1⟩ := Zk.Xy k
 unfold Zk.f
 repeat' first
   | (with_reducible exact ih0 _ _ _ _ _ _ _ _ _)
   | (with_reducible exact ih1 _ _ _)
   | (with_reducible exact Jz.refl _)
   | (with_reducible exact Jz.none _)
   | (with_reducible refine Jz.ite ?_ ?_)
   | (with_reducible refine Jz.bind ?_ (fun _ => ?_))
   | exact ih0 _ _ _ _ _ _ _ _ _
   | exact ih1 _ _ _
   | exact Jz.none _
   | refine Jz.ite ?_ ?_
   | refine Jz.bind ?_ (fun _ => ?_)
set_option maxHeartbeats 8000000 in
set_option maxRecDepth 100000 in
theorem Zk.calls (k : Nat) (Z5 : Int) (Jb : ByteArray) (Jc : ByteArray) (Jt : Bool) (Vw : Option Addr) (Vu : Nat) (Jd : List ByteArray) (Jn : ByteArray) (Jm : ByteArray) (Xf : Option Addr) (Vv : Nat) (Zy : List (Y4)) (r : Bool) (w : World) (qd : Kd.C Kd.string w Vw Jd.length Jd) (qf : Jd.length ≤ Vu) (qg : Kd.C k44 w Xf Zy.length Zy) (qh : Zy.length ≤ Vv) (h : Zk.f k Z5 Jb Jc Jt Jd Jn Jm Zy = some r) (Gw : Dt w := by exact Dt.step Gw (by repeat (first | (with_reducible first | exact HB.out | apply Z4 | apply Zr | apply Zz | refine Z8 ?_ (Za.out (by assumption))) | exact HB.out))) (Ue : Yg w := by exact Yg.step Ue (by repeat (first | (with_reducible first | exact HB.out | apply Z4 | apply Zr | apply Zz | refine Z8 ?_ (Za.out (by assumption))) | exact HB.out))) (Hf : Qs w := by exact Qs.step Hf (by repeat (first | (with_reducible first | exact HB.out | apply Z4 | apply Zr | apply Zz | refine Z8 ?_ (Za.out (by assumption))) | exact HB.out))) :
  Calls Tryz.prog 11 #[.agg #[.int .i64 Z5,.string Jb,.string Jc,.bool Jt,.slice Vw Jd.length Vu,.string Jn,.string Jm,.slice Xf Zy.length Vv]] w fun e w' => e = .returned (.bool r) ∧ Below w.heap.size w w' := by
 have Z0x := Tryz.underlying29
 have Z0h := Tryz.underlying44
 have Jbq := Tryz.underlying51
 have Zl1 := Za.mk qd
 have Z59 := Za.mk qf
 clear qd qf
 have Za5 := Za.mk qg
 have Z6a := Za.mk qh
 clear qg qh
 have HB := Za.mk (Below.refl w.heap.size w)
 have H : (if Z5 < 0 then (Zk.j0 k true Z5 Jb Jc Jt Jd Jn Jm Zy) else (if Z5 > 2 then (Zk.j0 k true Z5 Jb Jc Jt Jd Jn Jm Zy) else (if Z5 = 0 then (if Z5 = 2 then (if Jb.toList = ([] : List UInt8) then (if Z5 = 1 then (Zk.j0 k false Z5 Jb Jc Jt Jd Jn Jm Zy) else (if (Jd.length : Int) > 0 then (Zk.j0 k true Z5 Jb Jc Jt Jd Jn Jm Zy) else (Zk.j0 k false Z5 Jb Jc Jt Jd Jn Jm Zy))) else (Zk.j0 k true Z5 Jb Jc Jt Jd Jn Jm Zy)) else (if Z5 = 1 then (if Jn.toList = ([] : List UInt8) then (if Jm.toList = ([] : List UInt8) then (Zk.j0 k (decide ((Zy.length : Int) > 0)) Z5 Jb Jc Jt Jd Jn Jm Zy) else (Zk.j0 k true Z5 Jb Jc Jt Jd Jn Jm Zy)) else (Zk.j0 k true Z5 Jb Jc Jt Jd Jn Jm Zy)) else (if (Jd.length : Int) > 0 then (Zk.j0 k true Z5 Jb Jc Jt Jd Jn Jm Zy) else (if Jn.toList = ([] : List UInt8) then (if Jm.toList = ([] : List UInt8) then (Zk.j0 k (decide ((Zy.length : Int) > 0)) Z5 Jb Jc Jt Jd Jn Jm Zy) else (Zk.j0 k true Z5 Jb Jc Jt Jd Jn Jm Zy)) else (Zk.j0 k true Z5 Jb Jc Jt Jd Jn Jm Zy))))) else (if Jt = true then (Zk.j0 k true Z5 Jb Jc Jt Jd Jn Jm Zy) else (if Jc.toList = ([] : List UInt8) then (if Z5 = 2 then (if Jb.toList = ([] : List UInt8) then (if Z5 = 1 then (Zk.j0 k false Z5 Jb Jc Jt Jd Jn Jm Zy) else (if (Jd.length : Int) > 0 then (Zk.j0 k true Z5 Jb Jc Jt Jd Jn Jm Zy) else (Zk.j0 k false Z5 Jb Jc Jt Jd Jn Jm Zy))) else (Zk.j0 k true Z5 Jb Jc Jt Jd Jn Jm Zy)) else (if Z5 = 1 then (if Jn.toList = ([] : List UInt8) then (if Jm.toList = ([] : List UInt8) then (Zk.j0 k (decide ((Zy.length : Int) > 0)) Z5 Jb Jc Jt Jd Jn Jm Zy) else (Zk.j0 k true Z5 Jb Jc Jt Jd Jn Jm Zy)) else (Zk.j0 k true Z5 Jb Jc Jt Jd Jn Jm Zy)) else (if (Jd.length : Int) > 0 then (Zk.j0 k true Z5 Jb Jc Jt Jd Jn Jm Zy) else (if Jn.toList = ([] : List UInt8) then (if Jm.toList = ([] : List UInt8) then (Zk.j0 k (decide ((Zy.length : Int) > 0)) Z5 Jb Jc Jt Jd Jn Jm Zy) else (Zk.j0 k true Z5 Jb Jc Jt Jd Jn Jm Zy)) else (Zk.j0 k true Z5 Jb Jc Jt Jd Jn Jm Zy))))) else (Zk.j0 k true Z5 Jb Jc Jt Jd Jn Jm Zy)))))) = some r := h
 clear h
 have HC2 := Za.mk H
 clear H
 go_enter Tryz.func11,Tryz.ntmps11
 go_upto_region 2 with (first | ((with_reducible refine Jg (N := 1) rfl ?_);(try (refine Jr (by rfl) ?_;dsimp only));refine Je ?hg (N := 1) ?hd (cs := #[.int .i64 Z5,.string Jb,.string Jc,.bool Jt,.slice Vw Jd.length Vu,.string Jn,.string Jm,.slice Xf Zy.length Vv]) (t := 29) ?hr ?_;(case hd => rfl);(case hg => rfl);(case hr => exact Q0);intro Hz hg w3 hbox hb;have X0 := Za.mk (hbox);have Vf6 := Za.mk ((Zwq : w.heap.size ≤ Hz));have Jey := Za.mk ((Zwq : w.heap.size ≤ Hz));replace HB := Za.mk (Zm Sy hb);clear hb hbox hg;obtain ⟨Vbs,Vbt,Vbu,Vbv,Vbw,Vbx,Vby,Vbz,Vb0,Vb1,Vb2,Vb3,Vb4,Vb5,Vb6,Vb7⟩ := Jf X0.out))
 repeat (go_quiet (fail);go_upto_region 2 with (fail))
 (try simp only [Act.put,List.setIfInBounds_toArray,List.set_cons_zero,List.set_cons_succ])
 go_cut [74] (fun v74 wc => ∃ (kq : Nat) (Z6b : Bool),v74 = .bool Z6b ∧ Za (Zk.j0 kq Z6b Z5 Jb Jc Jt Jd Jn Jm Zy = some r) ∧ Za (kq ≤ k) ∧ Za (wc.heap[Hz]? = some (.cells #[.int .i64 Z5,.string Jb,.string Jc,.bool Jt,(.slice Vw Jd.length Vu),.string Jn,.string Jm,(.slice Xf Zy.length Vv)] 29 (0,0))) ∧ Za (Below w.heap.size w wc))
 case first =>
  have H := HC2.out
  clear HC2
  by_cases c5 : Z5 < 0
  ·rw [if_pos c5] at H
   have wo : decide (Z5 < 0) = true := decide_eq_true c5
   clear c5
   (first | rw [wo] | (simp only [Jo,Jq];rw [wo]) | skip)
   have H' := Za.mk H
   clear H
   obtain ⟨Z3j,Z3k,Z3l,Z3m,Z3n,Z3o,Z3p,Z3q,Z3r,Z3s,Z3t,Z3u,Z3v,Z3w,Z3x,Z3y⟩ := Jf X0.out
   go_wp2
   repeat (go_quiet (fail);try go_wp2)
   (first | go_meet | (refine Met.intro ?_;go_step;(try rw [show (Z5 == 0) = true by assumption]);(try rw [show (Z5 == 0) = false by assumption]);(try rw [show (Z5 == 2) = true by assumption]);(try rw [show (Z5 == 2) = false by assumption]);(repeat apply Exists.intro);refine ⟨?rel,rfl⟩))
   case rel => exact ⟨_,(true),Wp,H',⟨Ye⟩,⟨J5⟩,⟨Vh⟩⟩
  ·rw [if_neg c5] at H
   have wo : decide (Z5 < 0) = false := decide_eq_false c5
   clear c5
   (first | rw [wo] | (simp only [Jo,Jq];rw [wo]) | skip)
   by_cases c7 : Z5 > 2
   ·rw [if_pos c7] at H
    have Zmg : decide (2 < Z5) = true := decide_eq_true c7
    clear c7
    have H' := Za.mk H
    clear H
    obtain ⟨Jo8,Jo9,Jpa,Vb8,Vb9,Vca,Vcb,Vcc,Jpb,Jpc,Jpd,Vcd,Vce,Vcf,Vcg,Vch⟩ := Jf X0.out
    go_wp2
    repeat (go_quiet (fail);try go_wp2)
    (first | go_meet | (refine Met.intro ?_;go_step;(try rw [show (Z5 == 0) = true by assumption]);(try rw [show (Z5 == 0) = false by assumption]);(try rw [show (Z5 == 2) = true by assumption]);(try rw [show (Z5 == 2) = false by assumption]);(repeat apply Exists.intro);refine ⟨?rel,rfl⟩))
    case rel => exact ⟨_,(true),Wp,H',⟨Ye⟩,⟨J5⟩,⟨Vh⟩⟩
   ·rw [if_neg c7] at H
    have Zmg : decide (2 < Z5) = false := decide_eq_false c7
    clear c7
    by_cases c9 : Z5 = 0
    ·rw [if_pos c9] at H
     have Hl : (Z5 == 0) = true := beq_iff_eq.mpr c9
     have jv : (Z5 != 0) = false := bne_eq_false_iff_eq.mpr c9
     clear c9
     by_cases c10 : Z5 = 2
     ·rw [if_pos c10] at H
      have df : (Z5 == 2) = true := beq_iff_eq.mpr c10
      have Zq3 : (Z5 != 2) = false := bne_eq_false_iff_eq.mpr c10
      clear c10
      by_cases c11 : Jb.toList = ([] : List UInt8)
      ·rw [if_pos c11] at H
       have Ny : (Jb.toList == ([] : List UInt8)) = true := beq_iff_eq.mpr c11
       have Zlv : (Jb.toList != ([] : List UInt8)) = false := bne_eq_false_iff_eq.mpr c11
       clear c11
       by_cases c12 : Z5 = 1
       ·rw [if_pos c12] at H
        have Zg2 : (Z5 == 1) = true := beq_iff_eq.mpr c12
        have Zlw : (Z5 != 1) = false := bne_eq_false_iff_eq.mpr c12
        clear c12
        have H' := Za.mk H
        clear H
        obtain ⟨J55,J56,J57,J58,J59,J6a,J6b,J6c,J6d,J6e,J6f,J6g,J6h,J6i,J6j,J6k⟩ := Jf X0.out
        go_wp2
        repeat (go_quiet (fail);try go_wp2)
        (first | go_meet | (refine Met.intro ?_;go_step;(try rw [show (Z5 == 0) = true by assumption]);(try rw [show (Z5 == 0) = false by assumption]);(try rw [show (Z5 == 2) = true by assumption]);(try rw [show (Z5 == 2) = false by assumption]);(repeat apply Exists.intro);refine ⟨?rel,rfl⟩))
        case rel => exact ⟨_,(false),Wp,H',⟨Ye⟩,⟨J5⟩,⟨Vh⟩⟩
       ·rw [if_neg c12] at H
        have Zg2 : (Z5 == 1) = false := beq_eq_false_iff_ne.mpr c12
        have Zlw : (Z5 != 1) = true := bne_iff_ne.mpr c12
        by_cases c14 : (Jd.length : Int) > 0
        ·rw [if_pos c14] at H
         have Zg3 : decide (0 < (Jd.length : Int)) = true := decide_eq_true c14
         have Zg4 : decide (0 < Jd.length) = true := decide_eq_true (by omega)
         clear c14
         have H' := Za.mk H
         clear H
         obtain ⟨Z48,Z49,Z5a,Jiu,Jiv,Jiw,Jix,Jiy,Z5b,Z5c,Z5d,Jiz,Ji0,Ji1,Ji2,Ji3⟩ := Jf X0.out
         go_wp2
         repeat (go_quiet (fail);try go_wp2)
         (first | go_meet | (refine Met.intro ?_;go_step;(try rw [show (Z5 == 0) = true by assumption]);(try rw [show (Z5 == 0) = false by assumption]);(try rw [show (Z5 == 2) = true by assumption]);(try rw [show (Z5 == 2) = false by assumption]);(repeat apply Exists.intro);refine ⟨?rel,rfl⟩))
         case rel => exact ⟨_,(true),Wp,H',⟨Ye⟩,⟨J5⟩,⟨Vh⟩⟩
        ·rw [if_neg c14] at H
         have Zg3 : decide (0 < (Jd.length : Int)) = false := decide_eq_false c14
         have Zg4 : decide (0 < Jd.length) = false := decide_eq_false (by omega)
         clear c14
         have H' := Za.mk H
         clear H
         obtain ⟨Rt,Ru,Rv,Zhg,Zhh,Zhi,Zhj,Zhk,Rw,Rx,Ry,Zhl,Zhm,Zhn,Zho,Zhp⟩ := Jf X0.out
         go_wp2
         repeat (go_quiet (fail);try go_wp2)
         (first | go_meet | (refine Met.intro ?_;go_step;(try rw [show (Z5 == 0) = true by assumption]);(try rw [show (Z5 == 0) = false by assumption]);(try rw [show (Z5 == 2) = true by assumption]);(try rw [show (Z5 == 2) = false by assumption]);(repeat apply Exists.intro);refine ⟨?rel,rfl⟩))
         case rel => exact ⟨_,(false),Wp,H',⟨Ye⟩,⟨J5⟩,⟨Vh⟩⟩
      ·rw [if_neg c11] at H
       have Ny : (Jb.toList == ([] : List UInt8)) = false := beq_eq_false_iff_ne.mpr c11
       have Zlv : (Jb.toList != ([] : List UInt8)) = true := bne_iff_ne.mpr c11
       have H' := Za.mk H
       clear H
       obtain ⟨Ra,Rb,Rc,qi,qj,ql,qm,qo,Re,Rf,Rh,qp,qw,qx,qy,qz⟩ := Jf X0.out
       go_wp2
       repeat (go_quiet (fail);try go_wp2)
       (first | go_meet | (refine Met.intro ?_;go_step;(try rw [show (Z5 == 0) = true by assumption]);(try rw [show (Z5 == 0) = false by assumption]);(try rw [show (Z5 == 2) = true by assumption]);(try rw [show (Z5 == 2) = false by assumption]);(repeat apply Exists.intro);refine ⟨?rel,rfl⟩))
       case rel => exact ⟨_,(true),Wp,H',⟨Ye⟩,⟨J5⟩,⟨Vh⟩⟩
     ·rw [if_neg c10] at H
      have df : (Z5 == 2) = false := beq_eq_false_iff_ne.mpr c10
      have Zq3 : (Z5 != 2) = true := bne_iff_ne.mpr c10
      by_cases c18 : Z5 = 1
      ·rw [if_pos c18] at H
       have Zlq : (Z5 == 1) = true := beq_iff_eq.mpr c18
       have Zqv : (Z5 != 1) = false := bne_eq_false_iff_eq.mpr c18
       clear c18
       by_cases c19 : Jn.toList = ([] : List UInt8)
       ·rw [if_pos c19] at H
        have Zhq : (Jn.toList == ([] : List UInt8)) = true := beq_iff_eq.mpr c19
        have Zhr : (Jn.toList != ([] : List UInt8)) = false := bne_eq_false_iff_eq.mpr c19
        clear c19
        by_cases c20 : Jm.toList = ([] : List UInt8)
        ·rw [if_pos c20] at H
         have Zff : (Jm.toList == ([] : List UInt8)) = true := beq_iff_eq.mpr c20
         have Zlr : (Jm.toList != ([] : List UInt8)) = false := bne_eq_false_iff_eq.mpr c20
         clear c20
         have H' := Za.mk H
         clear H
         obtain ⟨Lp,Lr,Ls,Lt,Lu,Lv,Lx,L6,L8,L9,Ma,Mc,Md,Me,Mf,Mg⟩ := Jf X0.out
         go_wp2
         repeat (go_quiet (fail);try go_wp2)
         (first | go_meet | (refine Met.intro ?_;go_step;(try rw [show (Z5 == 0) = true by assumption]);(try rw [show (Z5 == 0) = false by assumption]);(try rw [show (Z5 == 2) = true by assumption]);(try rw [show (Z5 == 2) = false by assumption]);(repeat apply Exists.intro);refine ⟨?rel,rfl⟩))
         case rel => exact ⟨_,(decide ((Zy.length : Int) > 0)),Wp,H',⟨Ye⟩,⟨J5⟩,⟨Vh⟩⟩
        ·rw [if_neg c20] at H
         have Zff : (Jm.toList == ([] : List UInt8)) = false := beq_eq_false_iff_ne.mpr c20
         have Zlr : (Jm.toList != ([] : List UInt8)) = true := bne_iff_ne.mpr c20
         have H' := Za.mk H
         clear H
         obtain ⟨Zm2,Zm3,Zm4,Z6c,Z6d,Z6e,Z6f,Z6g,Zm5,Zm6,Zm7,Z6h,Z6i,Z6j,Z6k,Z6l⟩ := Jf X0.out
         go_wp2
         repeat (go_quiet (fail);try go_wp2)
         (first | go_meet | (refine Met.intro ?_;go_step;(try rw [show (Z5 == 0) = true by assumption]);(try rw [show (Z5 == 0) = false by assumption]);(try rw [show (Z5 == 2) = true by assumption]);(try rw [show (Z5 == 2) = false by assumption]);(repeat apply Exists.intro);refine ⟨?rel,rfl⟩))
         case rel => exact ⟨_,(true),Wp,H',⟨Ye⟩,⟨J5⟩,⟨Vh⟩⟩
       ·rw [if_neg c19] at H
        have Zhq : (Jn.toList == ([] : List UInt8)) = false := beq_eq_false_iff_ne.mpr c19
        have Zhr : (Jn.toList != ([] : List UInt8)) = true := bne_iff_ne.mpr c19
        have H' := Za.mk H
        clear H
        obtain ⟨Zca,Zcb,Zcc,Zcd,Zce,Zcf,Zcg,Zch,Zci,Zcj,Zck,Zcl,Zcm,Zcn,Zco,Zcp⟩ := Jf X0.out
        go_wp2
        repeat (go_quiet (fail);try go_wp2)
        (first | go_meet | (refine Met.intro ?_;go_step;(try rw [show (Z5 == 0) = true by assumption]);(try rw [show (Z5 == 0) = false by assumption]);(try rw [show (Z5 == 2) = true by assumption]);(try rw [show (Z5 == 2) = false by assumption]);(repeat apply Exists.intro);refine ⟨?rel,rfl⟩))
        case rel => exact ⟨_,(true),Wp,H',⟨Ye⟩,⟨J5⟩,⟨Vh⟩⟩
      ·rw [if_neg c18] at H
       have Zlq : (Z5 == 1) = false := beq_eq_false_iff_ne.mpr c18
       have Zqv : (Z5 != 1) = true := bne_iff_ne.mpr c18
       by_cases c24 : (Jd.length : Int) > 0
       ·rw [if_pos c24] at H
        have Zlx : decide (0 < (Jd.length : Int)) = true := decide_eq_true c24
        have Zly : decide (0 < Jd.length) = true := decide_eq_true (by omega)
        clear c24
        have H' := Za.mk H
        clear H
        obtain ⟨Zb3,Zb4,Zb5,Z6m,Z6n,Z6o,Z6p,Z6q,Zb6,Zb7,Zb8,Z6r,Z6s,Z6t,Z6u,Z6v⟩ := Jf X0.out
        go_wp2
        repeat (go_quiet (fail);try go_wp2)
        (first | go_meet | (refine Met.intro ?_;go_step;(try rw [show (Z5 == 0) = true by assumption]);(try rw [show (Z5 == 0) = false by assumption]);(try rw [show (Z5 == 2) = true by assumption]);(try rw [show (Z5 == 2) = false by assumption]);(repeat apply Exists.intro);refine ⟨?rel,rfl⟩))
        case rel => exact ⟨_,(true),Wp,H',⟨Ye⟩,⟨J5⟩,⟨Vh⟩⟩
       ·rw [if_neg c24] at H
        have Zlx : decide (0 < (Jd.length : Int)) = false := decide_eq_false c24
        have Zly : decide (0 < Jd.length) = false := decide_eq_false (by omega)
        clear c24
        by_cases c26 : Jn.toList = ([] : List UInt8)
        ·rw [if_pos c26] at H
         have di : (Jn.toList == ([] : List UInt8)) = true := beq_iff_eq.mpr c26
         have Zrb : (Jn.toList != ([] : List UInt8)) = false := bne_eq_false_iff_eq.mpr c26
         clear c26
         by_cases c27 : Jm.toList = ([] : List UInt8)
         ·rw [if_pos c27] at H
          have Zrc : (Jm.toList == ([] : List UInt8)) = true := beq_iff_eq.mpr c27
          have Zrd : (Jm.toList != ([] : List UInt8)) = false := bne_eq_false_iff_eq.mpr c27
          clear c27
          have H' := Za.mk H
          clear H
          obtain ⟨l6,l8,l9,Zhs,Zht,Zhu,Zhv,Zhw,mf,mg,mh,Zhx,Zhy,Zhz,Zh0,Zh1⟩ := Jf X0.out
          go_wp2
          repeat (go_quiet (fail);try go_wp2)
          (first | go_meet | (refine Met.intro ?_;go_step;(try rw [show (Z5 == 0) = true by assumption]);(try rw [show (Z5 == 0) = false by assumption]);(try rw [show (Z5 == 2) = true by assumption]);(try rw [show (Z5 == 2) = false by assumption]);(repeat apply Exists.intro);refine ⟨?rel,rfl⟩))
          case rel => exact ⟨_,(decide ((Zy.length : Int) > 0)),Wp,H',⟨Ye⟩,⟨J5⟩,⟨Vh⟩⟩
         ·rw [if_neg c27] at H
          have Zrc : (Jm.toList == ([] : List UInt8)) = false := beq_eq_false_iff_ne.mpr c27
          have Zrd : (Jm.toList != ([] : List UInt8)) = true := bne_iff_ne.mpr c27
          have H' := Za.mk H
          clear H
          obtain ⟨Mh,Mi,Mj,Mk,Ml,Mm,Mo,Mq,Mr,Ms,Mt,Mv,Mw,Mx,M0,M3⟩ := Jf X0.out
          go_wp2
          repeat (go_quiet (fail);try go_wp2)
          (first | go_meet | (refine Met.intro ?_;go_step;(try rw [show (Z5 == 0) = true by assumption]);(try rw [show (Z5 == 0) = false by assumption]);(try rw [show (Z5 == 2) = true by assumption]);(try rw [show (Z5 == 2) = false by assumption]);(repeat apply Exists.intro);refine ⟨?rel,rfl⟩))
          case rel => exact ⟨_,(true),Wp,H',⟨Ye⟩,⟨J5⟩,⟨Vh⟩⟩
        ·rw [if_neg c26] at H
         have di : (Jn.toList == ([] : List UInt8)) = false := beq_eq_false_iff_ne.mpr c26
         have Zrb : (Jn.toList != ([] : List UInt8)) = true := bne_iff_ne.mpr c26
         have H' := Za.mk H
         clear H
         obtain ⟨Dy,Dz,D5,Gd,Gf,Gg,Gh,Gi,D6,D7,D8,Gj,Gl,Gm,Gn,Gp⟩ := Jf X0.out
         go_wp2
         repeat (go_quiet (fail);try go_wp2)
         (first | go_meet | (refine Met.intro ?_;go_step;(try rw [show (Z5 == 0) = true by assumption]);(try rw [show (Z5 == 0) = false by assumption]);(try rw [show (Z5 == 2) = true by assumption]);(try rw [show (Z5 == 2) = false by assumption]);(repeat apply Exists.intro);refine ⟨?rel,rfl⟩))
         case rel => exact ⟨_,(true),Wp,H',⟨Ye⟩,⟨J5⟩,⟨Vh⟩⟩
    ·rw [if_neg c9] at H
     have Hl : (Z5 == 0) = false := beq_eq_false_iff_ne.mpr c9
     have jv : (Z5 != 0) = true := bne_iff_ne.mpr c9
     by_cases c31 : Jt = true
     ·subst c31
      have H1 : (Zk.j0 k true Z5 Jb Jc true Jd Jn Jm Zy) = some r := by rw [if_pos rfl] at H;exact H
      clear H
      have H := H1
      clear H1
      have H' := Za.mk H
      clear H
      obtain ⟨Rz,R3,R4,Zcq,Zcr,Zcs,Zct,Zcu,R5,R6,R7,Zcv,Zcw,Zcx,Zcy,Zcz⟩ := Jf X0.out
      go_wp2
      repeat (go_quiet (fail);try go_wp2)
      (first | go_meet | (refine Met.intro ?_;go_step;(try rw [show (Z5 == 0) = true by assumption]);(try rw [show (Z5 == 0) = false by assumption]);(try rw [show (Z5 == 2) = true by assumption]);(try rw [show (Z5 == 2) = false by assumption]);(repeat apply Exists.intro);refine ⟨?rel,rfl⟩))
      case rel => exact ⟨_,(true),Wp,H',⟨Ye⟩,⟨J5⟩,⟨Vh⟩⟩
     ·replace c31 := Bool.eq_false_iff.mpr c31
      subst c31
      have H1 : (if Jc.toList = ([] : List UInt8) then (if Z5 = 2 then (if Jb.toList = ([] : List UInt8) then (if Z5 = 1 then (Zk.j0 k false Z5 Jb Jc false Jd Jn Jm Zy) else (if (Jd.length : Int) > 0 then (Zk.j0 k true Z5 Jb Jc false Jd Jn Jm Zy) else (Zk.j0 k false Z5 Jb Jc false Jd Jn Jm Zy))) else (Zk.j0 k true Z5 Jb Jc false Jd Jn Jm Zy)) else (if Z5 = 1 then (if Jn.toList = ([] : List UInt8) then (if Jm.toList = ([] : List UInt8) then (Zk.j0 k (decide ((Zy.length : Int) > 0)) Z5 Jb Jc false Jd Jn Jm Zy) else (Zk.j0 k true Z5 Jb Jc false Jd Jn Jm Zy)) else (Zk.j0 k true Z5 Jb Jc false Jd Jn Jm Zy)) else (if (Jd.length : Int) > 0 then (Zk.j0 k true Z5 Jb Jc false Jd Jn Jm Zy) else (if Jn.toList = ([] : List UInt8) then (if Jm.toList = ([] : List UInt8) then (Zk.j0 k (decide ((Zy.length : Int) > 0)) Z5 Jb Jc false Jd Jn Jm Zy) else (Zk.j0 k true Z5 Jb Jc false Jd Jn Jm Zy)) else (Zk.j0 k true Z5 Jb Jc false Jd Jn Jm Zy))))) else (Zk.j0 k true Z5 Jb Jc false Jd Jn Jm Zy)) = some r := by rw [if_neg (show ¬ (false = true) by decide)] at H;exact H
      clear H
      have H := H1
      clear H1
      by_cases c33 : Jc.toList = ([] : List UInt8)
      ·rw [if_pos c33] at H
       have Za3 : (Jc.toList == ([] : List UInt8)) = true := beq_iff_eq.mpr c33
       have Je0 : (Jc.toList != ([] : List UInt8)) = false := bne_eq_false_iff_eq.mpr c33
       clear c33
       by_cases c34 : Z5 = 2
       ·rw [if_pos c34] at H
        have Zgs : (Z5 == 2) = true := beq_iff_eq.mpr c34
        have Je1 : (Z5 != 2) = false := bne_eq_false_iff_eq.mpr c34
        clear c34
        by_cases jc : Jb.toList = ([] : List UInt8)
        ·rw [if_pos jc] at H
         have Za4 : (Jb.toList == ([] : List UInt8)) = true := beq_iff_eq.mpr jc
         have Zfg : (Jb.toList != ([] : List UInt8)) = false := bne_eq_false_iff_eq.mpr jc
         clear jc
         by_cases c36 : Z5 = 1
         ·rw [if_pos c36] at H
          have Z0y : (Z5 == 1) = true := beq_iff_eq.mpr c36
          have Je2 : (Z5 != 1) = false := bne_eq_false_iff_eq.mpr c36
          clear c36
          have H' := Za.mk H
          clear H
          obtain ⟨mi,mo,mq,mr,ng,ni,nk,nu,ny,nz,pg,pq,pu,pz,p8,p9⟩ := Jf X0.out
          go_wp2
          repeat (go_quiet (fail);try go_wp2)
          (first | go_meet | (refine Met.intro ?_;go_step;(try rw [show (Z5 == 0) = true by assumption]);(try rw [show (Z5 == 0) = false by assumption]);(try rw [show (Z5 == 2) = true by assumption]);(try rw [show (Z5 == 2) = false by assumption]);(repeat apply Exists.intro);refine ⟨?rel,rfl⟩))
          case rel => exact ⟨_,(false),Wp,H',⟨Ye⟩,⟨J5⟩,⟨Vh⟩⟩
         ·rw [if_neg c36] at H
          have Z0y : (Z5 == 1) = false := beq_eq_false_iff_ne.mpr c36
          have Je2 : (Z5 != 1) = true := bne_iff_ne.mpr c36
          by_cases c38 : (Jd.length : Int) > 0
          ·rw [if_pos c38] at H
           have Ztv : decide (0 < (Jd.length : Int)) = true := decide_eq_true c38
           have Ztw : decide (0 < Jd.length) = true := decide_eq_true (by omega)
           clear c38
           have H' := Za.mk H
           clear H
           obtain ⟨ll,lm,lq,Zh2,Zh3,Zh4,Zh5,Zh6,lu,lv,lw,Zh7,Zh8,Zh9,Zia,Zib⟩ := Jf X0.out
           go_wp2
           repeat (go_quiet (fail);try go_wp2)
           (first | go_meet | (refine Met.intro ?_;go_step;(try rw [show (Z5 == 0) = true by assumption]);(try rw [show (Z5 == 0) = false by assumption]);(try rw [show (Z5 == 2) = true by assumption]);(try rw [show (Z5 == 2) = false by assumption]);(repeat apply Exists.intro);refine ⟨?rel,rfl⟩))
           case rel => exact ⟨_,(true),Wp,H',⟨Ye⟩,⟨J5⟩,⟨Vh⟩⟩
          ·rw [if_neg c38] at H
           have Ztv : decide (0 < (Jd.length : Int)) = false := decide_eq_false c38
           have Ztw : decide (0 < Jd.length) = false := decide_eq_false (by omega)
           clear c38
           have H' := Za.mk H
           clear H
           obtain ⟨Zut,Zuu,Zuv,Z6w,Z6x,Z6y,Z6z,Z60,Zuw,Zux,Zuy,Z61,Z62,Z63,Z64,Z65⟩ := Jf X0.out
           go_wp2
           repeat (go_quiet (fail);try go_wp2)
           (first | go_meet | (refine Met.intro ?_;go_step;(try rw [show (Z5 == 0) = true by assumption]);(try rw [show (Z5 == 0) = false by assumption]);(try rw [show (Z5 == 2) = true by assumption]);(try rw [show (Z5 == 2) = false by assumption]);(repeat apply Exists.intro);refine ⟨?rel,rfl⟩))
           case rel => exact ⟨_,(false),Wp,H',⟨Ye⟩,⟨J5⟩,⟨Vh⟩⟩
        ·rw [if_neg jc] at H
         have Za4 : (Jb.toList == ([] : List UInt8)) = false := beq_eq_false_iff_ne.mpr jc
         have Zfg : (Jb.toList != ([] : List UInt8)) = true := bne_iff_ne.mpr jc
         have H' := Za.mk H
         clear H
         obtain ⟨Zc0,Zc1,Zc2,Zc3,Zc4,Zc5,Zc6,Zc7,Zc8,Zc9,Zda,Zdb,Zdc,Zdd,Zde,Zdf⟩ := Jf X0.out
         go_wp2
         repeat (go_quiet (fail);try go_wp2)
         (first | go_meet | (refine Met.intro ?_;go_step;(try rw [show (Z5 == 0) = true by assumption]);(try rw [show (Z5 == 0) = false by assumption]);(try rw [show (Z5 == 2) = true by assumption]);(try rw [show (Z5 == 2) = false by assumption]);(repeat apply Exists.intro);refine ⟨?rel,rfl⟩))
         case rel => exact ⟨_,(true),Wp,H',⟨Ye⟩,⟨J5⟩,⟨Vh⟩⟩
       ·rw [if_neg c34] at H
        have Zgs : (Z5 == 2) = false := beq_eq_false_iff_ne.mpr c34
        have Je1 : (Z5 != 2) = true := bne_iff_ne.mpr c34
        by_cases c42 : Z5 = 1
        ·rw [if_pos c42] at H
         have Zre : (Z5 == 1) = true := beq_iff_eq.mpr c42
         have Z0z : (Z5 != 1) = false := bne_eq_false_iff_eq.mpr c42
         clear c42
         by_cases c43 : Jn.toList = ([] : List UInt8)
         ·rw [if_pos c43] at H
          have Zrf : (Jn.toList == ([] : List UInt8)) = true := beq_iff_eq.mpr c43
          have Z00 : (Jn.toList != ([] : List UInt8)) = false := bne_eq_false_iff_eq.mpr c43
          clear c43
          by_cases c44 : Jm.toList = ([] : List UInt8)
          ·rw [if_pos c44] at H
           have Zl3 : (Jm.toList == ([] : List UInt8)) = true := beq_iff_eq.mpr c44
           have Zl4 : (Jm.toList != ([] : List UInt8)) = false := bne_eq_false_iff_eq.mpr c44
           clear c44
           have H' := Za.mk H
           clear H
           obtain ⟨yh,yj,yl,ym,yn,yo,yt,yu,yw,yx,yz,xc,xe,xg,xh,xk⟩ := Jf X0.out
           go_wp2
           repeat (go_quiet (fail);try go_wp2)
           (first | go_meet | (refine Met.intro ?_;go_step;(try rw [show (Z5 == 0) = true by assumption]);(try rw [show (Z5 == 0) = false by assumption]);(try rw [show (Z5 == 2) = true by assumption]);(try rw [show (Z5 == 2) = false by assumption]);(repeat apply Exists.intro);refine ⟨?rel,rfl⟩))
           case rel => exact ⟨_,(decide ((Zy.length : Int) > 0)),Wp,H',⟨Ye⟩,⟨J5⟩,⟨Vh⟩⟩
          ·rw [if_neg c44] at H
           have Zl3 : (Jm.toList == ([] : List UInt8)) = false := beq_eq_false_iff_ne.mpr c44
           have Zl4 : (Jm.toList != ([] : List UInt8)) = true := bne_iff_ne.mpr c44
           have H' := Za.mk H
           clear H
           obtain ⟨Znc,Znd,Zne,Znf,Zng,Znh,Zni,Znj,Znk,Znl,Znm,Znn,Zno,Znp,Znq,Znr⟩ := Jf X0.out
           go_wp2
           repeat (go_quiet (fail);try go_wp2)
           (first | go_meet | (refine Met.intro ?_;go_step;(try rw [show (Z5 == 0) = true by assumption]);(try rw [show (Z5 == 0) = false by assumption]);(try rw [show (Z5 == 2) = true by assumption]);(try rw [show (Z5 == 2) = false by assumption]);(repeat apply Exists.intro);refine ⟨?rel,rfl⟩))
           case rel => exact ⟨_,(true),Wp,H',⟨Ye⟩,⟨J5⟩,⟨Vh⟩⟩
         ·rw [if_neg c43] at H
          have Zrf : (Jn.toList == ([] : List UInt8)) = false := beq_eq_false_iff_ne.mpr c43
          have Z00 : (Jn.toList != ([] : List UInt8)) = true := bne_iff_ne.mpr c43
          have H' := Za.mk H
          clear H
          obtain ⟨S9,Ta,Tc,Zic,Zid,Zie,Zif,Zig,Td,Te,Tf,Zih,Zii,Zij,Zik,Zil⟩ := Jf X0.out
          go_wp2
          repeat (go_quiet (fail);try go_wp2)
          (first | go_meet | (refine Met.intro ?_;go_step;(try rw [show (Z5 == 0) = true by assumption]);(try rw [show (Z5 == 0) = false by assumption]);(try rw [show (Z5 == 2) = true by assumption]);(try rw [show (Z5 == 2) = false by assumption]);(repeat apply Exists.intro);refine ⟨?rel,rfl⟩))
          case rel => exact ⟨_,(true),Wp,H',⟨Ye⟩,⟨J5⟩,⟨Vh⟩⟩
        ·rw [if_neg c42] at H
         have Zre : (Z5 == 1) = false := beq_eq_false_iff_ne.mpr c42
         have Z0z : (Z5 != 1) = true := bne_iff_ne.mpr c42
         by_cases c48 : (Jd.length : Int) > 0
         ·rw [if_pos c48] at H
          have Je3 : decide (0 < (Jd.length : Int)) = true := decide_eq_true c48
          have Je4 : decide (0 < Jd.length) = true := decide_eq_true (by omega)
          clear c48
          have H' := Za.mk H
          clear H
          obtain ⟨Pj,Pk,Pm,xn,xq,xu,xw,xx,Pn,Po,Pp,xy,xz,qa,qb,qc⟩ := Jf X0.out
          go_wp2
          repeat (go_quiet (fail);try go_wp2)
          (first | go_meet | (refine Met.intro ?_;go_step;(try rw [show (Z5 == 0) = true by assumption]);(try rw [show (Z5 == 0) = false by assumption]);(try rw [show (Z5 == 2) = true by assumption]);(try rw [show (Z5 == 2) = false by assumption]);(repeat apply Exists.intro);refine ⟨?rel,rfl⟩))
          case rel => exact ⟨_,(true),Wp,H',⟨Ye⟩,⟨J5⟩,⟨Vh⟩⟩
         ·rw [if_neg c48] at H
          have Je3 : decide (0 < (Jd.length : Int)) = false := decide_eq_false c48
          have Je4 : decide (0 < Jd.length) = false := decide_eq_false (by omega)
          clear c48
          by_cases c50 : Jn.toList = ([] : List UInt8)
          ·rw [if_pos c50] at H
           have Je5 : (Jn.toList == ([] : List UInt8)) = true := beq_iff_eq.mpr c50
           have Je6 : (Jn.toList != ([] : List UInt8)) = false := bne_eq_false_iff_eq.mpr c50
           clear c50
           by_cases c51 : Jm.toList = ([] : List UInt8)
           ·rw [if_pos c51] at H
            have Je7 : (Jm.toList == ([] : List UInt8)) = true := beq_iff_eq.mpr c51
            have Je8 : (Jm.toList != ([] : List UInt8)) = false := bne_eq_false_iff_eq.mpr c51
            clear c51
            have H' := Za.mk H
            clear H
            obtain ⟨q8,q9,uf,ug,uh,ui,uj,uk,ul,um,uo,uq,ut,uu,uw,uy⟩ := Jf X0.out
            go_wp2
            repeat (go_quiet (fail);try go_wp2)
            (first | go_meet | (refine Met.intro ?_;go_step;(try rw [show (Z5 == 0) = true by assumption]);(try rw [show (Z5 == 0) = false by assumption]);(try rw [show (Z5 == 2) = true by assumption]);(try rw [show (Z5 == 2) = false by assumption]);(repeat apply Exists.intro);refine ⟨?rel,rfl⟩))
            case rel => exact ⟨_,(decide ((Zy.length : Int) > 0)),Wp,H',⟨Ye⟩,⟨J5⟩,⟨Vh⟩⟩
           ·rw [if_neg c51] at H
            have Je7 : (Jm.toList == ([] : List UInt8)) = false := beq_eq_false_iff_ne.mpr c51
            have Je8 : (Jm.toList != ([] : List UInt8)) = true := bne_iff_ne.mpr c51
            have H' := Za.mk H
            clear H
            obtain ⟨Zv4,Zv5,Zv6,Z66,Z67,Z68,Z69,Z7a,Zv7,Zv8,Zv9,Z7b,Z7c,Z7d,Z7e,Z7f⟩ := Jf X0.out
            go_wp2
            repeat (go_quiet (fail);try go_wp2)
            (first | go_meet | (refine Met.intro ?_;go_step;(try rw [show (Z5 == 0) = true by assumption]);(try rw [show (Z5 == 0) = false by assumption]);(try rw [show (Z5 == 2) = true by assumption]);(try rw [show (Z5 == 2) = false by assumption]);(repeat apply Exists.intro);refine ⟨?rel,rfl⟩))
            case rel => exact ⟨_,(true),Wp,H',⟨Ye⟩,⟨J5⟩,⟨Vh⟩⟩
          ·rw [if_neg c50] at H
           have Je5 : (Jn.toList == ([] : List UInt8)) = false := beq_eq_false_iff_ne.mpr c50
           have Je6 : (Jn.toList != ([] : List UInt8)) = true := bne_iff_ne.mpr c50
           have H' := Za.mk H
           clear H
           obtain ⟨Zwa,Zwb,Zwc,Zwd,Zwe,Zwf,Zwg,Zwh,Zwi,Zwj,Zwk,Zwl,Zwm,Zwn,Zwo,Zwp⟩ := Jf X0.out
           go_wp2
           repeat (go_quiet (fail);try go_wp2)
           (first | go_meet | (refine Met.intro ?_;go_step;(try rw [show (Z5 == 0) = true by assumption]);(try rw [show (Z5 == 0) = false by assumption]);(try rw [show (Z5 == 2) = true by assumption]);(try rw [show (Z5 == 2) = false by assumption]);(repeat apply Exists.intro);refine ⟨?rel,rfl⟩))
           case rel => exact ⟨_,(true),Wp,H',⟨Ye⟩,⟨J5⟩,⟨Vh⟩⟩
      ·rw [if_neg c33] at H
       have Za3 : (Jc.toList == ([] : List UInt8)) = false := beq_eq_false_iff_ne.mpr c33
       have Je0 : (Jc.toList != ([] : List UInt8)) = true := bne_iff_ne.mpr c33
       have H' := Za.mk H
       clear H
       obtain ⟨Zvj,Zvk,Zvl,Z7g,Z7h,Z7i,Z7j,Z7k,Zvm,Zvn,Zvo,Z7l,Z7m,Z7n,Z7o,Z7p⟩ := Jf X0.out
       go_wp2
       repeat (go_quiet (fail);try go_wp2)
       (first | go_meet | (refine Met.intro ?_;go_step;(try rw [show (Z5 == 0) = true by assumption]);(try rw [show (Z5 == 0) = false by assumption]);(try rw [show (Z5 == 2) = true by assumption]);(try rw [show (Z5 == 2) = false by assumption]);(repeat apply Exists.intro);refine ⟨?rel,rfl⟩))
       case rel => exact ⟨_,(true),Wp,H',⟨Ye⟩,⟨J5⟩,⟨Vh⟩⟩
 case rest =>
  clear HC2
  try clear c1
  try clear c2
  try clear p2
  try clear c3
  try clear c4
  try clear c5
  try clear c9
  try clear Hl
  try clear jv
  try clear c10
  try clear df
  try clear Zq3
  try clear c18
  try clear Zlq
  try clear Zqv
  try clear c19
  try clear Zhq
  try clear Zhr
  try clear c20
  try clear Zff
  try clear Zlr
  try clear c24
  try clear Zlx
  try clear Zly
  try clear c26
  try clear di
  try clear Zrb
  try clear c27
  try clear Zrc
  try clear Zrd
  try clear c31
  try clear c33
  try clear Za3
  try clear Je0
  try clear c34
  try clear Zgs
  try clear Je1
  try clear jc
  try clear Za4
  try clear Zfg
  try clear c36
  try clear Z0y
  try clear Je2
  try clear c38
  try clear Ztv
  try clear Ztw
  try clear c42
  try clear Zre
  try clear Z0z
  try clear c43
  try clear Zrf
  try clear Z00
  try clear c44
  try clear Zl3
  try clear Zl4
  try clear c48
  try clear Je3
  try clear Je4
  try clear c50
  try clear Je5
  try clear Je6
  try clear c51
  try clear Je7
  try clear Je8
  try clear Lp Lr Ls Lt Lu Lv Lx L6
  try clear Zm2 Zm3 Zm4 Z6c Z6d Z6e Z6f Z6g
  try clear Zca Zcb Zcc Zcd Zce Zcf Zcg Zch
  try clear Zb3 Zb4 Zb5 Z6m Z6n Z6o Z6p Z6q
  try clear l6 l8 l9 Zhs Zht Zhu Zhv Zhw
  try clear Mh Mi Mj Mk Ml Mm Mo Mq
  try clear Dy Dz D5 Gd Gf Gg Gh Gi
  try clear Rz R3 R4 Zcq Zcr Zcs Zct Zcu
  try clear mi mo mq mr ng ni nk nu
  try clear ll lm lq Zh2 Zh3 Zh4 Zh5 Zh6
  try clear Zut Zuu Zuv Z6w Z6x Z6y Z6z Z60
  try clear Zc0 Zc1 Zc2 Zc3 Zc4 Zc5 Zc6 Zc7
  try clear yh yj yl ym yn yo yt yu
  try clear Znc Znd Zne Znf Zng Znh Zni Znj
  try clear S9 Ta Tc Zic Zid Zie Zif Zig
  try clear Pj Pk Pm xn xq xu xw xx
  try clear q8 q9 uf ug uh ui uj uk
  try clear Zv4 Zv5 Zv6 Z66 Z67 Z68 Z69 Z7a
  try clear Zwa Zwb Zwc Zwd Zwe Zwf Zwg Zwh
  try clear Zvj Zvk Zvl Z7g Z7h Z7i Z7j Z7k
  try clear L8 L9 Ma Mc Md Me Mf Mg
  try clear Zm5 Zm6 Zm7 Z6h Z6i Z6j Z6k Z6l
  try clear Zci Zcj Zck Zcl Zcm Zcn Zco Zcp
  try clear Zb6 Zb7 Zb8 Z6r Z6s Z6t Z6u Z6v
  try clear mf mg mh Zhx Zhy Zhz Zh0 Zh1
  try clear Mr Ms Mt Mv Mw Mx M0 M3
  try clear D6 D7 D8 Gj Gl Gm Gn Gp
  try clear R5 R6 R7 Zcv Zcw Zcx Zcy Zcz
  try clear ny nz pg pq pu pz p8 p9
  try clear lu lv lw Zh7 Zh8 Zh9 Zia Zib
  try clear Zuw Zux Zuy Z61 Z62 Z63 Z64 Z65
  try clear Zc8 Zc9 Zda Zdb Zdc Zdd Zde Zdf
  try clear yw yx yz xc xe xg xh xk
  try clear Znk Znl Znm Znn Zno Znp Znq Znr
  try clear Td Te Tf Zih Zii Zij Zik Zil
  try clear Pn Po Pp xy xz qa qb qc
  try clear ul um uo uq ut uu uw uy
  try clear Zv7 Zv8 Zv9 Z7b Z7c Z7d Z7e Z7f
  try clear Zwi Zwj Zwk Zwl Zwm Zwn Zwo Zwp
  try clear Zvm Zvn Zvo Z7l Z7m Z7n Z7o Z7p
  obtain ⟨kq,Z6b,rfl,HA,HJ1,X0,HB⟩ := hcut
  cases kq with
  | zero => exact absurd HA.out (by simp [Zk.j0])
  | succ kj1 =>
   have H := HA.out
   clear HA
   simp only [Zk.j0] at H
   by_cases c56 : Z6b = true
   ·subst c56
    have H1 : (some false) = some r := by rw [if_pos rfl] at H;exact H
    clear H
    have H := H1
    clear H1
    obtain rfl := Option.some.inj H
    go_wp2
    repeat (go_quiet (fail);try go_wp2)
    go_ret
    exact ⟨Zmm,Vh⟩
   ·replace c56 := Bool.eq_false_iff.mpr c56
    subst c56
    have H1 : (Zk.l0 kj1 Zy (Zy.length : Int) 0) = some r := by rw [if_neg (show ¬ (false = true) by decide)] at H;exact H
    clear H
    have H := H1
    clear H1
    have H' := Za.mk H
    clear H
    obtain ⟨Ji5,Ji6,Ji7,Ji8,Ji9,Jja,Jjb,Jjc,Jjd,Jje,Jjf,Jjg,Jjh,Jji,Jjj,Jjk⟩ := Jf X0.out
    go_wp2
    repeat (go_quiet (fail);try go_wp2)
    go_loopg [78] kj1 (fun kq v78 w' => ∃ (Xb : Int),v78 = .int .i64 Xb ∧ Za (Zk.l0 kq Zy (Zy.length : Int) Xb = some r) ∧ Za (kq ≤ kj1) ∧ Za (w'.heap[Hz]? = some (.cells #[.int .i64 Z5,.string Jb,.string Jc,.bool Jt,(.slice Vw Jd.length Vu),.string Jn,.string Jm,(.slice Xf Zy.length Vv)] 29 (0,0))) ∧ Za (Below w.heap.size w w'))
    case atStart => exact ⟨(0),Wp,H',⟨Nat.le_refl _⟩,⟨J5⟩,⟨Vh⟩⟩
    case round =>
     clear H'
     try clear c1
     try clear c2
     try clear p2 p2
     try clear c3
     try clear c4
     try clear c5
     try clear c9
     try clear Hl
     try clear jv
     try clear c10
     try clear df
     try clear Zq3
     try clear c18
     try clear Zlq
     try clear Zqv
     try clear c19
     try clear Zhq
     try clear Zhr
     try clear c20
     try clear Zff
     try clear Zlr
     try clear c24
     try clear Zlx
     try clear Zly
     try clear c26
     try clear di
     try clear Zrb
     try clear c27
     try clear Zrc
     try clear Zrd
     try clear c31
     try clear c33
     try clear Za3
     try clear Je0
     try clear c34
     try clear Zgs
     try clear Je1
     try clear jc
     try clear Za4
     try clear Zfg
     try clear c36
     try clear Z0y
     try clear Je2
     try clear c38
     try clear Ztv
     try clear Ztw
     try clear c42
     try clear Zre
     try clear Z0z
     try clear c43
     try clear Zrf
     try clear Z00
     try clear c44
     try clear Zl3
     try clear Zl4
     try clear c48
     try clear Je3
     try clear Je4
     try clear c50
     try clear Je5
     try clear Je6
     try clear c51
     try clear Je7
     try clear Je8
     try clear c56
     try clear Lp Lr Ls Lt Lu Lv Lx L6
     try clear Zm2 Zm3 Zm4 Z6c Z6d Z6e Z6f Z6g
     try clear Zca Zcb Zcc Zcd Zce Zcf Zcg Zch
     try clear Zb3 Zb4 Zb5 Z6m Z6n Z6o Z6p Z6q
     try clear l6 l8 l9 Zhs Zht Zhu Zhv Zhw
     try clear Mh Mi Mj Mk Ml Mm Mo Mq
     try clear Dy Dz D5 Gd Gf Gg Gh Gi
     try clear Rz R3 R4 Zcq Zcr Zcs Zct Zcu
     try clear mi mo mq mr ng ni nk nu
     try clear ll lm lq Zh2 Zh3 Zh4 Zh5 Zh6
     try clear Zut Zuu Zuv Z6w Z6x Z6y Z6z Z60
     try clear Zc0 Zc1 Zc2 Zc3 Zc4 Zc5 Zc6 Zc7
     try clear yh yj yl ym yn yo yt yu
     try clear Znc Znd Zne Znf Zng Znh Zni Znj
     try clear S9 Ta Tc Zic Zid Zie Zif Zig
     try clear Pj Pk Pm xn xq xu xw xx
     try clear q8 q9 uf ug uh ui uj uk
     try clear Zv4 Zv5 Zv6 Z66 Z67 Z68 Z69 Z7a
     try clear Zwa Zwb Zwc Zwd Zwe Zwf Zwg Zwh
     try clear Zvj Zvk Zvl Z7g Z7h Z7i Z7j Z7k
     try clear Ji5 Ji6 Ji7 Ji8 Ji9 Jja Jjb Jjc
     try clear L8 L9 Ma Mc Md Me Mf Mg
     try clear Zm5 Zm6 Zm7 Z6h Z6i Z6j Z6k Z6l
     try clear Zci Zcj Zck Zcl Zcm Zcn Zco Zcp
     try clear Zb6 Zb7 Zb8 Z6r Z6s Z6t Z6u Z6v
     try clear mf mg mh Zhx Zhy Zhz Zh0 Zh1
     try clear Mr Ms Mt Mv Mw Mx M0 M3
     try clear D6 D7 D8 Gj Gl Gm Gn Gp
     try clear R5 R6 R7 Zcv Zcw Zcx Zcy Zcz
     try clear ny nz pg pq pu pz p8 p9
     try clear lu lv lw Zh7 Zh8 Zh9 Zia Zib
     try clear Zuw Zux Zuy Z61 Z62 Z63 Z64 Z65
     try clear Zc8 Zc9 Zda Zdb Zdc Zdd Zde Zdf
     try clear yw yx yz xc xe xg xh xk
     try clear Znk Znl Znm Znn Zno Znp Znq Znr
     try clear Td Te Tf Zih Zii Zij Zik Zil
     try clear Pn Po Pp xy xz qa qb qc
     try clear ul um uo uq ut uu uw uy
     try clear Zv7 Zv8 Zv9 Z7b Z7c Z7d Z7e Z7f
     try clear Zwi Zwj Zwk Zwl Zwm Zwn Zwo Zwp
     try clear Zvm Zvn Zvo Z7l Z7m Z7n Z7o Z7p
     try clear Jjd Jje Jjf Jjg Jjh Jji Jjj Jjk
     obtain ⟨Xb,rfl,HA,HK2,X0,HB⟩ := hrel
     cases gk with
     | zero => exact absurd HA.out (by simp [Zk.l0])
     | succ k2 =>
      have H := HA.out
      clear HA
      simp only [Zk.l0] at H
      by_cases c58 : Xb < (Zy.length : Int)
      ·rw [if_pos c58] at H
       have Ztz : decide (Xb < (Zy.length : Int)) = true := decide_eq_true c58
       clear c58
       by_cases c59 : 0 ≤ Xb
       ·rw [if_pos c59] at H
        have Z01 : decide (0 ≤ Xb) = true := decide_eq_true c59
        clear c59
        by_cases c60 : Xb < (Zy.length : Int)
        ·rw [if_pos c60] at H
         have Vf7 : decide (Xb < (Zy.length : Int)) = true := decide_eq_true c60
         clear c60
         replace H := Option.bind_eq_some_iff.mp H
         obtain ⟨⟨Jt3,t196,Jt4,t198,Jt5,Jt6,t201,Jt7,t203,Jt8,Jt9,t206,Jua⟩,Jub,H⟩ := H
         replace H : (if Jua = true then (Zk.l0 k2 Zy (Zy.length : Int) (wrap64 (Xb + 1))) else (some false)) = some r := H
         have A61 := Za.mk Jub
         clear Jub
         by_cases c62 : Jua = true
         ·subst c62
          have H1 : (Zk.l0 k2 Zy (Zy.length : Int) (wrap64 (Xb + 1))) = some r := by rw [if_pos rfl] at H;exact H
          clear H
          have H := H1
          clear H1
          have H' := Za.mk H
          clear H
          have Z3z : 0 ≤ (Xb : Int) := of_decide_eq_true Zs3
          have Z30 : Xb < (Zy.length : Int) := of_decide_eq_true Zs3
          obtain ⟨Zhf,Jpf,rf,rq,ru⟩ := ja Za5.out Xb Z3z Z30
          cases Jpf
          replace rf := (HB.out.cell (World.block_lt_of_cell? w _ rf)).trans rf
          replace rq := (HB.out.cell (World.block_lt_of_cell? w _ rq)).trans rq
          replace ru := (HB.out.cell (World.block_lt_of_cell? w _ ru)).trans ru
          replace Z3z := eq_true Z3z
          replace Z30 := eq_true Z30
          go_wp2_with (first | ((with_reducible refine Jg (N := 6) rfl ?_);(try (refine Jr (by rfl) ?_;dsimp only));refine Je ?hg (N := 6) ?hd (cs := #[.string (⟨#[]⟩ : ByteArray),.int .i64 0,.string (⟨#[]⟩ : ByteArray)]) (t := 44) ?hr ?_;(case hd => rfl);(case hg => rfl);(case hr => exact Q0);intro Lm hg w63 hbox hb;have Zhe := Za.mk (hbox);have Juc := Za.mk ((Pd : w.heap.size ≤ Lm));have Jez := Za.mk ((Pd : w.heap.size ≤ Lm));replace HB := Za.mk (Zm Vh hb);have zu := Za.mk ((Xu : Hz ≠ Lm));have Zkv := Za.mk ((Qg : Lm ≠ Hz));replace X0 := Za.mk (Zw (g := Hz) (o := .cells #[.int .i64 Z5,.string Jb,.string Jc,.bool Jt,.slice Vw Jd.length Vu,.string Jn,.string Jm,.slice (some Zhf) Zy.length Vv] 29 (0,0)) J5 hb);clear hb hbox hg;have Vf9 := Zkv.out;have Vga := zu.out;obtain ⟨J6l,J6m,J6n,J6o,J6p,J6q⟩ := Va Zhe.out) | (go_at_call 17;(with_reducible refine (Qi.calls ((Z6 Zy Xb).f0) ((Z6 Zy Xb).f1) ((Z6 Zy Xb).f2) Jt3 t196 Jt4 t198 Jt5 Jt6 t201 Jt7 t203 Jt8 Jt9 t206 true _ A61.out).mono ?_);rintro e w66 ⟨rfl,hb⟩;replace X0 := Za.mk (Zw (g := Hz) (o := .cells #[.int .i64 Z5,.string Jb,.string Jc,.bool Jt,.slice Vw Jd.length Vu,.string Jn,.string Jm,.slice (some Zhf) Zy.length Vv] 29 (0,0)) Qw hb);replace Zhe := Za.mk (Zw (g := Lm) (o := .cells #[.string ((Z6 Zy Xb).f0),.int .i64 ((Z6 Zy Xb).f1),.string ((Z6 Zy Xb).f2)] 44 (0,0)) Yb hb);replace HB := Za.mk (Zm Vz hb);(try clear hb);(try clear hb2);(try clear hk);(try clear hi)) | ((with_reducible refine Jg (N := 7) rfl ?_);(try (refine Jr (by rfl) ?_;dsimp only));refine Je ?hg (N := 7) ?hd (cs := #[.int .i64 0,.string (⟨#[]⟩ : ByteArray),.bool false,.string (⟨#[]⟩ : ByteArray),.int .i64 0,.int .i64 0,.int .i64 0,.int .i64 0,.bool false,.bool false,.int .i64 0,.int .i64 0]) (t := 51) ?hr ?_;(case hd => rfl);(case hg => rfl);(case hr => exact Q0);intro dm hg w67 hbox hb;have Je9 := Za.mk (hbox);have Jud := Za.mk ((je : w.heap.size ≤ dm));have Jl7 := Za.mk ((je : w.heap.size ≤ dm));replace HB := Za.mk (Zm Vz hb);have Qj := Za.mk ((Xu : Hz ≠ dm));have Zkw := Za.mk ((Qg : dm ≠ Hz));replace X0 := Za.mk (Zw (g := Hz) (o := .cells #[.int .i64 Z5,.string Jb,.string Jc,.bool Jt,.slice Vw Jd.length Vu,.string Jn,.string Jm,.slice (some Zhf) Zy.length Vv] 29 (0,0)) J5 hb);have Zkx := Za.mk ((Qy : Lm ≠ dm));have Zky := Za.mk ((Xv : dm ≠ Lm));replace Zhe := Za.mk (Zw (g := Lm) (o := .cells #[.string ((Z6 Zy Xb).f0),.int .i64 ((Z6 Zy Xb).f1),.string ((Z6 Zy Xb).f2)] 44 (0,0)) Dx hb);clear hb hbox hg;have Jue := Zkw.out;have Juf := Qj.out;have Jug := Zky.out;have Juh := Zkx.out;obtain ⟨Jjm,Jjn,Jjo,J6r,J6s,J6t,J6u,J6v,J6w,J6x,Jui,Juj,Jjp,Jjq,Jjr,J6y,J6z,J60,J61,J62,J63,J64,Juk,Jul⟩ := Xk Je9.out))
          repeat (go_quiet (fail);try go_wp2_with (fail))
          go_roundg k2
          case measure => have := HJ1.out;have := HK2.out;omega
          case rel => exact ⟨(wrap64 (Xb + 1)),Wp,H',⟨(by have := HJ1.out;have := HK2.out;omega)⟩,⟨(by (with_reducible repeat (first | refine Zc ?_ _ | refine Zf ?_ | refine Zb ?_ _));refine Jl ?_ Qj.out _;(with_reducible repeat (first | refine Zc ?_ _ | refine Zf ?_ | refine Zb ?_ _));refine Jl ?_ Qj.out _;(with_reducible repeat (first | refine Zc ?_ _ | refine Zf ?_ | refine Zb ?_ _));refine Jl ?_ Qj.out _;(with_reducible repeat (first | refine Zc ?_ _ | refine Zf ?_ | refine Zb ?_ _));refine Jl ?_ Qj.out _;(with_reducible repeat (first | refine Zc ?_ _ | refine Zf ?_ | refine Zb ?_ _));refine Jl ?_ Qj.out _;(with_reducible repeat (first | refine Zc ?_ _ | refine Zf ?_ | refine Zb ?_ _));refine Jl ?_ Qj.out _;(with_reducible repeat (first | refine Zc ?_ _ | refine Zf ?_ | refine Zb ?_ _));refine Jl ?_ Qj.out _;(with_reducible repeat (first | refine Zc ?_ _ | refine Zf ?_ | refine Zb ?_ _));refine Jl ?_ Qj.out _;(with_reducible repeat (first | refine Zc ?_ _ | refine Zf ?_ | refine Zb ?_ _));refine Jl ?_ Qj.out _;(with_reducible repeat (first | refine Zc ?_ _ | refine Zf ?_ | refine Zb ?_ _));refine Jl ?_ Qj.out _;(with_reducible repeat (first | refine Zc ?_ _ | refine Zf ?_ | refine Zb ?_ _));refine Jl ?_ Qj.out _;(with_reducible repeat (first | refine Zc ?_ _ | refine Zf ?_ | refine Zb ?_ _));refine Jl ?_ Qj.out _;(with_reducible repeat (first | refine Zc ?_ _ | refine Zf ?_ | refine Zb ?_ _));exact X0.out)⟩,⟨Zml⟩⟩
         ·replace c62 := Bool.eq_false_iff.mpr c62
          subst c62
          have H1 : (some false) = some r := by rw [if_neg (show ¬ (false = true) by decide)] at H;exact H
          clear H
          have H := H1
          clear H1
          obtain rfl := Option.some.inj H
          have Z3z : 0 ≤ (Xb : Int) := of_decide_eq_true Zs3
          have Z30 : Xb < (Zy.length : Int) := of_decide_eq_true Zs3
          obtain ⟨Zhf,Jpf,rf,rq,ru⟩ := ja Za5.out Xb Z3z Z30
          cases Jpf
          replace rf := (HB.out.cell (World.block_lt_of_cell? w _ rf)).trans rf
          replace rq := (HB.out.cell (World.block_lt_of_cell? w _ rq)).trans rq
          replace ru := (HB.out.cell (World.block_lt_of_cell? w _ ru)).trans ru
          replace Z3z := eq_true Z3z
          replace Z30 := eq_true Z30
          go_wp2_with (first | ((with_reducible refine Jg (N := 6) rfl ?_);(try (refine Jr (by rfl) ?_;dsimp only));refine Je ?hg (N := 6) ?hd (cs := #[.string (⟨#[]⟩ : ByteArray),.int .i64 0,.string (⟨#[]⟩ : ByteArray)]) (t := 44) ?hr ?_;(case hd => rfl);(case hg => rfl);(case hr => exact Q0);intro Lm hg w71 hbox hb;have Zhe := Za.mk (hbox);have Juc := Za.mk ((Pd : w.heap.size ≤ Lm));have Jez := Za.mk ((Pd : w.heap.size ≤ Lm));replace HB := Za.mk (Zm Vh hb);have zu := Za.mk ((Xu : Hz ≠ Lm));have Zkv := Za.mk ((Qg : Lm ≠ Hz));replace X0 := Za.mk (Zw (g := Hz) (o := .cells #[.int .i64 Z5,.string Jb,.string Jc,.bool Jt,.slice Vw Jd.length Vu,.string Jn,.string Jm,.slice (some Zhf) Zy.length Vv] 29 (0,0)) J5 hb);clear hb hbox hg;have Vgc := Zkv.out;have Vgd := zu.out;obtain ⟨J65,J66,J67,J68,J69,J7a⟩ := Va Zhe.out) | (go_at_call 17;(with_reducible refine (Qi.calls ((Z6 Zy Xb).f0) ((Z6 Zy Xb).f1) ((Z6 Zy Xb).f2) Jt3 t196 Jt4 t198 Jt5 Jt6 t201 Jt7 t203 Jt8 Jt9 t206 false _ A61.out).mono ?_);rintro e w74 ⟨rfl,hb⟩;replace X0 := Za.mk (Zw (g := Hz) (o := .cells #[.int .i64 Z5,.string Jb,.string Jc,.bool Jt,.slice Vw Jd.length Vu,.string Jn,.string Jm,.slice (some Zhf) Zy.length Vv] 29 (0,0)) Qw hb);replace Zhe := Za.mk (Zw (g := Lm) (o := .cells #[.string ((Z6 Zy Xb).f0),.int .i64 ((Z6 Zy Xb).f1),.string ((Z6 Zy Xb).f2)] 44 (0,0)) Yb hb);replace HB := Za.mk (Zm Vz hb);(try clear hb);(try clear hb2);(try clear hk);(try clear hi)) | ((with_reducible refine Jg (N := 7) rfl ?_);(try (refine Jr (by rfl) ?_;dsimp only));refine Je ?hg (N := 7) ?hd (cs := #[.int .i64 0,.string (⟨#[]⟩ : ByteArray),.bool false,.string (⟨#[]⟩ : ByteArray),.int .i64 0,.int .i64 0,.int .i64 0,.int .i64 0,.bool false,.bool false,.int .i64 0,.int .i64 0]) (t := 51) ?hr ?_;(case hd => rfl);(case hg => rfl);(case hr => exact Q0);intro dm hg w75 hbox hb;have Je9 := Za.mk (hbox);have Jud := Za.mk ((je : w.heap.size ≤ dm));have Jl7 := Za.mk ((je : w.heap.size ≤ dm));replace HB := Za.mk (Zm Vz hb);have Qj := Za.mk ((Xu : Hz ≠ dm));have Zkw := Za.mk ((Qg : dm ≠ Hz));replace X0 := Za.mk (Zw (g := Hz) (o := .cells #[.int .i64 Z5,.string Jb,.string Jc,.bool Jt,.slice Vw Jd.length Vu,.string Jn,.string Jm,.slice (some Zhf) Zy.length Vv] 29 (0,0)) J5 hb);have Zkx := Za.mk ((Qy : Lm ≠ dm));have Zky := Za.mk ((Xv : dm ≠ Lm));replace Zhe := Za.mk (Zw (g := Lm) (o := .cells #[.string ((Z6 Zy Xb).f0),.int .i64 ((Z6 Zy Xb).f1),.string ((Z6 Zy Xb).f2)] 44 (0,0)) Dx hb);clear hb hbox hg;have Vge := Zkw.out;have Vgf := Qj.out;have Vgg := Zky.out;have Vgh := Zkx.out;obtain ⟨J7b,J7c,J7d,J7e,J7f,J7g,J7h,J7i,J7j,J7k,Jum,Jun,J7l,J7m,J7n,J7o,J7p,J7q,J7r,J7s,J7t,J7u,Juo,Jup⟩ := Xk Je9.out))
          repeat (go_quiet (fail);try go_wp2_with (fail))
          go_ret
          exact ⟨Zmm,Zml⟩
        ·rw [if_neg c60] at H
         exact absurd H (by simp)
       ·rw [if_neg c59] at H
        exact absurd H (by simp)
      ·rw [if_neg c58] at H
       have Ztz : decide (Xb < (Zy.length : Int)) = false := decide_eq_false c58
       clear c58
       obtain rfl := Option.some.inj H
       go_wp2
       repeat (go_quiet (fail);try go_wp2)
       go_ret
       exact ⟨Zmm,Vh⟩
end Go.Proofs.YtdhpcofnddkcaaaGreatDoor.S
namespace Go.Proofs.YtdhpcofnddkcaaaGreatDoor.S
open Go.RowKit Go.Proofs.YtdhpcofnddkcaaaGreatDoor.G Go.Proofs.YtdhpcofnddkcaaaGreatDoorW.PrintWords Go.Proofs.YtdhpcofnddkcaaaGreatDoorW.PrintLast Go.Proofs.YtdhpcofnddkcaaaGreatDoorW.PrintMore
set_option linter.unusedVariables false
set_option linter.unusedSimpArgs false
theorem Jfa (l : List Y4) (i : Nat) (h : i < l.length) : Z6 l (i : Int) = l[i] := by
  unfold Z6
  rw [Int.toNat_natCast,List.getD_eq_getElem?_getD,List.getElem?_eq_getElem h]
  rfl
def okS (a : Y4) : Bool := Fh (Pb a)
theorem Z7q (a : Y4) : (Zvp a.f1 a.f2).2.2.2.2.2.2.2.2.2.2.2.2 = okS a := Jio a.f0 a.f1 a.f2
theorem Z02 (l : List Y4) (i : Nat) (h : i < l.length) : (l.drop i).all okS = (okS l[i] && (l.drop (i + 1)).all okS) := by
  rw [List.drop_eq_getElem_cons h,List.all_cons]
theorem Z31 (l : List Y4) (hl : l.length ≤ 1000000) (hs : ∀ a ∈ l,a.f2.size ≤ 100000) : ∀ (d i : Nat),l.length - i ≤ d → i ≤ l.length → Zk.l0 (d + 1) l (l.length : Int) (i : Int) = some ((l.drop i).all okS) := by
  intro d
  induction d with
  | zero =>
    intro i h1 h2
    rw [Zk.l0,if_neg (by omega),List.drop_of_length_le (by omega)]
    rfl
  | succ d ih =>
    intro i h1 h2
    by_cases hi : i < l.length
    · rw [Zk.l0,if_pos (by omega),if_pos (by omega),if_pos (by omega),Jfa l i hi,Jip _ _ _ (hs _ (List.getElem_mem hi)),Option.bind_some,Z7q,Z02 l i hi]
      cases h : okS l[i]
      · rfl
      · rw [if_pos rfl,l5 _ (by omega) (by omega),show (i : Int) + 1 = ((i + 1 : Nat) : Int) by omega,ih (i + 1) (by omega) (by omega)]
        rfl
    · rw [Zk.l0,if_neg (by omega),List.drop_of_length_le (by omega)]
      rfl
theorem Z03 (l : List Y4) (hl : l.length ≤ 1000000) (hs : ∀ a ∈ l,a.f2.size ≤ 100000) : ∃ k0,∀ k,k0 ≤ k → ∀ a ∈ l,Jy.f k a.f0 a.f1 a.f2 = some (Zvp a.f1 a.f2) := by
  induction l with
  | nil => exact ⟨0,fun k _ a ha => by cases ha⟩
  | cons a t ih =>
    obtain ⟨k1,h1⟩ := ih (by simp at hl;omega) (fun x hx => hs x (.tail _ hx))
    obtain ⟨k2,h2⟩ := Jex a.f0 a.f1 a.f2 (hs a (.head _))
    refine ⟨max k1 k2,fun k hk x hx => ?_⟩
    rcases List.mem_cons.1 hx with rfl | hx
    · exact h2 k (by omega)
    · exact h1 k (by omega) x hx
def Kq (s : Xx) : Bool := Net.right Fh (Uq s)
theorem Jfb (l : List Y4) : (l.map Pb).all Fh = l.all okS := by
  rw [List.all_map]
  rfl
theorem Jfc (s : ByteArray) : s = Net.em ↔ s.toList = ([] : List UInt8) := by
  rw [tl]
  exact ⟨fun h => by rw [h];rfl,fun h => jd h⟩
theorem Zl5 (l : List Y4) : l.map Pb = [] ↔ (l.length : Int) = 0 := by
  cases l with
  | nil => simp
  | cons a t => simp;omega
theorem Zl6 (l : List ByteArray) : l = [] ↔ (l.length : Int) = 0 := by
  cases l with
  | nil => simp
  | cons a t => simp;omega
def Zkz (s : Xx) : Bool :=
  if s.f0 = 0 then decide (s.f5 = Net.em ∧ s.f6 = Net.em ∧ s.f7.map Pb = [] ∧ s.f4 = []) else if s.f0 = 1 then decide (s.f5 = Net.em ∧ s.f6 = Net.em ∧ s.f7.map Pb = [] ∧ s.f2 = Net.em ∧ s.f3 = false)
  else if s.f0 = 2 then decide (s.f2 = Net.em ∧ s.f3 = false ∧ s.f1 = Net.em ∧ s.f4 = []) else false
theorem Zk0 (s : Xx) : Kq s = (s.f7.all okS && Zkz s) := by
  unfold Kq
  show ((s.f7.map Pb).all Fh && _) = _
  rw [Jfb]
  rfl
theorem Zws (s : Xx) (k : Nat) (hk : s.f7.length + 2 ≤ k) (hl : s.f7.length ≤ 1000000) (hs : ∀ a ∈ s.f7,a.f2.size ≤ 100000) :
    Zk.f k s.f0 s.f1 s.f2 s.f3 s.f4 s.f5 s.f6 s.f7 = some (Kq s) := by
  obtain ⟨m,rfl⟩ : ∃ m,k = m + 1 := ⟨k - 1,by omega⟩
  have hj0 : Zk.j0 (m + 1) true s.f0 s.f1 s.f2 s.f3 s.f4 s.f5 s.f6 s.f7 = some false := by rw [Zk.j0,if_pos rfl]
  have hj1 : Zk.j0 (m + 1) false s.f0 s.f1 s.f2 s.f3 s.f4 s.f5 s.f6 s.f7 = some (s.f7.all okS) := by
    obtain ⟨d,rfl⟩ : ∃ d,m = d + 1 := ⟨m - 1,by omega⟩
    have := Z31 s.f7 hl hs d 0 (by omega) (by omega)
    rw [List.drop_zero] at this
    rw [Zk.j0,if_neg (by decide)]
    exact this
  rw [Zk0]
  unfold Zk.f Zkz
  simp only [Jfc,Zl5,Zl6]
  have h4 : (s.f4.length : Int) = 0 ∨ (s.f4.length : Int) > 0 := by omega
  have h7 : (s.f7.length : Int) = 0 ∨ (s.f7.length : Int) > 0 := by omega
  generalize (s.f7.length : Int) = n7 at *
  generalize s.f7.all okS = A at *
  generalize (s.f4.length : Int) = n4 at *
  obtain ⟨f0,f1,f2,f3,f4,f5,f6,f7⟩ := s
  have hD : ∀ n : Int,n = 0 ∨ n > 0 → decide (n > 0) = !decide (n = 0) := by
    intro n hn
    rcases hn with rfl | h
    · rfl
    · rw [decide_eq_true h,decide_eq_false (by omega)]
      rfl
  have hJ : ∀ b : Bool,Zk.j0 (m + 1) b f0 f1 f2 f3 f4 f5 f6 f7 = some (!b && A) := by
    intro b
    cases b
    · rw [hj1];rfl
    · rw [hj0];rfl
  simp only [hJ,hD n7 h7,hD n4 h4] at *
  clear hj0 hj1 hJ hD hl hs hk
  have e4 : (n4 > 0) = ¬ (n4 = 0) := by
    rw [eq_iff_iff]
    omega
  have e7 : (n7 > 0) = ¬ (n7 = 0) := by
    rw [eq_iff_iff]
    omega
  simp only [e4,e7] at *
  have hf : f0 = 0 ∨ f0 = 1 ∨ f0 = 2 ∨ f0 < 0 ∨ f0 > 2 := by omega
  rcases hf with rfl | rfl | rfl | h | h
  · by_cases c4 : n4 = 0 <;> by_cases c5 : f5.toList = [] <;> by_cases c6 : f6.toList = [] <;> by_cases c7 : n7 = 0 <;> simp [c4,c5,c6,c7]
  · cases f3 <;> by_cases c2 : f2.toList = [] <;> by_cases c5 : f5.toList = [] <;> by_cases c6 : f6.toList = [] <;> by_cases c7 : n7 = 0 <;> simp [c2,c5,c6,c7]
  · cases f3 <;> by_cases c2 : f2.toList = [] <;> by_cases c1 : f1.toList = [] <;> by_cases c4 : n4 = 0 <;> simp [c1,c2,c4]
  · rw [if_pos h,if_neg (by omega),if_neg (by omega),if_neg (by omega)]
    simp
  · rw [if_neg (by omega),if_pos h,if_neg (by omega),if_neg (by omega),if_neg (by omega)]
    simp
end Go.Proofs.YtdhpcofnddkcaaaGreatDoor.S
namespace Go.Proofs.YtdhpcofnddkcaaaGreatDoor.S
open Go.RowKit Go.Proofs.YtdhpcofnddkcaaaGreatDoor.G Go.Proofs.YtdhpcofnddkcaaaGreatDoorW.PrintWords Go.Proofs.YtdhpcofnddkcaaaGreatDoorW.PrintLast Go.Proofs.YtdhpcofnddkcaaaGreatDoorW.PrintMore
set_option linter.unusedVariables false
set_option linter.unusedSimpArgs false
def H5.f (a0 : ByteArray) : Option (ByteArray) := (strconv_Itoa.f (a0.size : Int)).bind fun Tg => (if Tg.size + 1 ≤ 9223372036854775807 then (if (Tg ++ (⟨#[58]⟩ : ByteArray)).size + a0.size ≤ 9223372036854775807 then (if ((Tg ++ (⟨#[58]⟩ : ByteArray)) ++ a0).size + 1 ≤ 9223372036854775807 then (some (((Tg ++ (⟨#[58]⟩ : ByteArray)) ++ a0) ++ (⟨#[44]⟩ : ByteArray))) else (none)) else (none)) else (none))
set_option maxHeartbeats 8000000 in
set_option maxRecDepth 100000 in
theorem H5.calls (a0 : ByteArray) (r : ByteArray) (w : World) (h : H5.f a0 = some r) (Ue : Yg w := by exact Yg.step Ue (by repeat (first | (with_reducible first | exact HB.out | apply Z4 | apply Zr | apply Zz | refine Z8 ?_ (Za.out (by assumption))) | exact HB.out))) :
    Calls Tryz.prog 23 #[.string a0] w fun e w' => e = .returned (.string r) ∧ Below w.heap.size w w' := by
  have HB := Za.mk (Below.refl w.heap.size w)
  have H : ((strconv_Itoa.f (a0.size : Int)).bind fun Tg => (if Tg.size + 1 ≤ 9223372036854775807 then (if (Tg ++ (⟨#[58]⟩ : ByteArray)).size + a0.size ≤ 9223372036854775807 then (if ((Tg ++ (⟨#[58]⟩ : ByteArray)) ++ a0).size + 1 ≤ 9223372036854775807 then (some (((Tg ++ (⟨#[58]⟩ : ByteArray)) ++ a0) ++ (⟨#[44]⟩ : ByteArray))) else (none)) else (none)) else (none))) = some r := h
  clear h
  replace H := Option.bind_eq_some_iff.mp H
  obtain ⟨Tg,A20,H⟩ := H
  replace H : (if Tg.size + 1 ≤ 9223372036854775807 then (if (Tg ++ (⟨#[58]⟩ : ByteArray)).size + a0.size ≤ 9223372036854775807 then (if ((Tg ++ (⟨#[58]⟩ : ByteArray)) ++ a0).size + 1 ≤ 9223372036854775807 then (some (((Tg ++ (⟨#[58]⟩ : ByteArray)) ++ a0) ++ (⟨#[44]⟩ : ByteArray))) else (none)) else (none)) else (none)) = some r := H
  have A2 := Za.mk A20
  clear A20
  by_cases c3 : Tg.size + 1 ≤ 9223372036854775807
  · rw [if_pos c3] at H
    have ww := eq_true c3
    have Zg1 : decide (Tg.size + 1 ≤ 9223372036854775807) = true := decide_eq_true c3
    try have Vci : (9223372036854775807 < Tg.size + 1) = False := eq_false (Nat.not_lt.2 c3)
    by_cases c4 : (Tg ++ (⟨#[58]⟩ : ByteArray)).size + a0.size ≤ 9223372036854775807
    · rw [if_pos c4] at H
      have Sj := eq_true c4
      try have c4n := c4
      try simp only [ByteArray.size_append,show (⟨#[58]⟩ : ByteArray).size = 1 from rfl] at c4n
      try have c4m := eq_false (Nat.not_lt.2 c4n)
      try have c4k := eq_true c4n
      have Zgi : decide ((Tg ++ (⟨#[58]⟩ : ByteArray)).size + a0.size ≤ 9223372036854775807) = true := decide_eq_true c4
      try have Vcj : (9223372036854775807 < (Tg ++ (⟨#[58]⟩ : ByteArray)).size + a0.size) = False := eq_false (Nat.not_lt.2 c4)
      by_cases c5 : ((Tg ++ (⟨#[58]⟩ : ByteArray)) ++ a0).size + 1 ≤ 9223372036854775807
      · rw [if_pos c5] at H
        have wo := eq_true c5
        try have c5n := c5
        try simp only [ByteArray.size_append,show (⟨#[58]⟩ : ByteArray).size = 1 from rfl] at c5n
        try have c5m := eq_false (Nat.not_lt.2 c5n)
        try have c5k := eq_true c5n
        have Zsu : decide (((Tg ++ (⟨#[58]⟩ : ByteArray)) ++ a0).size + 1 ≤ 9223372036854775807) = true := decide_eq_true c5
        try have Vck : (9223372036854775807 < ((Tg ++ (⟨#[58]⟩ : ByteArray)) ++ a0).size + 1) = False := eq_false (Nat.not_lt.2 c5)
        obtain rfl := Option.some.inj H
        go_enter Tryz.func23,Tryz.ntmps23
        go_wp2_with (first | ((with_reducible refine Z7 (f := 20) rfl ?_);refine Ju (some 5) rfl rfl Tryz.func20 (by kernel_rfl) rfl #[.int .i64 (a0.size : Int)] rfl (by (try simp only [List.map_toArray,List.map_cons,List.map_nil]);first | done | rfl | (simp only [List.length_drop,List.length_take];rfl)) ?_;(with_reducible refine (strconv_Itoa.calls (a0.size : Int) Tg _ A2.out).mono ?_);rintro e w6 ⟨rfl,hb⟩;refine ⟨_,rfl,?_⟩;have Gt := Za.mk (Zm (by repeat (first | (with_reducible first | exact HB.out | apply Z4 | apply Zr | apply Zz) | exact HB.out)) hb);clear HB;have HB := Gt;clear Gt;(try clear hb);(try clear hb2);(try clear hk);(try clear hi)))
        go_ret
        exact ⟨by first | rfl | (simp [Vd,Ve] <;> rfl) | (simp [*,Vd,Ve] <;> rfl),by repeat (first | (with_reducible first | exact HB.out | apply Z4 | apply Zr | apply Zz) | exact HB.out)⟩
      · rw [if_neg c5] at H
        exact absurd H (by simp)
    · rw [if_neg c4] at H
      exact absurd H (by simp)
  · rw [if_neg c3] at H
    exact absurd H (by simp)
end Go.Proofs.YtdhpcofnddkcaaaGreatDoor.S
