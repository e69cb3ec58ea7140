/- polyglotlaw18.ScriptBytes: for every slice of steps the call returns true and leaves it unchanged. (Names shortened by a program.) (Text 8 of 10: what the law's proof rests on, joined; walks printed by the kit's print over given contracts, walks and plain laws by hand.) -/
import Derived.Test.YtdhpcofnddkcaaaGreatDoorByt0
import Derived.Test.YtdhpcofnddkcaaaGreatDoorByt1
import Derived.Test.YtdhpcofnddkcaaaGreatDoorByt2
import Derived.Test.YtdhpcofnddkcaaaGreatDoorByt3
import Derived.Test.YtdhpcofnddkcaaaGreatDoorByt4
import Derived.Test.YtdhpcofnddkcaaaGreatDoorByt5
import Derived.Test.YtdhpcofnddkcaaaGreatDoorByt6
namespace Go.Proofs.YtdhpcofnddkcaaaGreatDoor.S
open Go.RowKit Go.Proofs.YtdhpcofnddkcaaaGreatDoor.G Go.Proofs.YtdhpcofnddkcaaaGreatDoorW.PrintWords Go.Proofs.YtdhpcofnddkcaaaGreatDoorW.PrintLast Go.Proofs.YtdhpcofnddkcaaaGreatDoorW.PrintMore
set_option linter.unusedVariables false
set_option linter.unusedSimpArgs false
attribute [local go_sem] max2_int min2_int max_two min_two max_three min_three max_four min_four
namespace Sstp
theorem Va {w : World} {g : Nat} {t : TypeId} {a0 a1 a2 : Value} (h : w.heap[g]? = some (.cells #[a0,a1,a2] t (0,0))) : w.cell? ⟨g,0,none⟩ = some a0 ∧ w.cell? ⟨g,1,none⟩ = some a1 ∧ w.cell? ⟨g,2,none⟩ = some a2 ∧ w.frozen? ⟨g,0,none⟩ = false ∧ w.frozen? ⟨g,1,none⟩ = false ∧ w.frozen? ⟨g,2,none⟩ = false := ⟨(Zd h 0).trans rfl,(Zd h 1).trans rfl,(Zd h 2).trans rfl,Zj h 0,Zj h 1,Zj h 2⟩
theorem Jf {w : World} {g : Nat} {t : TypeId} {a0 a1 a2 a3 a4 a5 a6 a7 : Value} (h : w.heap[g]? = some (.cells #[a0,a1,a2,a3,a4,a5,a6,a7] t (0,0))) : w.cell? ⟨g,0,none⟩ = some a0 ∧ w.cell? ⟨g,1,none⟩ = some a1 ∧ w.cell? ⟨g,2,none⟩ = some a2 ∧ w.cell? ⟨g,3,none⟩ = some a3 ∧ w.cell? ⟨g,4,none⟩ = some a4 ∧ w.cell? ⟨g,5,none⟩ = some a5 ∧ w.cell? ⟨g,6,none⟩ = some a6 ∧ w.cell? ⟨g,7,none⟩ = some a7 ∧ w.frozen? ⟨g,0,none⟩ = false ∧ w.frozen? ⟨g,1,none⟩ = false ∧ w.frozen? ⟨g,2,none⟩ = false ∧ w.frozen? ⟨g,3,none⟩ = false ∧ w.frozen? ⟨g,4,none⟩ = false ∧ w.frozen? ⟨g,5,none⟩ = false ∧ w.frozen? ⟨g,6,none⟩ = false ∧ w.frozen? ⟨g,7,none⟩ = false := ⟨(Zd h 0).trans rfl,(Zd h 1).trans rfl,(Zd h 2).trans rfl,(Zd h 3).trans rfl,(Zd h 4).trans rfl,(Zd h 5).trans rfl,(Zd h 6).trans rfl,(Zd h 7).trans rfl,Zj h 0,Zj h 1,Zj h 2,Zj h 3,Zj h 4,Zj h 5,Zj h 6,Zj h 7⟩
theorem Vh {p_ : Prop} (h_ : p_ := by (with_reducible repeat (first | refine Zc ?_ _ | refine Zf ?_ | refine Zb ?_ _));refine Zo (cs := #[.int .i64 0,.string Q4,.string (⟨#[]⟩ : ByteArray),.bool false,.slice none 0 0,.string (⟨#[]⟩ : ByteArray),.string (⟨#[]⟩ : ByteArray),.slice none 0 0]) ?_ 7 _ rfl;(with_reducible repeat (first | refine Zc ?_ _ | refine Zf ?_ | refine Zb ?_ _));refine Zo (cs := #[.int .i64 0,.string Q4,.string (⟨#[]⟩ : ByteArray),.bool false,.slice none 0 0,.string (⟨#[]⟩ : ByteArray),.string (⟨#[]⟩ : ByteArray),.slice none 0 0]) ?_ 6 _ rfl;(with_reducible repeat (first | refine Zc ?_ _ | refine Zf ?_ | refine Zb ?_ _));refine Zo (cs := #[.int .i64 0,.string Q4,.string (⟨#[]⟩ : ByteArray),.bool false,.slice none 0 0,.string (⟨#[]⟩ : ByteArray),.string (⟨#[]⟩ : ByteArray),.slice none 0 0]) ?_ 5 _ rfl;(with_reducible repeat (first | refine Zc ?_ _ | refine Zf ?_ | refine Zb ?_ _));refine Zo (cs := #[.int .i64 0,.string Q4,.string (⟨#[]⟩ : ByteArray),.bool false,.slice none 0 0,.string (⟨#[]⟩ : ByteArray),.string (⟨#[]⟩ : ByteArray),.slice none 0 0]) ?_ 4 _ rfl;(with_reducible repeat (first | refine Zc ?_ _ | refine Zf ?_ | refine Zb ?_ _));refine Zo (cs := #[.int .i64 0,.string Q4,.string (⟨#[]⟩ : ByteArray),.bool false,.slice none 0 0,.string (⟨#[]⟩ : ByteArray),.string (⟨#[]⟩ : ByteArray),.slice none 0 0]) ?_ 3 _ rfl;(with_reducible repeat (first | refine Zc ?_ _ | refine Zf ?_ | refine Zb ?_ _));refine Zo (cs := #[.int .i64 0,.string Q4,.string (⟨#[]⟩ : ByteArray),.bool false,.slice none 0 0,.string (⟨#[]⟩ : ByteArray),.string (⟨#[]⟩ : ByteArray),.slice none 0 0]) ?_ 2 _ rfl;(with_reducible repeat (first | refine Zc ?_ _ | refine Zf ?_ | refine Zb ?_ _));refine Zo (cs := #[.int .i64 0,.string (⟨#[]⟩ : ByteArray),.string (⟨#[]⟩ : ByteArray),.bool false,.slice none 0 0,.string (⟨#[]⟩ : ByteArray),.string (⟨#[]⟩ : ByteArray),.slice none 0 0]) ?_ 1 _ rfl;(with_reducible repeat (first | refine Zc ?_ _ | refine Zf ?_ | refine Zb ?_ _));refine Zo (cs := #[.int .i64 0,.string (⟨#[]⟩ : ByteArray),.string (⟨#[]⟩ : ByteArray),.bool false,.slice none 0 0,.string (⟨#[]⟩ : ByteArray),.string (⟨#[]⟩ : ByteArray),.slice none 0 0]) ?_ 0 _ rfl;(with_reducible repeat (first | refine Zc ?_ _ | refine Zf ?_ | refine Zb ?_ _));exact M8.out) : p_ := h_
theorem J5 {p_ : Prop} (h_ : p_ := by (with_reducible repeat (first | refine Zc ?_ _ | refine Zf ?_ | refine Zb ?_ _));exact Vi.out) : p_ := h_
theorem Vz {p_ : Prop} (h_ : p_ := by repeat (first | (with_reducible first | exact HK.out | apply Ja.Za9 | apply Xp | apply X5 | apply Xq | refine Gz ?_ Zfh.out _) | exact HK.out)) : p_ := h_
theorem Yb {p_ : Prop} (h_ : p_ := by (try simp only [List.map_toArray,List.map_cons,List.map_nil]);first | done | rfl | (simp only [List.length_drop,List.length_take];rfl)) : p_ := h_
theorem Qw {p_ : Prop} (h_ : p_ := by repeat (first | (with_reducible first | exact HK.out | apply Ja.Za9 | apply Xp | apply X5 | apply Xq | refine Gz ?_ Zfh.out _ | refine Gz ?_ Jmw.out _ | refine Gz ?_ Jmx.out _) | exact HK.out)) : p_ := h_
theorem Xu {p_ : Prop} (h_ : p_ := by repeat (first | (with_reducible first | exact HK.out | apply Ja.Za9 | apply Xp | apply X5 | apply Xq | refine Gz ?_ Zfh.out _ | refine Gz ?_ Jmw.out _) | exact HK.out)) : p_ := h_
theorem Qg {p_ : Prop} (h_ : p_ := by repeat (first | (with_reducible first | exact HK.out | apply Ja.Za9 | apply Xp | apply X5 | apply Xq) | exact HK.out)) : p_ := h_
theorem Dx {p_ : Prop} (h_ : p_ := by (with_reducible repeat (first | refine Zc ?_ _ | refine Zf ?_ | refine Zb ?_ _));refine Jl ?_ Xt.out _;(with_reducible repeat (first | refine Zc ?_ _ | refine Zf ?_ | refine Zb ?_ _));refine Jl ?_ Xt.out _;(with_reducible repeat (first | refine Zc ?_ _ | refine Zf ?_ | refine Zb ?_ _));refine Jl ?_ Xt.out _;(with_reducible repeat (first | refine Zc ?_ _ | refine Zf ?_ | refine Zb ?_ _));refine Jl ?_ Xt.out _;(with_reducible repeat (first | refine Zc ?_ _ | refine Zf ?_ | refine Zb ?_ _));refine Jl ?_ Xt.out _;(with_reducible repeat (first | refine Zc ?_ _ | refine Zf ?_ | refine Zb ?_ _));refine Jl ?_ Xt.out _;(with_reducible repeat (first | refine Zc ?_ _ | refine Zf ?_ | refine Zb ?_ _));refine Jl ?_ Xt.out _;(with_reducible repeat (first | refine Zc ?_ _ | refine Zf ?_ | refine Zb ?_ _));refine Jl ?_ Xt.out _;(with_reducible repeat (first | refine Zc ?_ _ | refine Zf ?_ | refine Zb ?_ _));exact Vi.out) : p_ := h_
theorem Wp {p_ : Prop} (h_ : p_ := by (with_reducible repeat (first | refine Zc ?_ _ | refine Zf ?_ | refine Zb ?_ _));refine Jl ?_ u6.out _;(with_reducible repeat (first | refine Zc ?_ _ | refine Zf ?_ | refine Zb ?_ _));refine Zo (cs := #[.string Gq,.int .i64 Gr,.string (⟨#[]⟩ : ByteArray)]) ?_ 2 _ rfl;(with_reducible repeat (first | refine Zc ?_ _ | refine Zf ?_ | refine Zb ?_ _));refine Zo (cs := #[.string Gq,.int .i64 0,.string (⟨#[]⟩ : ByteArray)]) ?_ 1 _ rfl;(with_reducible repeat (first | refine Zc ?_ _ | refine Zf ?_ | refine Zb ?_ _));exact Su.out) : p_ := h_
theorem Sy {p_ : Prop} (h_ : p_ := by repeat (first | (with_reducible first | exact HI0.out | apply Zp.alloc | apply Zp.drewN | apply Zp.drew | apply Zp.Y9 | apply Zp.Y6 | apply Zp.Y7 | (apply Zp.far;rotate_left;exact V7.out;rotate_right) | (apply Zp.far;rotate_left;exact K4.out;rotate_right) | (apply Zp.far;rotate_left;exact Tx.out;rotate_right)) | exact HI0.out)) : p_ := h_
theorem Qy {p_ : Prop} (h_ : p_ := by repeat (first | (with_reducible first | exact HK.out | apply Ja.Za9 | apply Xp | apply X5 | apply Xq | refine Gz ?_ Zfh.out _ | refine Gz ?_ Jf4.out _) | exact HK.out)) : p_ := h_
theorem Xv {p_ : Prop} (h_ : p_ := by first | exact Kd.Ztg _ _ _ _ _ | exact Kd.Jsa _ _ _ _ _ | exact Kd.Jdp _ _ _ _ _ | exact Kd.Jr4 _ _ _ _ _ | exact Kd.Jll _ _ _ _ _) : p_ := h_
theorem Ye {p_ : Prop} (h_ : p_ := by (with_reducible repeat (first | refine Zc ?_ _ | refine Zf ?_ | refine Zb ?_ _));exact Un.out) : p_ := h_
theorem Pd {p_ : Prop} (h_ : p_ := by rw [hg];exact Nat.ne_of_lt (Y3 (g := Jw) (o := .cells #[.int .i64 0,.string (⟨#[]⟩ : ByteArray),.string (⟨#[]⟩ : ByteArray),.bool false,.slice none 0 0,.string (⟨#[]⟩ : ByteArray),.string (⟨#[]⟩ : ByteArray),.slice none 0 0] 29 (0,0)) J5)) : p_ := h_
theorem je {p_ : Prop} (h_ : p_ := by rw [hg];exact Nat.ne_of_gt (Y3 (g := Jw) (o := .cells #[.int .i64 0,.string (⟨#[]⟩ : ByteArray),.string (⟨#[]⟩ : ByteArray),.bool false,.slice none 0 0,.string (⟨#[]⟩ : ByteArray),.string (⟨#[]⟩ : ByteArray),.slice none 0 0] 29 (0,0)) J5)) : p_ := h_
theorem Zml {p_ : Prop} (h_ : p_ := by repeat (first | (with_reducible first | exact HI0.out | apply Zp.alloc | apply Zp.drewN | apply Zp.drew | apply Zp.Y9 | apply Zp.Y6 | apply Zp.Y7 | (apply Zp.far;rotate_left;exact V7.out;rotate_right) | (apply Zp.far;rotate_left;exact K4.out;rotate_right)) | exact HI0.out)) : p_ := h_
theorem Zmm {p_ : Prop} (h_ : p_ := by repeat (first | (with_reducible first | exact HK.out | apply Ja.Za9 | apply Xp | apply X5 | apply Xq | refine Gz ?_ Zfh.out _ | refine Gz ?_ Jxi.out _) | exact HK.out)) : p_ := h_
theorem Zwq {p_ : Prop} (h_ : p_ := by repeat (first | (with_reducible first | exact HB.out | apply Z4 | apply Zr | apply Zz | refine Z8 ?_ (Zp.ge HI0.out) | refine Z8 ?_ jo.out | refine Z8 ?_ Z73.out | refine Z8 ?_ Jf5.out) | exact HB.out)) : p_ := h_
theorem Zs3 {p_ : Prop} (h_ : p_ := by repeat (first | (with_reducible first | exact HI0.out | apply Zp.alloc | apply Zp.drewN | apply Zp.drew | apply Zp.Y9 | apply Zp.Y6 | apply Zp.Y7 | (apply Zp.far;rotate_left;exact V7.out;rotate_right) | (apply Zp.far;rotate_left;exact Zd1.out;rotate_right)) | exact HI0.out)) : p_ := h_
theorem Jcj {p_ : Prop} (h_ : p_ := by repeat (first | (with_reducible first | exact HI0.out | apply Zp.alloc | apply Zp.drewN | apply Zp.drew | apply Zp.Y9 | apply Zp.Y6 | apply Zp.Y7 | (apply Zp.far;rotate_left;exact V7.out;rotate_right)) | exact HI0.out)) : p_ := h_
theorem Jck {p_ : Prop} (h_ : p_ := by repeat (first | (with_reducible first | exact HB.out | apply Z4 | apply Zr | apply Zz | refine Z8 ?_ (Zp.ge HI0.out) | refine Z8 ?_ jo.out | refine Z8 ?_ Z73.out) | exact HB.out)) : p_ := h_
theorem Jqb {p_ : Prop} (h_ : p_ := by (with_reducible repeat (first | refine Zc ?_ _ | refine Zf ?_ | refine Zb ?_ _));refine Jl ?_ G8.out _;(with_reducible repeat (first | refine Zc ?_ _ | refine Zf ?_ | refine Zb ?_ _));refine Zo (cs := #[.int .i64 0,.string Q4,.string (⟨#[]⟩ : ByteArray),.bool false,.slice none 0 0,.string (⟨#[]⟩ : ByteArray),.string (⟨#[]⟩ : ByteArray),.slice none 0 0]) ?_ 3 _ rfl;(with_reducible repeat (first | refine Zc ?_ _ | refine Zf ?_ | refine Zb ?_ _));exact M8.out) : p_ := h_
theorem Jcl {p_ : Prop} (h_ : p_ := by repeat (first | (with_reducible first | exact HB.out | apply Z4 | apply Zr | apply Zz | refine Z8 ?_ (Zp.ge HI0.out) | refine Z8 ?_ jo.out) | exact HB.out)) : p_ := h_
theorem Zs8 {p_ : Prop} (h_ : p_ := by (with_reducible repeat (first | apply Kd.Yv | apply Kd.Yw | apply Kd.Xl));exact Vq.out) : p_ := h_
theorem Jcm {p_ : Prop} (h_ : p_ := by repeat (first | (with_reducible first | exact HI0.out | apply Zp.alloc | apply Zp.drewN | apply Zp.drew | apply Zp.Y9 | apply Zp.Y6 | apply Zp.Y7) | exact HI0.out)) : p_ := h_
theorem Jf6 {p_ : Prop} (h_ : p_ := by repeat (first | (with_reducible first | exact HB.out | apply Z4 | apply Zr | apply Zz | refine Z8 ?_ (Zp.ge HI0.out) | refine Z8 ?_ jo.out | refine Z8 ?_ Jmy.out) | exact HB.out)) : p_ := h_
theorem Jcn {p_ : Prop} (h_ : p_ := by repeat (first | (with_reducible first | exact HB.out | apply Z4 | apply Zr | apply Zz | refine Z8 ?_ (Zp.ge HI0.out)) | exact HB.out)) : p_ := h_
theorem Jqc {p_ : Prop} (h_ : p_ := by (with_reducible repeat (first | refine Zc ?_ _ | refine Zf ?_ | refine Zb ?_ _));refine Jl ?_ Vp.out _;(with_reducible repeat (first | refine Zc ?_ _ | refine Zf ?_ | refine Zb ?_ _));refine Jl ?_ Xt.out _;(with_reducible repeat (first | refine Zc ?_ _ | refine Zf ?_ | refine Zb ?_ _));exact Vi.out) : p_ := h_
theorem Jxj {p_ : Prop} (h_ : p_ := by (with_reducible repeat (first | refine Zc ?_ _ | refine Zf ?_ | refine Zb ?_ _));refine Zo (cs := #[.string Gq,.int .i64 0,.string (⟨#[]⟩ : ByteArray)]) ?_ 2 _ rfl;(with_reducible repeat (first | refine Zc ?_ _ | refine Zf ?_ | refine Zb ?_ _));refine Zo (cs := #[.string Gq,.int .i64 0,.string (⟨#[]⟩ : ByteArray)]) ?_ 1 _ rfl;(with_reducible repeat (first | refine Zc ?_ _ | refine Zf ?_ | refine Zb ?_ _));refine Zo (cs := #[.string (⟨#[]⟩ : ByteArray),.int .i64 0,.string (⟨#[]⟩ : ByteArray)]) ?_ 0 _ rfl;(with_reducible repeat (first | refine Zc ?_ _ | refine Zf ?_ | refine Zb ?_ _));exact Su.out) : p_ := h_
theorem Jqd {p_ : Prop} (h_ : p_ := by rw [hg];exact Nat.ne_of_lt (Zp.lt (show Zp w0 _ g Zw9 Zxa Zxb from by repeat (first | (with_reducible first | exact HI0.out | apply Zp.alloc | apply Zp.drewN | apply Zp.drew | apply Zp.Y9 | apply Zp.Y6 | apply Zp.Y7 | (apply Zp.far;rotate_left;exact V7.out;rotate_right)) | exact HI0.out)))) : p_ := h_
theorem Jqe {p_ : Prop} (h_ : p_ := by rw [hg];exact Nat.ne_of_gt (Zp.lt (show Zp w0 _ g Zw9 Zxa Zxb from by repeat (first | (with_reducible first | exact HI0.out | apply Zp.alloc | apply Zp.drewN | apply Zp.drew | apply Zp.Y9 | apply Zp.Y6 | apply Zp.Y7 | (apply Zp.far;rotate_left;exact V7.out;rotate_right)) | exact HI0.out)))) : p_ := h_
theorem Zmq {p_ : Prop} (h_ : p_ := by rw [hg];exact (zn (w := w) (g := g) (row := none) Qg)) : p_ := h_
theorem Jqf {p_ : Prop} (h_ : p_ := by repeat (first | (with_reducible first | exact HI0.out | apply Zp.alloc | apply Zp.drewN | apply Zp.drew | apply Zp.Y9 | apply Zp.Y6 | apply Zp.Y7 | (apply Zp.far;rotate_left;exact V7.out;rotate_right) | (apply Zp.far;rotate_left;exact rz.out;rotate_right)) | exact HI0.out)) : p_ := h_
theorem Z39 {p_ : Prop} (h_ : p_ := by first | rfl | (simp [Vd,Ve] <;> rfl) | (simp [*,Vd,Ve] <;> rfl)) : p_ := h_
theorem Zs9 {p_ : Prop} (h_ : p_ := by rw [hg];exact (zn (w := w) (g := g) (row := none) Vz)) : p_ := h_
theorem Jxk {p_ : Prop} (h_ : p_ := by (with_reducible repeat (first | refine Zc ?_ _ | refine Zf ?_ | refine Zb ?_ _));refine Jl ?_ H6.out _;(with_reducible repeat (first | refine Zc ?_ _ | refine Zf ?_ | refine Zb ?_ _));refine Jl ?_ H6.out _;(with_reducible repeat (first | refine Zc ?_ _ | refine Zf ?_ | refine Zb ?_ _));refine Jl ?_ H6.out _;(with_reducible repeat (first | refine Zc ?_ _ | refine Zf ?_ | refine Zb ?_ _));exact Vi.out) : p_ := h_
theorem Jxl {p_ : Prop} (h_ : p_ := by (with_reducible repeat (first | refine Zc ?_ _ | refine Zf ?_ | refine Zb ?_ _));refine Jl ?_ H8.out _;(with_reducible repeat (first | refine Zc ?_ _ | refine Zf ?_ | refine Zb ?_ _));refine Jl ?_ H8.out _;(with_reducible repeat (first | refine Zc ?_ _ | refine Zf ?_ | refine Zb ?_ _));refine Jl ?_ H8.out _;(with_reducible repeat (first | refine Zc ?_ _ | refine Zf ?_ | refine Zb ?_ _));exact Un.out) : p_ := h_
theorem Jxm {p_ : Prop} (h_ : p_ := by (with_reducible repeat (first | refine Zc ?_ _ | refine Zf ?_ | refine Zb ?_ _));refine Jl ?_ Vp.out _;(with_reducible repeat (first | refine Zc ?_ _ | refine Zf ?_ | refine Zb ?_ _));refine Jl ?_ H6.out _;(with_reducible repeat (first | refine Zc ?_ _ | refine Zf ?_ | refine Zb ?_ _));refine Jl ?_ H6.out _;(with_reducible repeat (first | refine Zc ?_ _ | refine Zf ?_ | refine Zb ?_ _));exact Vi.out) : p_ := h_
theorem Jxn {p_ : Prop} (h_ : p_ := by (with_reducible repeat (first | refine Zc ?_ _ | refine Zf ?_ | refine Zb ?_ _));refine Jl ?_ G9.out _;(with_reducible repeat (first | refine Zc ?_ _ | refine Zf ?_ | refine Zb ?_ _));refine Jl ?_ H8.out _;(with_reducible repeat (first | refine Zc ?_ _ | refine Zf ?_ | refine Zb ?_ _));refine Jl ?_ H8.out _;(with_reducible repeat (first | refine Zc ?_ _ | refine Zf ?_ | refine Zb ?_ _));exact Un.out) : p_ := h_
theorem Jqg {p_ : Prop} (h_ : p_ := by repeat (first | (with_reducible first | exact HB.out | apply Z4 | apply Zr | apply Zz | refine Z8 ?_ (Zp.ge HI0.out) | refine Z8 ?_ jo.out | refine Z8 ?_ Z74.out) | exact HB.out)) : p_ := h_
theorem Jxo {p_ : Prop} (h_ : p_ := by (with_reducible repeat (first | apply Kd.Yv | apply Kd.Yw | apply Kd.Xl));exact (Kd.Xc (Kd.Xw (p := ⟨Xo,2,none⟩) (Kd.Xw (p := ⟨Xo,1,none⟩) (Kd.Xw (p := ⟨Xo,0,none⟩) (Kd.Xc Vq.out (fun k_ hk => (⟨hk,hk.2⟩ : _ ∧ k_ ≠ Xo))) (fun _ hk => hk.2) (.string Gq)) (fun _ hk => hk.2) (.int .i64 0)) (fun _ hk => hk.2) (.string (⟨#[]⟩ : ByteArray))) (fun _ h_ => h_.1))) : p_ := h_
theorem Jxp {p_ : Prop} (h_ : p_ := by rw [hg];exact Nat.ne_of_lt (Zp.lt (show Zp w0 _ g Zxc Zxd Zxe from by repeat (first | (with_reducible first | exact HI0.out | apply Zp.alloc | apply Zp.drewN | apply Zp.drew | apply Zp.Y9 | apply Zp.Y6 | apply Zp.Y7 | (apply Zp.far;rotate_left;exact V7.out;rotate_right) | (apply Zp.far;rotate_left;exact K4.out;rotate_right)) | exact HI0.out)))) : p_ := h_
theorem Jxq {p_ : Prop} (h_ : p_ := by rw [hg];exact Nat.ne_of_gt (Zp.lt (show Zp w0 _ g Zxc Zxd Zxe from by repeat (first | (with_reducible first | exact HI0.out | apply Zp.alloc | apply Zp.drewN | apply Zp.drew | apply Zp.Y9 | apply Zp.Y6 | apply Zp.Y7 | (apply Zp.far;rotate_left;exact V7.out;rotate_right) | (apply Zp.far;rotate_left;exact K4.out;rotate_right)) | exact HI0.out)))) : p_ := h_
theorem Jxr {p_ : Prop} (h_ : p_ := by (with_reducible repeat (first | refine Zc ?_ _ | refine Zf ?_ | refine Zb ?_ _));refine Zo (cs := #[.int .i64 2,.string (⟨#[]⟩ : ByteArray),.string (⟨#[]⟩ : ByteArray),.bool false,.slice none 0 0,.string Ur,.string Ky,Qa]) ?_ 7 _ rfl;(with_reducible repeat (first | refine Zc ?_ _ | refine Zf ?_ | refine Zb ?_ _));exact Un.out) : p_ := h_
theorem Jky {p_ : Prop} (h_ : p_ := by (with_reducible repeat (first | refine Zc ?_ _ | refine Zf ?_ | refine Zb ?_ _));exact Su.out) : p_ := h_
theorem Z4a {p_ : Prop} (h_ : p_ := by first | rfl | (simp;done) | (simp [*];done)) : p_ := h_
theorem Jxs {p_ : Prop} (h_ : p_ := by (with_reducible repeat (first | refine Zc ?_ _ | refine Zf ?_ | refine Zb ?_ _));refine Jl ?_ Ua.out _;(with_reducible repeat (first | refine Zc ?_ _ | refine Zf ?_ | refine Zb ?_ _));exact Vi.out) : p_ := h_
theorem Jqh {p_ : Prop} (h_ : p_ := by (with_reducible repeat (first | refine Zc ?_ _ | refine Zf ?_ | refine Zb ?_ _));exact Y5.out) : p_ := h_
theorem Jxt {p_ : Prop} (h_ : p_ := by rw [hg];exact Nat.ne_of_lt (Y3 (g := Uo) (o := .cells #[.int .i64 2,.string (⟨#[]⟩ : ByteArray),.string (⟨#[]⟩ : ByteArray),.bool false,.slice none 0 0,.string Ur,.string Ky,Qa] 29 (0,0)) Ye)) : p_ := h_
theorem Jxu {p_ : Prop} (h_ : p_ := by rw [hg];exact Nat.ne_of_gt (Y3 (g := Uo) (o := .cells #[.int .i64 2,.string (⟨#[]⟩ : ByteArray),.string (⟨#[]⟩ : ByteArray),.bool false,.slice none 0 0,.string Ur,.string Ky,Qa] 29 (0,0)) Ye)) : p_ := h_
theorem Jkz {p_ : Prop} (h_ : p_ := by rw [hg];exact (zn (w := w) (g := g) (row := none) Xu)) : p_ := h_
theorem Q0 {p_ : Prop} (h_ : p_ := by first | (go_simp;done) | (go_simp;rfl)) : p_ := h_
theorem u1_ {p_ : Prop} (h_ : p_ := by repeat (first | (with_reducible first | exact HI0.out | apply Zp.alloc | apply Zp.drewN | apply Zp.drew | apply Zp.Y9 | apply Zp.Y6 | apply Zp.Y7 | (apply Zp.far;rotate_left;exact V7.out;rotate_right)) | exact HI0.out)) : p_ := h_
theorem u2_ {p_ : Prop} (h_ : p_ := by repeat (first | (with_reducible first | exact HB.out | apply Z4 | apply Zr | apply Zz | refine Z8 ?_ (Zp.ge HI0.out) | refine Z8 ?_ jo.out) | exact HB.out)) : p_ := h_
theorem u3_ {p_ : Prop} (h_ : p_ := by repeat (first | (with_reducible first | exact HI0.out | apply Zp.alloc | apply Zp.drewN | apply Zp.drew | apply Zp.Y9 | apply Zp.Y6 | apply Zp.Y7 | (apply Zp.far;rotate_left;exact V7.out;rotate_right) | (apply Zp.far;rotate_left;exact rz.out;rotate_right)) | exact HI0.out)) : p_ := h_
theorem u4_ {p_ : Prop} (h_ : p_ := by repeat (first | (with_reducible first | exact HB.out | apply Z4 | apply Zr | apply Zz | refine Z8 ?_ (Zp.ge HI0.out) | refine Z8 ?_ jo.out | refine Z8 ?_ Z74.out) | exact HB.out)) : p_ := h_
theorem u5_ {p_ : Prop} (h_ : p_ := by repeat (first | (with_reducible first | exact HI0.out | apply Zp.alloc | apply Zp.drewN | apply Zp.drew | apply Zp.Y9 | apply Zp.Y6 | apply Zp.Y7 | (apply Zp.far;rotate_left;exact V7.out;rotate_right) | (apply Zp.far;rotate_left;exact Zd1.out;rotate_right)) | exact HI0.out)) : p_ := h_
theorem u6_ {p_ : Prop} (h_ : p_ := by repeat (first | (with_reducible first | exact HB.out | apply Z4 | apply Zr | apply Zz | refine Z8 ?_ (Zp.ge HI0.out) | refine Z8 ?_ jo.out | refine Z8 ?_ Jmy.out) | exact HB.out)) : p_ := h_
theorem u7_ {p_ : Prop} (h_ : p_ := by repeat (first | (with_reducible first | exact HI0.out | apply Zp.alloc | apply Zp.drewN | apply Zp.drew | apply Zp.Y9 | apply Zp.Y6 | apply Zp.Y7 | (apply Zp.far;rotate_left;exact V7.out;rotate_right) | (apply Zp.far;rotate_left;exact K4.out;rotate_right)) | exact HI0.out)) : p_ := h_
theorem u8_ {p_ : Prop} (h_ : p_ := by repeat (first | (with_reducible first | exact HB.out | apply Z4 | apply Zr | apply Zz | refine Z8 ?_ (Zp.ge HI0.out) | refine Z8 ?_ jo.out | refine Z8 ?_ Z73.out) | exact HB.out)) : p_ := h_
theorem u9_ {p_ : Prop} (h_ : p_ := by repeat (first | (with_reducible first | exact HI0.out | apply Zp.alloc | apply Zp.drewN | apply Zp.drew | apply Zp.Y9 | apply Zp.Y6 | apply Zp.Y7 | (apply Zp.far;rotate_left;exact V7.out;rotate_right) | (apply Zp.far;rotate_left;exact K4.out;rotate_right) | (apply Zp.far;rotate_left;exact Tx.out;rotate_right)) | exact HI0.out)) : p_ := h_
theorem Jk0 {p_ : Prop} (h_ : p_ := by repeat (first | (with_reducible first | exact HB.out | apply Z4 | apply Zr | apply Zz | refine Z8 ?_ (Zp.ge HI0.out) | refine Z8 ?_ jo.out | refine Z8 ?_ Z73.out | refine Z8 ?_ Jf5.out) | exact HB.out)) : p_ := h_
theorem Jxv {p_ : Prop} (h_ : p_ := by exact (fun k_ hk => Kd.Jnx (g := Xo) (o := .cells #[.string Gq,.int .i64 Gr,.string si] 44 (0,0)) Wp k_ hk)) : p_ := h_
end Sstp
open Sstp
mutual
def Zl.l0 : Nat → Int → ByteArray → Int → Bool → Int → ByteArray → ByteArray → Bool → List ByteArray → ByteArray → ByteArray → Option (Int × ByteArray × ByteArray × Bool × List ByteArray × ByteArray × ByteArray × (List (Y4)) × ByteArray × Int × Bool)
 | 0,_,_,_,_,_,_,_,_,_,_,_ => none
 | k + 1,x6,x1000,Zi6,Zbr,Zxg,Zxh,Zxi,Zxj,Zo6,Zxk,Zxl => if x6 > 0 then (if Zbr = true then (some (Zxg,Zxh,Zxi,Zxj,Zo6,Zxk,Zxl,([] : List (Y4)),x1000,Zi6,Zbr)) else ((Zq.f x1000 Zi6 Zbr).bind fun Zi7 => (if Zo6.length < 8796093022208 then (Zl.l0 k (wrap64 (x6 - 1)) Zi7.2.1 Zi7.2.2.1 Zi7.2.2.2 Zxg Zxh Zxi Zxj (Zo6 ++ [Zi7.1]) Zxk Zxl) else (none)))) else (some (Zxg,Zxh,Zxi,Zxj,Zo6,Zxk,Zxl,([] : List (Y4)),x1000,Zi6,Zbr))
def Zl.l1 : Nat → Int → ByteArray → Int → Bool → Int → ByteArray → ByteArray → Bool → ByteArray → ByteArray → List (Y4) → Option (Int × ByteArray × ByteArray × Bool × List ByteArray × ByteArray × ByteArray × (List (Y4)) × ByteArray × Int × Bool)
 | 0,_,_,_,_,_,_,_,_,_,_,_ => none
 | k + 1,x8,x1000,Zi6,Zbr,Zd2,Zd3,Zd4,Zd5,Zd6,Zd7,u7 => if x8 > 0 then (Zl.j2 k x8 (!Zbr) x1000 Zi6 Zbr Zd2 Zd3 Zd4 Zd5 Zd6 Zd7 u7) else (Zl.j2 k x8 false x1000 Zi6 Zbr Zd2 Zd3 Zd4 Zd5 Zd6 Zd7 u7)
def Zl.j2 : Nat → Int → Bool → ByteArray → Int → Bool → Int → ByteArray → ByteArray → Bool → ByteArray → ByteArray → List (Y4) → Option (Int × ByteArray × ByteArray × Bool × List ByteArray × ByteArray × ByteArray × (List (Y4)) × ByteArray × Int × Bool)
 | 0,_,_,_,_,_,_,_,_,_,_,_,_ => none
 | k + 1,x8,x85,x1000,Zi6,Zbr,Zd2,Zd3,Zd4,Zd5,Zd6,Zd7,u7 => if x85 = true then ((Zq.f x1000 Zi6 Zbr).bind fun Zbs => ((Zq.f Zbs.2.1 Zbs.2.2.1 Zbs.2.2.2).bind fun Sc => ((strings_Index.f (⟨#[116,110,109]⟩ : ByteArray) Sc.1).bind fun Gr => ((Zq.f Sc.2.1 Sc.2.2.1 Sc.2.2.2).bind fun X4 => (if X4.2.2.2 = true then (if u7.length < 3518437208883 then (Zl.l1 k (wrap64 (x8 - 1)) X4.2.1 X4.2.2.1 true Zd2 Zd3 Zd4 Zd5 Zd6 Zd7 (u7 ++ [(⟨Zbs.1,Gr,X4.1⟩ : Y4)])) else (none)) else (if u7.length < 3518437208883 then (Zl.l1 k (wrap64 (x8 - 1)) X4.2.1 X4.2.2.1 ((Sc.1.size : Int) != 1) Zd2 Zd3 Zd4 Zd5 Zd6 Zd7 (u7 ++ [(⟨Zbs.1,Gr,X4.1⟩ : Y4)])) else (none))))))) else (some (Zd2,Zd3,Zd4,Zd5,([] : List ByteArray),Zd6,Zd7,u7,x1000,Zi6,Zbr))
end
def Zl.f (k : Nat) (Yh : ByteArray) (Du : Int) (Dv : Bool) : Option (Int × ByteArray × ByteArray × Bool × List ByteArray × ByteArray × ByteArray × (List (Y4)) × ByteArray × Int × Bool) := (Zq.f Yh Du Dv).bind fun U6 => (if U6.1.toList = ([97] : List UInt8) then ((Zq.f U6.2.1 U6.2.2.1 U6.2.2.2).bind fun H9 => ((Zq.f H9.2.1 H9.2.2.1 H9.2.2.2).bind fun Yu => (if Yu.2.2.2 = true then ((Zq.f Yu.2.1 Yu.2.2.1 true).bind fun U7 => (some (0,H9.1,U7.1,(Yu.1.toList == ([49] : List UInt8)),([] : List ByteArray),(⟨#[]⟩ : ByteArray),(⟨#[]⟩ : ByteArray),([] : List (Y4)),U7.2.1,U7.2.2.1,U7.2.2.2))) else (if Yu.1.toList = ([48] : List UInt8) then ((Zq.f Yu.2.1 Yu.2.2.1 false).bind fun U8 => (some (0,H9.1,U8.1,(Yu.1.toList == ([49] : List UInt8)),([] : List ByteArray),(⟨#[]⟩ : ByteArray),(⟨#[]⟩ : ByteArray),([] : List (Y4)),U8.2.1,U8.2.2.1,U8.2.2.2))) else ((Zq.f Yu.2.1 Yu.2.2.1 (Yu.1.toList != ([49] : List UInt8))).bind fun U9 => (some (0,H9.1,U9.1,(Yu.1.toList == ([49] : List UInt8)),([] : List ByteArray),(⟨#[]⟩ : ByteArray),(⟨#[]⟩ : ByteArray),([] : List (Y4)),U9.2.1,U9.2.2.1,U9.2.2.2))))))) else (if U6.1.toList = ([99] : List UInt8) then ((Zq.f U6.2.1 U6.2.2.1 U6.2.2.2).bind fun kg => ((Jv.f kg.2.1 kg.2.2.1 kg.2.2.2).bind fun M9 => (Zl.l0 k M9.1 M9.2.1 M9.2.2.1 M9.2.2.2 1 kg.1 (⟨#[]⟩ : ByteArray) false ([] : List ByteArray) (⟨#[]⟩ : ByteArray) (⟨#[]⟩ : ByteArray)))) else (if U6.1.toList = ([113] : List UInt8) then ((Zq.f U6.2.1 U6.2.2.1 U6.2.2.2).bind fun ko => ((Zq.f ko.2.1 ko.2.2.1 ko.2.2.2).bind fun Na => ((Jv.f Na.2.1 Na.2.2.1 Na.2.2.2).bind fun Fa => (Zl.l1 k Fa.1 Fa.2.1 Fa.2.2.1 Fa.2.2.2 2 (⟨#[]⟩ : ByteArray) (⟨#[]⟩ : ByteArray) false ko.1 Na.1 ([] : List (Y4)))))) else (some (0,(⟨#[]⟩ : ByteArray),(⟨#[]⟩ : ByteArray),false,([] : List ByteArray),(⟨#[]⟩ : ByteArray),(⟨#[]⟩ : ByteArray),([] : List (Y4)),U6.2.1,U6.2.2.1,true)))))
theorem Zl.Xy : ∀ k,(∀ y0 y1 y2 y3 y4 y5 y6 y7 y8 y9 y10,Jz (Zl.l0 k y0 y1 y2 y3 y4 y5 y6 y7 y8 y9 y10) (Zl.l0 (k + 1) y0 y1 y2 y3 y4 y5 y6 y7 y8 y9 y10)) ∧ (∀ y0 y1 y2 y3 y4 y5 y6 y7 y8 y9 y10,Jz (Zl.l1 k y0 y1 y2 y3 y4 y5 y6 y7 y8 y9 y10) (Zl.l1 (k + 1) y0 y1 y2 y3 y4 y5 y6 y7 y8 y9 y10)) ∧ (∀ y0 y1 y2 y3 y4 y5 y6 y7 y8 y9 y10 y11,Jz (Zl.j2 k y0 y1 y2 y3 y4 y5 y6 y7 y8 y9 y10 y11) (Zl.j2 (k + 1) y0 y1 y2 y3 y4 y5 y6 y7 y8 y9 y10 y11))
 | 0 => ⟨fun _ _ _ _ _ _ _ _ _ _ _ r h => by simp [Zl.l0] at h,fun _ _ _ _ _ _ _ _ _ _ _ r h => by simp [Zl.l1] at h,fun _ _ _ _ _ _ _ _ _ _ _ _ r h => by simp [Zl.j2] at h⟩
 | k + 1 => by
  obtain ⟨ih0,ih1,ih2⟩ := Zl.Xy k
  refine ⟨?_,?_,?_⟩
  ·intro y0 y1 y2 y3 y4 y5 y6 y7 y8 y9 y10
   unfold Zl.l0
   repeat' first
   | (with_reducible exact ih0 _ _ _ _ _ _ _ _ _ _ _)
   | (with_reducible exact ih1 _ _ _ _ _ _ _ _ _ _ _)
   | (with_reducible exact ih2 _ _ _ _ _ _ _ _ _ _ _ _)
   | (with_reducible exact Jz.refl _)
   | (with_reducible exact Jz.none _)
   | (with_reducible refine Jz.ite ?_ ?_)
   | (with_reducible refine Jz.bind ?_ (fun _ => ?_))
   | exact ih0 _ _ _ _ _ _ _ _ _ _ _
   | exact ih1 _ _ _ _ _ _ _ _ _ _ _
   | exact ih2 _ _ _ _ _ _ _ _ _ _ _ _
   | exact Jz.none _
   | refine Jz.ite ?_ ?_
   | refine Jz.bind ?_ (fun _ => ?_)
  ·intro y0 y1 y2 y3 y4 y5 y6 y7 y8 y9 y10
   unfold Zl.l1
   repeat' first
   | (with_reducible exact ih0 _ _ _ _ _ _ _ _ _ _ _)
   | (with_reducible exact ih1 _ _ _ _ _ _ _ _ _ _ _)
   | (with_reducible exact ih2 _ _ _ _ _ _ _ _ _ _ _ _)
   | (with_reducible exact Jz.refl _)
   | (with_reducible exact Jz.none _)
   | (with_reducible refine Jz.ite ?_ ?_)
   | (with_reducible refine Jz.bind ?_ (fun _ => ?_))
   | exact ih0 _ _ _ _ _ _ _ _ _ _ _
   | exact ih1 _ _ _ _ _ _ _ _ _ _ _
   | exact ih2 _ _ _ _ _ _ _ _ _ _ _ _
   | exact Jz.none _
   | refine Jz.ite ?_ ?_
   | refine Jz.bind ?_ (fun _ => ?_)
  ·intro y0 y1 y2 y3 y4 y5 y6 y7 y8 y9 y10 y11
   unfold Zl.j2
   repeat' first
   | (with_reducible exact ih0 _ _ _ _ _ _ _ _ _ _ _)
   | (with_reducible exact ih1 _ _ _ _ _ _ _ _ _ _ _)
   | (with_reducible exact ih2 _ _ _ _ _ _ _ _ _ _ _ _)
   | (with_reducible exact Jz.refl _)
   | (with_reducible exact Jz.none _)
   | (with_reducible refine Jz.ite ?_ ?_)
   | (with_reducible refine Jz.bind ?_ (fun _ => ?_))
   | exact ih0 _ _ _ _ _ _ _ _ _ _ _
   | exact ih1 _ _ _ _ _ _ _ _ _ _ _
   | exact ih2 _ _ _ _ _ _ _ _ _ _ _ _
   | exact Jz.none _
   | refine Jz.ite ?_ ?_
   | refine Jz.bind ?_ (fun _ => ?_)
theorem Zl.mono : ∀ a0 a1 a2 k,Jz (Zl.f k a0 a1 a2) (Zl.f (k + 1) a0 a1 a2) := by
 intro a0 a1 a2 k
 obtain ⟨ih0,ih1,ih2⟩ := Zl.Xy k
 unfold Zl.f
 repeat' first
   | (with_reducible exact ih0 _ _ _ _ _ _ _ _ _ _ _)
   | (with_reducible exact ih1 _ _ _ _ _ _ _ _ _ _ _)
   | (with_reducible exact ih2 _ _ _ _ _ _ _ _ _ _ _ _)
   | (with_reducible exact Jz.refl _)
   | (with_reducible exact Jz.none _)
   | (with_reducible refine Jz.ite ?_ ?_)
   | (with_reducible refine Jz.bind ?_ (fun _ => ?_))
   | exact ih0 _ _ _ _ _ _ _ _ _ _ _
   | exact ih1 _ _ _ _ _ _ _ _ _ _ _
   | exact ih2 _ _ _ _ _ _ _ _ _ _ _ _
   | exact Jz.none _
   | refine Jz.ite ?_ ?_
   | refine Jz.bind ?_ (fun _ => ?_)
def Zl.T13 : Bool × List (List Nat × List Nat) := (true,[([],[]),([0],[0]),([],[]),([2],[2]),([3],[3]),([1,4,3],[1,4]),([0,1,2,3,4,5],[]),([6,5,5,0,1,2,3,4,5],[5,6])])
def Zl.B13 : List Nat := [0,1,0,4,12,31,63,127]
theorem Zl.Jfd : Uy .any (opsOf Tryz.f25 13) = Zl.T13 := by kernel_rfl
theorem Zl.Z32 : Uj Zl.T13.2 Zl.B13 = true := by kernel_rfl
set_option maxHeartbeats 8000000 in
set_option maxRecDepth 100000 in
theorem Zl.calls (k : Nat) (g : Nat) (Yh : ByteArray) (Du : Int) (Dv : Bool) (r1 : Int) (r2 : ByteArray) (r3 : ByteArray) (r4 : Bool) (r5 : List ByteArray) (r6 : ByteArray) (r7 : ByteArray) (r8 : List (Y4)) (r9 : ByteArray) (Fx : Int) (Fy : Bool) (w0 w : World) (hI : Zp w0 w g Yh Du Dv) (hB : Below w0.heap.size w0 w) (h : Zl.f k Yh Du Dv = some (r1,r2,r3,r4,r5,r6,r7,r8,r9,Fx,Fy)) (Gw : Dt w0 := by first | exact Gw | exact Dt.step Gw (by repeat (first | (with_reducible first | exact HB.out | apply Z4 | apply Zr | apply Zz | refine Z8 ?_ (Za.out (by assumption))) | exact HB.out))) (Ue : Yg w0 := by first | exact Ue | exact Yg.step Ue (by repeat (first | (with_reducible first | exact HB.out | apply Z4 | apply Zr | apply Zz | refine Z8 ?_ (Za.out (by assumption))) | exact HB.out))) (Hf : Qs w0 := by first | exact Hf | exact Qs.step Hf (by repeat (first | (with_reducible first | exact HB.out | apply Z4 | apply Zr | apply Zz | refine Z8 ?_ (Za.out (by assumption))) | exact HB.out))) :
  Calls Tryz.prog 25 #[.pointer (some ⟨g,0,none⟩)] w fun e w' => ∃ v4_ v7_ : Value,e = .returned (.agg #[.int .i64 r1,.string r2,.string r3,.bool r4,v4_,.string r6,.string r7,v7_]) ∧ Kd.R Kd.string 9 w' w.heap.size (fun _ => True) v4_ r5 ∧ Kd.R k44 44 w' w.heap.size (fun _ => True) v7_ r8 ∧ Zp w0 w' g r9 Fx Fy ∧ Below w0.heap.size w0 w' ∧ Ja w w' g none := by
 have Z0x := Tryz.underlying29
 have Z0h := Tryz.underlying44
 have HI0 := Za.mk hI
 have HK := Za.mk (Ja.refl w g none)
 have HL := Za.mk hB.size
 clear hI
 have HW0 := Za.mk hB.size
 have HB := Za.mk hB
 clear hB
 have H : ((Zq.f Yh Du Dv).bind fun U6 => (if U6.1.toList = ([97] : List UInt8) then ((Zq.f U6.2.1 U6.2.2.1 U6.2.2.2).bind fun H9 => ((Zq.f H9.2.1 H9.2.2.1 H9.2.2.2).bind fun Yu => (if Yu.2.2.2 = true then ((Zq.f Yu.2.1 Yu.2.2.1 true).bind fun U7 => (some (0,H9.1,U7.1,(Yu.1.toList == ([49] : List UInt8)),([] : List ByteArray),(⟨#[]⟩ : ByteArray),(⟨#[]⟩ : ByteArray),([] : List (Y4)),U7.2.1,U7.2.2.1,U7.2.2.2))) else (if Yu.1.toList = ([48] : List UInt8) then ((Zq.f Yu.2.1 Yu.2.2.1 false).bind fun U8 => (some (0,H9.1,U8.1,(Yu.1.toList == ([49] : List UInt8)),([] : List ByteArray),(⟨#[]⟩ : ByteArray),(⟨#[]⟩ : ByteArray),([] : List (Y4)),U8.2.1,U8.2.2.1,U8.2.2.2))) else ((Zq.f Yu.2.1 Yu.2.2.1 (Yu.1.toList != ([49] : List UInt8))).bind fun U9 => (some (0,H9.1,U9.1,(Yu.1.toList == ([49] : List UInt8)),([] : List ByteArray),(⟨#[]⟩ : ByteArray),(⟨#[]⟩ : ByteArray),([] : List (Y4)),U9.2.1,U9.2.2.1,U9.2.2.2))))))) else (if U6.1.toList = ([99] : List UInt8) then ((Zq.f U6.2.1 U6.2.2.1 U6.2.2.2).bind fun kg => ((Jv.f kg.2.1 kg.2.2.1 kg.2.2.2).bind fun M9 => (Zl.l0 k M9.1 M9.2.1 M9.2.2.1 M9.2.2.2 1 kg.1 (⟨#[]⟩ : ByteArray) false ([] : List ByteArray) (⟨#[]⟩ : ByteArray) (⟨#[]⟩ : ByteArray)))) else (if U6.1.toList = ([113] : List UInt8) then ((Zq.f U6.2.1 U6.2.2.1 U6.2.2.2).bind fun ko => ((Zq.f ko.2.1 ko.2.2.1 ko.2.2.2).bind fun Na => ((Jv.f Na.2.1 Na.2.2.1 Na.2.2.2).bind fun Fa => (Zl.l1 k Fa.1 Fa.2.1 Fa.2.2.1 Fa.2.2.2 2 (⟨#[]⟩ : ByteArray) (⟨#[]⟩ : ByteArray) false ko.1 Na.1 ([] : List (Y4)))))) else (some (0,(⟨#[]⟩ : ByteArray),(⟨#[]⟩ : ByteArray),false,([] : List ByteArray),(⟨#[]⟩ : ByteArray),(⟨#[]⟩ : ByteArray),([] : List (Y4)),U6.2.1,U6.2.2.1,true)))))) = some (r1,r2,r3,r4,r5,r6,r7,r8,r9,Fx,Fy) := h
 clear h
 replace H := Option.bind_eq_some_iff.mp H
 obtain ⟨⟨Ty,Zft,Zfu,Zi8⟩,A20,H⟩ := H
 replace H : (if Ty.toList = ([97] : List UInt8) then ((Zq.f Zft Zfu Zi8).bind fun H9 => ((Zq.f H9.2.1 H9.2.2.1 H9.2.2.2).bind fun Yu => (if Yu.2.2.2 = true then ((Zq.f Yu.2.1 Yu.2.2.1 true).bind fun U7 => (some (0,H9.1,U7.1,(Yu.1.toList == ([49] : List UInt8)),([] : List ByteArray),(⟨#[]⟩ : ByteArray),(⟨#[]⟩ : ByteArray),([] : List (Y4)),U7.2.1,U7.2.2.1,U7.2.2.2))) else (if Yu.1.toList = ([48] : List UInt8) then ((Zq.f Yu.2.1 Yu.2.2.1 false).bind fun U8 => (some (0,H9.1,U8.1,(Yu.1.toList == ([49] : List UInt8)),([] : List ByteArray),(⟨#[]⟩ : ByteArray),(⟨#[]⟩ : ByteArray),([] : List (Y4)),U8.2.1,U8.2.2.1,U8.2.2.2))) else ((Zq.f Yu.2.1 Yu.2.2.1 (Yu.1.toList != ([49] : List UInt8))).bind fun U9 => (some (0,H9.1,U9.1,(Yu.1.toList == ([49] : List UInt8)),([] : List ByteArray),(⟨#[]⟩ : ByteArray),(⟨#[]⟩ : ByteArray),([] : List (Y4)),U9.2.1,U9.2.2.1,U9.2.2.2))))))) else (if Ty.toList = ([99] : List UInt8) then ((Zq.f Zft Zfu Zi8).bind fun kg => ((Jv.f kg.2.1 kg.2.2.1 kg.2.2.2).bind fun M9 => (Zl.l0 k M9.1 M9.2.1 M9.2.2.1 M9.2.2.2 1 kg.1 (⟨#[]⟩ : ByteArray) false ([] : List ByteArray) (⟨#[]⟩ : ByteArray) (⟨#[]⟩ : ByteArray)))) else (if Ty.toList = ([113] : List UInt8) then ((Zq.f Zft Zfu Zi8).bind fun ko => ((Zq.f ko.2.1 ko.2.2.1 ko.2.2.2).bind fun Na => ((Jv.f Na.2.1 Na.2.2.1 Na.2.2.2).bind fun Fa => (Zl.l1 k Fa.1 Fa.2.1 Fa.2.2.1 Fa.2.2.2 2 (⟨#[]⟩ : ByteArray) (⟨#[]⟩ : ByteArray) false ko.1 Na.1 ([] : List (Y4)))))) else (some (0,(⟨#[]⟩ : ByteArray),(⟨#[]⟩ : ByteArray),false,([] : List ByteArray),(⟨#[]⟩ : ByteArray),(⟨#[]⟩ : ByteArray),([] : List (Y4)),Zft,Zfu,true))))) = some (r1,r2,r3,r4,r5,r6,r7,r8,r9,Fx,Fy) := H
 have A2 := Za.mk A20
 clear A20
 by_cases c3 : Ty.toList = ([97] : List UInt8)
 ·rw [if_pos c3] at H
  have ww : (Ty.toList == ([97] : List UInt8)) = true := beq_iff_eq.mpr c3
  have Zg1 : (Ty.toList != ([97] : List UInt8)) = false := bne_eq_false_iff_eq.mpr c3
  clear c3
  replace H := Option.bind_eq_some_iff.mp H
  obtain ⟨⟨Q4,Zw9,Zxa,Zxb⟩,A40,H⟩ := H
  replace H : ((Zq.f Zw9 Zxa Zxb).bind fun Yu => (if Yu.2.2.2 = true then ((Zq.f Yu.2.1 Yu.2.2.1 true).bind fun U7 => (some (0,Q4,U7.1,(Yu.1.toList == ([49] : List UInt8)),([] : List ByteArray),(⟨#[]⟩ : ByteArray),(⟨#[]⟩ : ByteArray),([] : List (Y4)),U7.2.1,U7.2.2.1,U7.2.2.2))) else (if Yu.1.toList = ([48] : List UInt8) then ((Zq.f Yu.2.1 Yu.2.2.1 false).bind fun U8 => (some (0,Q4,U8.1,(Yu.1.toList == ([49] : List UInt8)),([] : List ByteArray),(⟨#[]⟩ : ByteArray),(⟨#[]⟩ : ByteArray),([] : List (Y4)),U8.2.1,U8.2.2.1,U8.2.2.2))) else ((Zq.f Yu.2.1 Yu.2.2.1 (Yu.1.toList != ([49] : List UInt8))).bind fun U9 => (some (0,Q4,U9.1,(Yu.1.toList == ([49] : List UInt8)),([] : List ByteArray),(⟨#[]⟩ : ByteArray),(⟨#[]⟩ : ByteArray),([] : List (Y4)),U9.2.1,U9.2.2.1,U9.2.2.2)))))) = some (r1,r2,r3,r4,r5,r6,r7,r8,r9,Fx,Fy) := H
  have A4 := Za.mk A40
  clear A40
  replace H := Option.bind_eq_some_iff.mp H
  obtain ⟨⟨Wh,Zlb,Zlc,Jxw⟩,A50,H⟩ := H
  replace H : (if Jxw = true then ((Zq.f Zlb Zlc true).bind fun U7 => (some (0,Q4,U7.1,(Wh.toList == ([49] : List UInt8)),([] : List ByteArray),(⟨#[]⟩ : ByteArray),(⟨#[]⟩ : ByteArray),([] : List (Y4)),U7.2.1,U7.2.2.1,U7.2.2.2))) else (if Wh.toList = ([48] : List UInt8) then ((Zq.f Zlb Zlc false).bind fun U8 => (some (0,Q4,U8.1,(Wh.toList == ([49] : List UInt8)),([] : List ByteArray),(⟨#[]⟩ : ByteArray),(⟨#[]⟩ : ByteArray),([] : List (Y4)),U8.2.1,U8.2.2.1,U8.2.2.2))) else ((Zq.f Zlb Zlc (Wh.toList != ([49] : List UInt8))).bind fun U9 => (some (0,Q4,U9.1,(Wh.toList == ([49] : List UInt8)),([] : List ByteArray),(⟨#[]⟩ : ByteArray),(⟨#[]⟩ : ByteArray),([] : List (Y4)),U9.2.1,U9.2.2.1,U9.2.2.2))))) = some (r1,r2,r3,r4,r5,r6,r7,r8,r9,Fx,Fy) := H
  have A5 := Za.mk A50
  clear A50
  by_cases c6 : Jxw = true
  ·subst c6
   have H1 : ((Zq.f Zlb Zlc true).bind fun U7 => (some (0,Q4,U7.1,(Wh.toList == ([49] : List UInt8)),([] : List ByteArray),(⟨#[]⟩ : ByteArray),(⟨#[]⟩ : ByteArray),([] : List (Y4)),U7.2.1,U7.2.2.1,U7.2.2.2))) = some (r1,r2,r3,r4,r5,r6,r7,r8,r9,Fx,Fy) := by rw [if_pos rfl] at H;exact H
   clear H
   have H := H1
   clear H1
   replace H := Option.bind_eq_some_iff.mp H
   obtain ⟨⟨Z1o,Jxx,Jxy,Jxz⟩,A70,H⟩ := H
   replace H : (some (0,Q4,Z1o,(Wh.toList == ([49] : List UInt8)),([] : List ByteArray),(⟨#[]⟩ : ByteArray),(⟨#[]⟩ : ByteArray),([] : List (Y4)),Jxx,Jxy,Jxz)) = some (r1,r2,r3,r4,r5,r6,r7,r8,r9,Fx,Fy) := H
   have A7 := Za.mk A70
   clear A70
   simp only [Option.some.injEq,Prod.mk.injEq] at H
   obtain ⟨rfl,rfl,rfl,rfl,rfl,rfl,rfl,rfl,rfl,rfl,rfl⟩ := H
   go_enter Tryz.func25,Tryz.ntmps25
   go_wp2_with (first | ((with_reducible refine Jg (N := 2) rfl ?_);(try (refine Jr (by rfl) ?_;dsimp only));refine Je ?hg (N := 2) ?hd (cs := #[.int .i64 0,.string (⟨#[]⟩ : ByteArray),.string (⟨#[]⟩ : ByteArray),.bool false,.slice none 0 0,.string (⟨#[]⟩ : ByteArray),.string (⟨#[]⟩ : ByteArray),.slice none 0 0]) (t := 29) ?hr ?_;(case hd => rfl);(case hg => rfl);(case hr => exact Q0);intro Jw hg w8 hbox hb;replace HB := Za.mk (Zm Jcn hb);have Vi := Za.mk (hbox);have Zfh := Za.mk ((Zmq : w.heap.size ≤ Jw));have jo := Za.mk ((Nat.le_trans HW0.out (Zmq : w.heap.size ≤ Jw) : w0.heap.size ≤ Jw));replace HK := Za.mk (Ja.trans Qg (Ja.of_below hb g none) (.inl rfl));have V7 := Za.mk ((by rw [hg];exact Nat.ne_of_lt (Zp.lt (show Zp w0 _ g Yh Du Dv from by repeat (first | (with_reducible first | exact HI0.out | apply Zp.alloc | apply Zp.drewN | apply Zp.drew | apply Zp.Y9 | apply Zp.Y6 | apply Zp.Y7) | exact HI0.out))) : g ≠ Jw));have Vp := Za.mk ((by rw [hg];exact Nat.ne_of_gt (Zp.lt (show Zp w0 _ g Yh Du Dv from by repeat (first | (with_reducible first | exact HI0.out | apply Zp.alloc | apply Zp.drewN | apply Zp.drew | apply Zp.Y9 | apply Zp.Y6 | apply Zp.Y7) | exact HI0.out))) : Jw ≠ g));replace HI0 := Za.mk (Zp.below Jcm hb);clear hb hbox hg) | ((with_reducible refine Z7 (f := 35) rfl ?_);refine Ju (some 12) rfl rfl Tryz.func35 (by kernel_rfl) rfl #[.pointer (some ⟨g,0,none⟩)] rfl Yb ?_;(with_reducible refine (Zq.calls g Yh Du Dv Ty Zft Zfu Zi8 w0 _ ?side1 ?side2 A2.out).mono ?_);(case side1 => exact u1_);(case side2 => exact u2_);rintro e w9 ⟨rfl,hi,hb,hk⟩;refine ⟨_,rfl,?_⟩;replace Vi := Za.mk (Ja.blk hk (g' := Jw) (o := .cells #[.int .i64 0,.string (⟨#[]⟩ : ByteArray),.string (⟨#[]⟩ : ByteArray),.bool false,.slice none 0 0,.string (⟨#[]⟩ : ByteArray),.string (⟨#[]⟩ : ByteArray),.slice none 0 0] 29 (0,0)) J5 Vp.out (by simp));replace HK := Za.mk (Ja.trans Vz hk (.inl rfl));replace HB := Za.mk (hb);replace HI0 := Za.mk (hi);(try clear hb);(try clear hb2);(try clear hk);(try clear hi)) | ((with_reducible refine Z7 (f := 35) rfl ?_);refine Ju (some 16) rfl rfl Tryz.func35 (by kernel_rfl) rfl #[.pointer (some ⟨g,0,none⟩)] rfl Yb ?_;(with_reducible refine (Zq.calls g Zft Zfu Zi8 Q4 Zw9 Zxa Zxb w0 _ ?side1 ?side2 A4.out).mono ?_);(case side1 => exact u1_);(case side2 => exact u2_);rintro e w10 ⟨rfl,hi,hb,hk⟩;refine ⟨_,rfl,?_⟩;replace Vi := Za.mk (Ja.blk hk (g' := Jw) (o := .cells #[.int .i64 0,.string (⟨#[]⟩ : ByteArray),.string (⟨#[]⟩ : ByteArray),.bool false,.slice none 0 0,.string (⟨#[]⟩ : ByteArray),.string (⟨#[]⟩ : ByteArray),.slice none 0 0] 29 (0,0)) J5 Vp.out (by simp));replace HK := Za.mk (Ja.trans Vz hk (.inl rfl));replace HB := Za.mk (hb);replace HI0 := Za.mk (hi);(try clear hb);(try clear hb2);(try clear hk);(try clear hi)) | ((with_reducible refine Jg (N := 3) rfl ?_);(try (refine Jr (by rfl) ?_;dsimp only));refine Je ?hg (N := 3) ?hd (cs := #[.int .i64 0,.string (⟨#[]⟩ : ByteArray),.string (⟨#[]⟩ : ByteArray),.bool false,.slice none 0 0,.string (⟨#[]⟩ : ByteArray),.string (⟨#[]⟩ : ByteArray),.slice none 0 0]) (t := 29) ?hr ?_;(case hd => rfl);(case hg => rfl);(case hr => exact Q0);intro Ka hg w11 hbox hb;replace HB := Za.mk (Zm Jcl hb);have M8 := Za.mk (hbox);have Jf4 := Za.mk ((Zs9 : w.heap.size ≤ Ka));have Z74 := Za.mk ((Nat.le_trans HW0.out (Zs9 : w.heap.size ≤ Ka) : w0.heap.size ≤ Ka));replace HK := Za.mk (Ja.trans Vz (Ja.of_below hb g none) (.inl rfl));have Xt := Za.mk ((Pd : Jw ≠ Ka));have dw := Za.mk ((je : Ka ≠ Jw));replace Vi := Za.mk (Zw (g := Jw) (o := .cells #[.int .i64 0,.string (⟨#[]⟩ : ByteArray),.string (⟨#[]⟩ : ByteArray),.bool false,.slice none 0 0,.string (⟨#[]⟩ : ByteArray),.string (⟨#[]⟩ : ByteArray),.slice none 0 0] 29 (0,0)) J5 hb);have rz := Za.mk ((Jqd : g ≠ Ka));have G8 := Za.mk ((Jqe : Ka ≠ g));replace HI0 := Za.mk (Zp.below Jcj hb);clear hb hbox hg;have Vhn := dw.out;have Vho := Xt.out;have Vhp := G8.out;have Vhq := rz.out;obtain ⟨Zgc,Zgd,Zge,Zxm,Zxn,Zxo,Zxp,Zxq,Zgf,Zgg,Zgh,Zxr,Zxs,Zxt,Zxu,Zxv⟩ := Jf M8.out) | ((with_reducible refine Z7 (f := 35) rfl ?_);refine Ju (some 19) rfl rfl Tryz.func35 (by kernel_rfl) rfl #[.pointer (some ⟨g,0,none⟩)] rfl Yb ?_;(with_reducible refine (Zq.calls g Zw9 Zxa Zxb Wh Zlb Zlc true w0 _ ?side1 ?side2 A5.out).mono ?_);(case side1 => exact u3_);(case side2 => exact u4_);rintro e w15 ⟨rfl,hi,hb,hk⟩;refine ⟨_,rfl,?_⟩;replace Vi := Za.mk (Ja.blk hk (g' := Jw) (o := .cells #[.int .i64 0,.string (⟨#[]⟩ : ByteArray),.string (⟨#[]⟩ : ByteArray),.bool false,.slice none 0 0,.string (⟨#[]⟩ : ByteArray),.string (⟨#[]⟩ : ByteArray),.slice none 0 0] 29 (0,0)) Dx Vp.out (by simp));replace M8 := Za.mk (Ja.blk hk (g' := Ka) (o := .cells #[.int .i64 0,.string Q4,.string (⟨#[]⟩ : ByteArray),.bool false,.slice none 0 0,.string (⟨#[]⟩ : ByteArray),.string (⟨#[]⟩ : ByteArray),.slice none 0 0] 29 (0,0)) Vh G8.out (by simp));replace HK := Za.mk (Ja.trans Qy hk (.inl rfl));replace HB := Za.mk (hb);replace HI0 := Za.mk (hi);(try clear hb);(try clear hb2);(try clear hk);(try clear hi);obtain ⟨Zr9,Jx0⟩ := HI0.out;have Rt := Xg Zr9;have Ru := Xh Zr9;have Rv := Xi Zr9;have Rw := Zj Zr9 0;have Rx := Zj Zr9 1;have Ry := Zj Zr9 2;clear Zr9 Jx0;obtain ⟨Ra,Rb,Rc,qi,qj,ql,qm,qo,Re,Rf,Rh,qp,qw,qx,qy,qz⟩ := Jf M8.out) | ((with_reducible refine Z7 (f := 35) rfl ?_);refine Ju (some 39) rfl rfl Tryz.func35 (by kernel_rfl) rfl #[.pointer (some ⟨g,0,none⟩)] rfl Yb ?_;(with_reducible refine (Zq.calls g Zlb Zlc true Z1o Jxx Jxy Jxz w0 _ ?side1 ?side2 A7.out).mono ?_);(case side1 => exact u3_);(case side2 => exact u4_);rintro e w18 ⟨rfl,hi,hb,hk⟩;refine ⟨_,rfl,?_⟩;replace Vi := Za.mk (Ja.blk hk (g' := Jw) (o := .cells #[.int .i64 0,.string (⟨#[]⟩ : ByteArray),.string (⟨#[]⟩ : ByteArray),.bool false,.slice none 0 0,.string (⟨#[]⟩ : ByteArray),.string (⟨#[]⟩ : ByteArray),.slice none 0 0] 29 (0,0)) Jqc Vp.out (by simp));replace M8 := Za.mk (Ja.blk hk (g' := Ka) (o := .cells #[.int .i64 0,.string Q4,.string (⟨#[]⟩ : ByteArray),.bool (Wh.toList == ([49] : List UInt8)),.slice none 0 0,.string (⟨#[]⟩ : ByteArray),.string (⟨#[]⟩ : ByteArray),.slice none 0 0] 29 (0,0)) Jqb G8.out (by simp));replace HK := Za.mk (Ja.trans Qy hk (.inl rfl));replace HB := Za.mk (hb);replace HI0 := Za.mk (hi);(try clear hb);(try clear hb2);(try clear hk);(try clear hi);obtain ⟨Zdj,Zdk,Zdl,Zxw,Zxx,Zxy,Zxz,Zx0,Zdm,Zdn,Zdo,Zx1,Zx2,Zx3,Zx4,Zx5⟩ := Jf M8.out;have Jl1 := Vp.out;have Jl2 := V7.out;obtain ⟨Lp,Lr,Ls,Lt,Lu,Lv,Lx,L6,L8,L9,Ma,Mc,Md,Me,Mf,Mg⟩ := Jf Vi.out))
   refine bodyPost_ret (results_cell_row rfl _ _ Jw 29 #[.int .i64 0,.string Q4,.string Z1o,.bool (Wh.toList == ([49] : List UInt8)),.slice none 0 0,.string (⟨#[]⟩ : ByteArray),.string (⟨#[]⟩ : ByteArray),.slice none 0 0] (0,0) _ rfl (by (with_reducible repeat (first | refine Zc ?_ _ | refine Zf ?_ | refine Zb ?_ _));refine Zo (cs := #[.int .i64 0,.string Q4,.string Z1o,.bool (Wh.toList == ([49] : List UInt8)),.slice none 0 0,.string (⟨#[]⟩ : ByteArray),.string (⟨#[]⟩ : ByteArray),.slice none 0 0]) ?_ 7 _ rfl;(with_reducible repeat (first | refine Zc ?_ _ | refine Zf ?_ | refine Zb ?_ _));refine Zo (cs := #[.int .i64 0,.string Q4,.string Z1o,.bool (Wh.toList == ([49] : List UInt8)),.slice none 0 0,.string (⟨#[]⟩ : ByteArray),.string (⟨#[]⟩ : ByteArray),.slice none 0 0]) ?_ 6 _ rfl;(with_reducible repeat (first | refine Zc ?_ _ | refine Zf ?_ | refine Zb ?_ _));refine Zo (cs := #[.int .i64 0,.string Q4,.string Z1o,.bool (Wh.toList == ([49] : List UInt8)),.slice none 0 0,.string (⟨#[]⟩ : ByteArray),.string (⟨#[]⟩ : ByteArray),.slice none 0 0]) ?_ 5 _ rfl;(with_reducible repeat (first | refine Zc ?_ _ | refine Zf ?_ | refine Zb ?_ _));refine Zo (cs := #[.int .i64 0,.string Q4,.string Z1o,.bool (Wh.toList == ([49] : List UInt8)),.slice none 0 0,.string (⟨#[]⟩ : ByteArray),.string (⟨#[]⟩ : ByteArray),.slice none 0 0]) ?_ 4 _ rfl;(with_reducible repeat (first | refine Zc ?_ _ | refine Zf ?_ | refine Zb ?_ _));refine Zo (cs := #[.int .i64 0,.string Q4,.string Z1o,.bool false,.slice none 0 0,.string (⟨#[]⟩ : ByteArray),.string (⟨#[]⟩ : ByteArray),.slice none 0 0]) ?_ 3 _ rfl;(with_reducible repeat (first | refine Zc ?_ _ | refine Zf ?_ | refine Zb ?_ _));refine Zo (cs := #[.int .i64 0,.string Q4,.string (⟨#[]⟩ : ByteArray),.bool false,.slice none 0 0,.string (⟨#[]⟩ : ByteArray),.string (⟨#[]⟩ : ByteArray),.slice none 0 0]) ?_ 2 _ rfl;(with_reducible repeat (first | refine Zc ?_ _ | refine Zf ?_ | refine Zb ?_ _));refine Zo (cs := #[.int .i64 0,.string (⟨#[]⟩ : ByteArray),.string (⟨#[]⟩ : ByteArray),.bool false,.slice none 0 0,.string (⟨#[]⟩ : ByteArray),.string (⟨#[]⟩ : ByteArray),.slice none 0 0]) ?_ 1 _ rfl;(with_reducible repeat (first | refine Zc ?_ _ | refine Zf ?_ | refine Zb ?_ _));refine Zo (cs := #[.int .i64 0,.string (⟨#[]⟩ : ByteArray),.string (⟨#[]⟩ : ByteArray),.bool false,.slice none 0 0,.string (⟨#[]⟩ : ByteArray),.string (⟨#[]⟩ : ByteArray),.slice none 0 0]) ?_ 0 _ rfl;(with_reducible repeat (first | refine Zc ?_ _ | refine Zf ?_ | refine Zb ?_ _));refine Jl ?_ Xt.out _;(with_reducible repeat (first | refine Zc ?_ _ | refine Zf ?_ | refine Zb ?_ _));exact Vi.out) Tryz.underlying29 rfl (by kernel_rfl)) rfl ?_
   exact ⟨_,_,Z39,Xv,Xv,Jqf,Jqg,Qy⟩
  ·replace c6 := Bool.eq_false_iff.mpr c6
   subst c6
   have H1 : (if Wh.toList = ([48] : List UInt8) then ((Zq.f Zlb Zlc false).bind fun U8 => (some (0,Q4,U8.1,(Wh.toList == ([49] : List UInt8)),([] : List ByteArray),(⟨#[]⟩ : ByteArray),(⟨#[]⟩ : ByteArray),([] : List (Y4)),U8.2.1,U8.2.2.1,U8.2.2.2))) else ((Zq.f Zlb Zlc (Wh.toList != ([49] : List UInt8))).bind fun U9 => (some (0,Q4,U9.1,(Wh.toList == ([49] : List UInt8)),([] : List ByteArray),(⟨#[]⟩ : ByteArray),(⟨#[]⟩ : ByteArray),([] : List (Y4)),U9.2.1,U9.2.2.1,U9.2.2.2)))) = some (r1,r2,r3,r4,r5,r6,r7,r8,r9,Fx,Fy) := by rw [if_neg (show ¬ (false = true) by decide)] at H;exact H
   clear H
   have H := H1
   clear H1
   by_cases Pq : Wh.toList = ([48] : List UInt8)
   ·rw [if_pos Pq] at H
    have Sn : (Wh.toList == ([48] : List UInt8)) = true := beq_iff_eq.mpr Pq
    have Ziq : (Wh.toList != ([48] : List UInt8)) = false := bne_eq_false_iff_eq.mpr Pq
    clear Pq
    replace H := Option.bind_eq_some_iff.mp H
    obtain ⟨⟨Z1p,Jx1,Jx2,Jx3⟩,Z1k,H⟩ := H
    replace H : (some (0,Q4,Z1p,(Wh.toList == ([49] : List UInt8)),([] : List ByteArray),(⟨#[]⟩ : ByteArray),(⟨#[]⟩ : ByteArray),([] : List (Y4)),Jx1,Jx2,Jx3)) = some (r1,r2,r3,r4,r5,r6,r7,r8,r9,Fx,Fy) := H
    have A23 := Za.mk Z1k
    clear Z1k
    simp only [Option.some.injEq,Prod.mk.injEq] at H
    obtain ⟨rfl,rfl,rfl,rfl,rfl,rfl,rfl,rfl,rfl,rfl,rfl⟩ := H
    go_enter Tryz.func25,Tryz.ntmps25
    go_wp2_with (first | ((with_reducible refine Jg (N := 2) rfl ?_);(try (refine Jr (by rfl) ?_;dsimp only));refine Je ?hg (N := 2) ?hd (cs := #[.int .i64 0,.string (⟨#[]⟩ : ByteArray),.string (⟨#[]⟩ : ByteArray),.bool false,.slice none 0 0,.string (⟨#[]⟩ : ByteArray),.string (⟨#[]⟩ : ByteArray),.slice none 0 0]) (t := 29) ?hr ?_;(case hd => rfl);(case hg => rfl);(case hr => exact Q0);intro Jw hg w24 hbox hb;replace HB := Za.mk (Zm Jcn hb);have Vi := Za.mk (hbox);have Zfh := Za.mk ((Zmq : w.heap.size ≤ Jw));have jo := Za.mk ((Nat.le_trans HW0.out (Zmq : w.heap.size ≤ Jw) : w0.heap.size ≤ Jw));replace HK := Za.mk (Ja.trans Qg (Ja.of_below hb g none) (.inl rfl));have V7 := Za.mk ((by rw [hg];exact Nat.ne_of_lt (Zp.lt (show Zp w0 _ g Yh Du Dv from by repeat (first | (with_reducible first | exact HI0.out | apply Zp.alloc | apply Zp.drewN | apply Zp.drew | apply Zp.Y9 | apply Zp.Y6 | apply Zp.Y7) | exact HI0.out))) : g ≠ Jw));have Vp := Za.mk ((by rw [hg];exact Nat.ne_of_gt (Zp.lt (show Zp w0 _ g Yh Du Dv from by repeat (first | (with_reducible first | exact HI0.out | apply Zp.alloc | apply Zp.drewN | apply Zp.drew | apply Zp.Y9 | apply Zp.Y6 | apply Zp.Y7) | exact HI0.out))) : Jw ≠ g));replace HI0 := Za.mk (Zp.below Jcm hb);clear hb hbox hg) | ((with_reducible refine Z7 (f := 35) rfl ?_);refine Ju (some 12) rfl rfl Tryz.func35 (by kernel_rfl) rfl #[.pointer (some ⟨g,0,none⟩)] rfl Yb ?_;(with_reducible refine (Zq.calls g Yh Du Dv Ty Zft Zfu Zi8 w0 _ ?side1 ?side2 A2.out).mono ?_);(case side1 => exact u1_);(case side2 => exact u2_);rintro e w25 ⟨rfl,hi,hb,hk⟩;refine ⟨_,rfl,?_⟩;replace Vi := Za.mk (Ja.blk hk (g' := Jw) (o := .cells #[.int .i64 0,.string (⟨#[]⟩ : ByteArray),.string (⟨#[]⟩ : ByteArray),.bool false,.slice none 0 0,.string (⟨#[]⟩ : ByteArray),.string (⟨#[]⟩ : ByteArray),.slice none 0 0] 29 (0,0)) J5 Vp.out (by simp));replace HK := Za.mk (Ja.trans Vz hk (.inl rfl));replace HB := Za.mk (hb);replace HI0 := Za.mk (hi);(try clear hb);(try clear hb2);(try clear hk);(try clear hi)) | ((with_reducible refine Z7 (f := 35) rfl ?_);refine Ju (some 16) rfl rfl Tryz.func35 (by kernel_rfl) rfl #[.pointer (some ⟨g,0,none⟩)] rfl Yb ?_;(with_reducible refine (Zq.calls g Zft Zfu Zi8 Q4 Zw9 Zxa Zxb w0 _ ?side1 ?side2 A4.out).mono ?_);(case side1 => exact u1_);(case side2 => exact u2_);rintro e w26 ⟨rfl,hi,hb,hk⟩;refine ⟨_,rfl,?_⟩;replace Vi := Za.mk (Ja.blk hk (g' := Jw) (o := .cells #[.int .i64 0,.string (⟨#[]⟩ : ByteArray),.string (⟨#[]⟩ : ByteArray),.bool false,.slice none 0 0,.string (⟨#[]⟩ : ByteArray),.string (⟨#[]⟩ : ByteArray),.slice none 0 0] 29 (0,0)) J5 Vp.out (by simp));replace HK := Za.mk (Ja.trans Vz hk (.inl rfl));replace HB := Za.mk (hb);replace HI0 := Za.mk (hi);(try clear hb);(try clear hb2);(try clear hk);(try clear hi)) | ((with_reducible refine Jg (N := 3) rfl ?_);(try (refine Jr (by rfl) ?_;dsimp only));refine Je ?hg (N := 3) ?hd (cs := #[.int .i64 0,.string (⟨#[]⟩ : ByteArray),.string (⟨#[]⟩ : ByteArray),.bool false,.slice none 0 0,.string (⟨#[]⟩ : ByteArray),.string (⟨#[]⟩ : ByteArray),.slice none 0 0]) (t := 29) ?hr ?_;(case hd => rfl);(case hg => rfl);(case hr => exact Q0);intro Ka hg w27 hbox hb;replace HB := Za.mk (Zm Jcl hb);have M8 := Za.mk (hbox);have Jf4 := Za.mk ((Zs9 : w.heap.size ≤ Ka));have Z74 := Za.mk ((Nat.le_trans HW0.out (Zs9 : w.heap.size ≤ Ka) : w0.heap.size ≤ Ka));replace HK := Za.mk (Ja.trans Vz (Ja.of_below hb g none) (.inl rfl));have Xt := Za.mk ((Pd : Jw ≠ Ka));have dw := Za.mk ((je : Ka ≠ Jw));replace Vi := Za.mk (Zw (g := Jw) (o := .cells #[.int .i64 0,.string (⟨#[]⟩ : ByteArray),.string (⟨#[]⟩ : ByteArray),.bool false,.slice none 0 0,.string (⟨#[]⟩ : ByteArray),.string (⟨#[]⟩ : ByteArray),.slice none 0 0] 29 (0,0)) J5 hb);have rz := Za.mk ((Jqd : g ≠ Ka));have G8 := Za.mk ((Jqe : Ka ≠ g));replace HI0 := Za.mk (Zp.below Jcj hb);clear hb hbox hg;have Jx4 := dw.out;have Jx5 := Xt.out;have Vhr := G8.out;have Vhs := rz.out;obtain ⟨Dy,Dz,D5,Gd,Gf,Gg,Gh,Gi,D6,D7,D8,Gj,Gl,Gm,Gn,Gp⟩ := Jf M8.out) | ((with_reducible refine Z7 (f := 35) rfl ?_);refine Ju (some 19) rfl rfl Tryz.func35 (by kernel_rfl) rfl #[.pointer (some ⟨g,0,none⟩)] rfl Yb ?_;(with_reducible refine (Zq.calls g Zw9 Zxa Zxb Wh Zlb Zlc false w0 _ ?side1 ?side2 A5.out).mono ?_);(case side1 => exact u3_);(case side2 => exact u4_);rintro e w31 ⟨rfl,hi,hb,hk⟩;refine ⟨_,rfl,?_⟩;replace Vi := Za.mk (Ja.blk hk (g' := Jw) (o := .cells #[.int .i64 0,.string (⟨#[]⟩ : ByteArray),.string (⟨#[]⟩ : ByteArray),.bool false,.slice none 0 0,.string (⟨#[]⟩ : ByteArray),.string (⟨#[]⟩ : ByteArray),.slice none 0 0] 29 (0,0)) Dx Vp.out (by simp));replace M8 := Za.mk (Ja.blk hk (g' := Ka) (o := .cells #[.int .i64 0,.string Q4,.string (⟨#[]⟩ : ByteArray),.bool false,.slice none 0 0,.string (⟨#[]⟩ : ByteArray),.string (⟨#[]⟩ : ByteArray),.slice none 0 0] 29 (0,0)) Vh G8.out (by simp));replace HK := Za.mk (Ja.trans Qy hk (.inl rfl));replace HB := Za.mk (hb);replace HI0 := Za.mk (hi);(try clear hb);(try clear hb2);(try clear hk);(try clear hi);obtain ⟨Zsa,Jx6⟩ := HI0.out;have Rz := Xg Zsa;have R3 := Xh Zsa;have R4 := Xi Zsa;have R5 := Zj Zsa 0;have R6 := Zj Zsa 1;have R7 := Zj Zsa 2;clear Zsa Jx6;obtain ⟨Uz,U0,U1,Wx,Wy,Wz,W9,Da,U2,U3,U4,Db,Dc,De,Df,Dg⟩ := Jf M8.out) | ((with_reducible refine Z7 (f := 35) rfl ?_);refine Ju (some 39) rfl rfl Tryz.func35 (by kernel_rfl) rfl #[.pointer (some ⟨g,0,none⟩)] rfl Yb ?_;(with_reducible refine (Zq.calls g Zlb Zlc false Z1p Jx1 Jx2 Jx3 w0 _ ?side1 ?side2 A23.out).mono ?_);(case side1 => exact u3_);(case side2 => exact u4_);rintro e w34 ⟨rfl,hi,hb,hk⟩;refine ⟨_,rfl,?_⟩;replace Vi := Za.mk (Ja.blk hk (g' := Jw) (o := .cells #[.int .i64 0,.string (⟨#[]⟩ : ByteArray),.string (⟨#[]⟩ : ByteArray),.bool false,.slice none 0 0,.string (⟨#[]⟩ : ByteArray),.string (⟨#[]⟩ : ByteArray),.slice none 0 0] 29 (0,0)) Jqc Vp.out (by simp));replace M8 := Za.mk (Ja.blk hk (g' := Ka) (o := .cells #[.int .i64 0,.string Q4,.string (⟨#[]⟩ : ByteArray),.bool (Wh.toList == ([49] : List UInt8)),.slice none 0 0,.string (⟨#[]⟩ : ByteArray),.string (⟨#[]⟩ : ByteArray),.slice none 0 0] 29 (0,0)) Jqb G8.out (by simp));replace HK := Za.mk (Ja.trans Qy hk (.inl rfl));replace HB := Za.mk (hb);replace HI0 := Za.mk (hi);(try clear hb);(try clear hb2);(try clear hk);(try clear hi);obtain ⟨sj,su,sw,tq,tu,Zaa,Zab,Zac,Zad,Zae,Zaf,Zag,Zah,Zai,Zaj,Zak⟩ := Jf M8.out;have Vht := Vp.out;have Vhu := V7.out;obtain ⟨mi,mo,mq,mr,ng,ni,nk,nu,ny,nz,pg,pq,pu,pz,p8,p9⟩ := Jf Vi.out))
    refine bodyPost_ret (results_cell_row rfl _ _ Jw 29 #[.int .i64 0,.string Q4,.string Z1p,.bool (Wh.toList == ([49] : List UInt8)),.slice none 0 0,.string (⟨#[]⟩ : ByteArray),.string (⟨#[]⟩ : ByteArray),.slice none 0 0] (0,0) _ rfl (by (with_reducible repeat (first | refine Zc ?_ _ | refine Zf ?_ | refine Zb ?_ _));refine Zo (cs := #[.int .i64 0,.string Q4,.string Z1p,.bool (Wh.toList == ([49] : List UInt8)),.slice none 0 0,.string (⟨#[]⟩ : ByteArray),.string (⟨#[]⟩ : ByteArray),.slice none 0 0]) ?_ 7 _ rfl;(with_reducible repeat (first | refine Zc ?_ _ | refine Zf ?_ | refine Zb ?_ _));refine Zo (cs := #[.int .i64 0,.string Q4,.string Z1p,.bool (Wh.toList == ([49] : List UInt8)),.slice none 0 0,.string (⟨#[]⟩ : ByteArray),.string (⟨#[]⟩ : ByteArray),.slice none 0 0]) ?_ 6 _ rfl;(with_reducible repeat (first | refine Zc ?_ _ | refine Zf ?_ | refine Zb ?_ _));refine Zo (cs := #[.int .i64 0,.string Q4,.string Z1p,.bool (Wh.toList == ([49] : List UInt8)),.slice none 0 0,.string (⟨#[]⟩ : ByteArray),.string (⟨#[]⟩ : ByteArray),.slice none 0 0]) ?_ 5 _ rfl;(with_reducible repeat (first | refine Zc ?_ _ | refine Zf ?_ | refine Zb ?_ _));refine Zo (cs := #[.int .i64 0,.string Q4,.string Z1p,.bool (Wh.toList == ([49] : List UInt8)),.slice none 0 0,.string (⟨#[]⟩ : ByteArray),.string (⟨#[]⟩ : ByteArray),.slice none 0 0]) ?_ 4 _ rfl;(with_reducible repeat (first | refine Zc ?_ _ | refine Zf ?_ | refine Zb ?_ _));refine Zo (cs := #[.int .i64 0,.string Q4,.string Z1p,.bool false,.slice none 0 0,.string (⟨#[]⟩ : ByteArray),.string (⟨#[]⟩ : ByteArray),.slice none 0 0]) ?_ 3 _ rfl;(with_reducible repeat (first | refine Zc ?_ _ | refine Zf ?_ | refine Zb ?_ _));refine Zo (cs := #[.int .i64 0,.string Q4,.string (⟨#[]⟩ : ByteArray),.bool false,.slice none 0 0,.string (⟨#[]⟩ : ByteArray),.string (⟨#[]⟩ : ByteArray),.slice none 0 0]) ?_ 2 _ rfl;(with_reducible repeat (first | refine Zc ?_ _ | refine Zf ?_ | refine Zb ?_ _));refine Zo (cs := #[.int .i64 0,.string (⟨#[]⟩ : ByteArray),.string (⟨#[]⟩ : ByteArray),.bool false,.slice none 0 0,.string (⟨#[]⟩ : ByteArray),.string (⟨#[]⟩ : ByteArray),.slice none 0 0]) ?_ 1 _ rfl;(with_reducible repeat (first | refine Zc ?_ _ | refine Zf ?_ | refine Zb ?_ _));refine Zo (cs := #[.int .i64 0,.string (⟨#[]⟩ : ByteArray),.string (⟨#[]⟩ : ByteArray),.bool false,.slice none 0 0,.string (⟨#[]⟩ : ByteArray),.string (⟨#[]⟩ : ByteArray),.slice none 0 0]) ?_ 0 _ rfl;(with_reducible repeat (first | refine Zc ?_ _ | refine Zf ?_ | refine Zb ?_ _));refine Jl ?_ Xt.out _;(with_reducible repeat (first | refine Zc ?_ _ | refine Zf ?_ | refine Zb ?_ _));exact Vi.out) Tryz.underlying29 rfl (by kernel_rfl)) rfl ?_
    exact ⟨_,_,Z39,Xv,Xv,Jqf,Jqg,Qy⟩
   ·rw [if_neg Pq] at H
    have Sn : (Wh.toList == ([48] : List UInt8)) = false := beq_eq_false_iff_ne.mpr Pq
    have Ziq : (Wh.toList != ([48] : List UInt8)) = true := bne_iff_ne.mpr Pq
    replace H := Option.bind_eq_some_iff.mp H
    obtain ⟨⟨Zx6,Jqi,Jqj,Jqk⟩,Zqs,H⟩ := H
    replace H : (some (0,Q4,Zx6,(Wh.toList == ([49] : List UInt8)),([] : List ByteArray),(⟨#[]⟩ : ByteArray),(⟨#[]⟩ : ByteArray),([] : List (Y4)),Jqi,Jqj,Jqk)) = some (r1,r2,r3,r4,r5,r6,r7,r8,r9,Fx,Fy) := H
    have A38 := Za.mk Zqs
    clear Zqs
    simp only [Option.some.injEq,Prod.mk.injEq] at H
    obtain ⟨rfl,rfl,rfl,rfl,rfl,rfl,rfl,rfl,rfl,rfl,rfl⟩ := H
    have Aq := Za.mk (show Zq.f Zlb Zlc (!(Wh.toList == ([49] : List UInt8))) = some (Zx6,Jqi,Jqj,Jqk) from A38.out)
    go_enter Tryz.func25,Tryz.ntmps25
    go_wp2_with (first | ((with_reducible refine Jg (N := 2) rfl ?_);(try (refine Jr (by rfl) ?_;dsimp only));refine Je ?hg (N := 2) ?hd (cs := #[.int .i64 0,.string (⟨#[]⟩ : ByteArray),.string (⟨#[]⟩ : ByteArray),.bool false,.slice none 0 0,.string (⟨#[]⟩ : ByteArray),.string (⟨#[]⟩ : ByteArray),.slice none 0 0]) (t := 29) ?hr ?_;(case hd => rfl);(case hg => rfl);(case hr => exact Q0);intro Jw hg w39 hbox hb;replace HB := Za.mk (Zm Jcn hb);have Vi := Za.mk (hbox);have Zfh := Za.mk ((Zmq : w.heap.size ≤ Jw));have jo := Za.mk ((Nat.le_trans HW0.out (Zmq : w.heap.size ≤ Jw) : w0.heap.size ≤ Jw));replace HK := Za.mk (Ja.trans Qg (Ja.of_below hb g none) (.inl rfl));have V7 := Za.mk ((by rw [hg];exact Nat.ne_of_lt (Zp.lt (show Zp w0 _ g Yh Du Dv from by repeat (first | (with_reducible first | exact HI0.out | apply Zp.alloc | apply Zp.drewN | apply Zp.drew | apply Zp.Y9 | apply Zp.Y6 | apply Zp.Y7) | exact HI0.out))) : g ≠ Jw));have Vp := Za.mk ((by rw [hg];exact Nat.ne_of_gt (Zp.lt (show Zp w0 _ g Yh Du Dv from by repeat (first | (with_reducible first | exact HI0.out | apply Zp.alloc | apply Zp.drewN | apply Zp.drew | apply Zp.Y9 | apply Zp.Y6 | apply Zp.Y7) | exact HI0.out))) : Jw ≠ g));replace HI0 := Za.mk (Zp.below Jcm hb);clear hb hbox hg) | ((with_reducible refine Z7 (f := 35) rfl ?_);refine Ju (some 12) rfl rfl Tryz.func35 (by kernel_rfl) rfl #[.pointer (some ⟨g,0,none⟩)] rfl Yb ?_;(with_reducible refine (Zq.calls g Yh Du Dv Ty Zft Zfu Zi8 w0 _ ?side1 ?side2 A2.out).mono ?_);(case side1 => exact u1_);(case side2 => exact u2_);rintro e w40 ⟨rfl,hi,hb,hk⟩;refine ⟨_,rfl,?_⟩;replace Vi := Za.mk (Ja.blk hk (g' := Jw) (o := .cells #[.int .i64 0,.string (⟨#[]⟩ : ByteArray),.string (⟨#[]⟩ : ByteArray),.bool false,.slice none 0 0,.string (⟨#[]⟩ : ByteArray),.string (⟨#[]⟩ : ByteArray),.slice none 0 0] 29 (0,0)) J5 Vp.out (by simp));replace HK := Za.mk (Ja.trans Vz hk (.inl rfl));replace HB := Za.mk (hb);replace HI0 := Za.mk (hi);(try clear hb);(try clear hb2);(try clear hk);(try clear hi)) | ((with_reducible refine Z7 (f := 35) rfl ?_);refine Ju (some 16) rfl rfl Tryz.func35 (by kernel_rfl) rfl #[.pointer (some ⟨g,0,none⟩)] rfl Yb ?_;(with_reducible refine (Zq.calls g Zft Zfu Zi8 Q4 Zw9 Zxa Zxb w0 _ ?side1 ?side2 A4.out).mono ?_);(case side1 => exact u1_);(case side2 => exact u2_);rintro e w41 ⟨rfl,hi,hb,hk⟩;refine ⟨_,rfl,?_⟩;replace Vi := Za.mk (Ja.blk hk (g' := Jw) (o := .cells #[.int .i64 0,.string (⟨#[]⟩ : ByteArray),.string (⟨#[]⟩ : ByteArray),.bool false,.slice none 0 0,.string (⟨#[]⟩ : ByteArray),.string (⟨#[]⟩ : ByteArray),.slice none 0 0] 29 (0,0)) J5 Vp.out (by simp));replace HK := Za.mk (Ja.trans Vz hk (.inl rfl));replace HB := Za.mk (hb);replace HI0 := Za.mk (hi);(try clear hb);(try clear hb2);(try clear hk);(try clear hi)) | ((with_reducible refine Jg (N := 3) rfl ?_);(try (refine Jr (by rfl) ?_;dsimp only));refine Je ?hg (N := 3) ?hd (cs := #[.int .i64 0,.string (⟨#[]⟩ : ByteArray),.string (⟨#[]⟩ : ByteArray),.bool false,.slice none 0 0,.string (⟨#[]⟩ : ByteArray),.string (⟨#[]⟩ : ByteArray),.slice none 0 0]) (t := 29) ?hr ?_;(case hd => rfl);(case hg => rfl);(case hr => exact Q0);intro Ka hg w42 hbox hb;replace HB := Za.mk (Zm Jcl hb);have M8 := Za.mk (hbox);have Jf4 := Za.mk ((Zs9 : w.heap.size ≤ Ka));have Z74 := Za.mk ((Nat.le_trans HW0.out (Zs9 : w.heap.size ≤ Ka) : w0.heap.size ≤ Ka));replace HK := Za.mk (Ja.trans Vz (Ja.of_below hb g none) (.inl rfl));have Xt := Za.mk ((Pd : Jw ≠ Ka));have dw := Za.mk ((je : Ka ≠ Jw));replace Vi := Za.mk (Zw (g := Jw) (o := .cells #[.int .i64 0,.string (⟨#[]⟩ : ByteArray),.string (⟨#[]⟩ : ByteArray),.bool false,.slice none 0 0,.string (⟨#[]⟩ : ByteArray),.string (⟨#[]⟩ : ByteArray),.slice none 0 0] 29 (0,0)) J5 hb);have rz := Za.mk ((Jqd : g ≠ Ka));have G8 := Za.mk ((Jqe : Ka ≠ g));replace HI0 := Za.mk (Zp.below Jcj hb);clear hb hbox hg;have Vhv := dw.out;have Vhw := Xt.out;have Vhx := G8.out;have Vhy := rz.out;obtain ⟨yh,yj,yl,ym,yn,yo,yt,yu,yw,yx,yz,xc,xe,xg,xh,xk⟩ := Jf M8.out) | ((with_reducible refine Z7 (f := 35) rfl ?_);refine Ju (some 19) rfl rfl Tryz.func35 (by kernel_rfl) rfl #[.pointer (some ⟨g,0,none⟩)] rfl Yb ?_;(with_reducible refine (Zq.calls g Zw9 Zxa Zxb Wh Zlb Zlc false w0 _ ?side1 ?side2 A5.out).mono ?_);(case side1 => exact u3_);(case side2 => exact u4_);rintro e w46 ⟨rfl,hi,hb,hk⟩;refine ⟨_,rfl,?_⟩;replace Vi := Za.mk (Ja.blk hk (g' := Jw) (o := .cells #[.int .i64 0,.string (⟨#[]⟩ : ByteArray),.string (⟨#[]⟩ : ByteArray),.bool false,.slice none 0 0,.string (⟨#[]⟩ : ByteArray),.string (⟨#[]⟩ : ByteArray),.slice none 0 0] 29 (0,0)) Dx Vp.out (by simp));replace M8 := Za.mk (Ja.blk hk (g' := Ka) (o := .cells #[.int .i64 0,.string Q4,.string (⟨#[]⟩ : ByteArray),.bool false,.slice none 0 0,.string (⟨#[]⟩ : ByteArray),.string (⟨#[]⟩ : ByteArray),.slice none 0 0] 29 (0,0)) Vh G8.out (by simp));replace HK := Za.mk (Ja.trans Qy hk (.inl rfl));replace HB := Za.mk (hb);replace HI0 := Za.mk (hi);(try clear hb);(try clear hb2);(try clear hk);(try clear hi);obtain ⟨Zsb,Jx7⟩ := HI0.out;have S9 := Xg Zsb;have Ta := Xh Zsb;have Tc := Xi Zsb;have Td := Zj Zsb 0;have Te := Zj Zsb 1;have Tf := Zj Zsb 2;clear Zsb Jx7;obtain ⟨Zg8,Zg9,Zha,Zns,Znt,Znu,Znv,Znw,Zhb,Zhc,Zhd,Znx,Zny,Znz,Zn0,Zn1⟩ := Jf M8.out) | ((with_reducible refine Z7 (f := 35) rfl ?_);refine Ju (some 39) rfl rfl Tryz.func35 (by kernel_rfl) rfl #[.pointer (some ⟨g,0,none⟩)] rfl Yb ?_;(with_reducible refine (Zq.calls g Zlb Zlc (!(Wh.toList == ([49] : List UInt8))) Zx6 Jqi Jqj Jqk w0 _ ?side1 ?side2 Aq.out).mono ?_);(case side1 => exact u3_);(case side2 => exact u4_);rintro e w49 ⟨rfl,hi,hb,hk⟩;refine ⟨_,rfl,?_⟩;replace Vi := Za.mk (Ja.blk hk (g' := Jw) (o := .cells #[.int .i64 0,.string (⟨#[]⟩ : ByteArray),.string (⟨#[]⟩ : ByteArray),.bool false,.slice none 0 0,.string (⟨#[]⟩ : ByteArray),.string (⟨#[]⟩ : ByteArray),.slice none 0 0] 29 (0,0)) Jqc Vp.out (by simp));replace M8 := Za.mk (Ja.blk hk (g' := Ka) (o := .cells #[.int .i64 0,.string Q4,.string (⟨#[]⟩ : ByteArray),.bool (Wh.toList == ([49] : List UInt8)),.slice none 0 0,.string (⟨#[]⟩ : ByteArray),.string (⟨#[]⟩ : ByteArray),.slice none 0 0] 29 (0,0)) Jqb G8.out (by simp));replace HK := Za.mk (Ja.trans Qy hk (.inl rfl));replace HB := Za.mk (hb);replace HI0 := Za.mk (hi);(try clear hb);(try clear hb2);(try clear hk);(try clear hi);obtain ⟨Zi9,Zja,Zjb,Zjc,Zjd,Zje,Zjf,Zjg,Zjh,Zji,Zjj,Zjk,Zjl,Zjm,Zjn,Zjo⟩ := Jf M8.out;have Jx8 := Vp.out;have Jx9 := V7.out;obtain ⟨q8,q9,uf,ug,uh,ui,uj,uk,ul,um,uo,uq,ut,uu,uw,uy⟩ := Jf Vi.out))
    refine bodyPost_ret (results_cell_row rfl _ _ Jw 29 #[.int .i64 0,.string Q4,.string Zx6,.bool (Wh.toList == ([49] : List UInt8)),.slice none 0 0,.string (⟨#[]⟩ : ByteArray),.string (⟨#[]⟩ : ByteArray),.slice none 0 0] (0,0) _ rfl (by (with_reducible repeat (first | refine Zc ?_ _ | refine Zf ?_ | refine Zb ?_ _));refine Zo (cs := #[.int .i64 0,.string Q4,.string Zx6,.bool (Wh.toList == ([49] : List UInt8)),.slice none 0 0,.string (⟨#[]⟩ : ByteArray),.string (⟨#[]⟩ : ByteArray),.slice none 0 0]) ?_ 7 _ rfl;(with_reducible repeat (first | refine Zc ?_ _ | refine Zf ?_ | refine Zb ?_ _));refine Zo (cs := #[.int .i64 0,.string Q4,.string Zx6,.bool (Wh.toList == ([49] : List UInt8)),.slice none 0 0,.string (⟨#[]⟩ : ByteArray),.string (⟨#[]⟩ : ByteArray),.slice none 0 0]) ?_ 6 _ rfl;(with_reducible repeat (first | refine Zc ?_ _ | refine Zf ?_ | refine Zb ?_ _));refine Zo (cs := #[.int .i64 0,.string Q4,.string Zx6,.bool (Wh.toList == ([49] : List UInt8)),.slice none 0 0,.string (⟨#[]⟩ : ByteArray),.string (⟨#[]⟩ : ByteArray),.slice none 0 0]) ?_ 5 _ rfl;(with_reducible repeat (first | refine Zc ?_ _ | refine Zf ?_ | refine Zb ?_ _));refine Zo (cs := #[.int .i64 0,.string Q4,.string Zx6,.bool (Wh.toList == ([49] : List UInt8)),.slice none 0 0,.string (⟨#[]⟩ : ByteArray),.string (⟨#[]⟩ : ByteArray),.slice none 0 0]) ?_ 4 _ rfl;(with_reducible repeat (first | refine Zc ?_ _ | refine Zf ?_ | refine Zb ?_ _));refine Zo (cs := #[.int .i64 0,.string Q4,.string Zx6,.bool false,.slice none 0 0,.string (⟨#[]⟩ : ByteArray),.string (⟨#[]⟩ : ByteArray),.slice none 0 0]) ?_ 3 _ rfl;(with_reducible repeat (first | refine Zc ?_ _ | refine Zf ?_ | refine Zb ?_ _));refine Zo (cs := #[.int .i64 0,.string Q4,.string (⟨#[]⟩ : ByteArray),.bool false,.slice none 0 0,.string (⟨#[]⟩ : ByteArray),.string (⟨#[]⟩ : ByteArray),.slice none 0 0]) ?_ 2 _ rfl;(with_reducible repeat (first | refine Zc ?_ _ | refine Zf ?_ | refine Zb ?_ _));refine Zo (cs := #[.int .i64 0,.string (⟨#[]⟩ : ByteArray),.string (⟨#[]⟩ : ByteArray),.bool false,.slice none 0 0,.string (⟨#[]⟩ : ByteArray),.string (⟨#[]⟩ : ByteArray),.slice none 0 0]) ?_ 1 _ rfl;(with_reducible repeat (first | refine Zc ?_ _ | refine Zf ?_ | refine Zb ?_ _));refine Zo (cs := #[.int .i64 0,.string (⟨#[]⟩ : ByteArray),.string (⟨#[]⟩ : ByteArray),.bool false,.slice none 0 0,.string (⟨#[]⟩ : ByteArray),.string (⟨#[]⟩ : ByteArray),.slice none 0 0]) ?_ 0 _ rfl;(with_reducible repeat (first | refine Zc ?_ _ | refine Zf ?_ | refine Zb ?_ _));refine Jl ?_ Xt.out _;(with_reducible repeat (first | refine Zc ?_ _ | refine Zf ?_ | refine Zb ?_ _));exact Vi.out) Tryz.underlying29 rfl (by kernel_rfl)) rfl ?_
    exact ⟨_,_,Z39,Xv,Xv,Jqf,Jqg,Qy⟩
 ·rw [if_neg c3] at H
  have ww : (Ty.toList == ([97] : List UInt8)) = false := beq_eq_false_iff_ne.mpr c3
  have Zg1 : (Ty.toList != ([97] : List UInt8)) = true := bne_iff_ne.mpr c3
  by_cases c53 : Ty.toList = ([99] : List UInt8)
  ·rw [if_pos c53] at H
   have Zt4 : (Ty.toList == ([99] : List UInt8)) = true := beq_iff_eq.mpr c53
   have Z75 : (Ty.toList != ([99] : List UInt8)) = false := bne_eq_false_iff_eq.mpr c53
   clear c53
   replace H := Option.bind_eq_some_iff.mp H
   obtain ⟨⟨Fp,Jf7,Jf8,Jf9⟩,Jya,H⟩ := H
   replace H : ((Jv.f Jf7 Jf8 Jf9).bind fun M9 => (Zl.l0 k M9.1 M9.2.1 M9.2.2.1 M9.2.2.2 1 Fp (⟨#[]⟩ : ByteArray) false ([] : List ByteArray) (⟨#[]⟩ : ByteArray) (⟨#[]⟩ : ByteArray))) = some (r1,r2,r3,r4,r5,r6,r7,r8,r9,Fx,Fy) := H
   have A54 := Za.mk Jya
   clear Jya
   replace H := Option.bind_eq_some_iff.mp H
   obtain ⟨⟨Jql,Jqm,Jqn,Jqo⟩,Jyb,H⟩ := H
   replace H : (Zl.l0 k Jql Jqm Jqn Jqo 1 Fp (⟨#[]⟩ : ByteArray) false ([] : List ByteArray) (⟨#[]⟩ : ByteArray) (⟨#[]⟩ : ByteArray)) = some (r1,r2,r3,r4,r5,r6,r7,r8,r9,Fx,Fy) := H
   have A55 := Za.mk Jyb
   clear Jyb
   have H' := Za.mk H
   clear H
   go_enter Tryz.func25,Tryz.ntmps25
   go_wp2_with (first | ((with_reducible refine Jg (N := 2) rfl ?_);(try (refine Jr (by rfl) ?_;dsimp only));refine Je ?hg (N := 2) ?hd (cs := #[.int .i64 0,.string (⟨#[]⟩ : ByteArray),.string (⟨#[]⟩ : ByteArray),.bool false,.slice none 0 0,.string (⟨#[]⟩ : ByteArray),.string (⟨#[]⟩ : ByteArray),.slice none 0 0]) (t := 29) ?hr ?_;(case hd => rfl);(case hg => rfl);(case hr => exact Q0);intro Jw hg w56 hbox hb;replace HB := Za.mk (Zm Jcn hb);have Vi := Za.mk (hbox);have Zfh := Za.mk ((Zmq : w.heap.size ≤ Jw));have jo := Za.mk ((Nat.le_trans HW0.out (Zmq : w.heap.size ≤ Jw) : w0.heap.size ≤ Jw));replace HK := Za.mk (Ja.trans Qg (Ja.of_below hb g none) (.inl rfl));have V7 := Za.mk ((by rw [hg];exact Nat.ne_of_lt (Zp.lt (show Zp w0 _ g Yh Du Dv from by repeat (first | (with_reducible first | exact HI0.out | apply Zp.alloc | apply Zp.drewN | apply Zp.drew | apply Zp.Y9 | apply Zp.Y6 | apply Zp.Y7) | exact HI0.out))) : g ≠ Jw));have Vp := Za.mk ((by rw [hg];exact Nat.ne_of_gt (Zp.lt (show Zp w0 _ g Yh Du Dv from by repeat (first | (with_reducible first | exact HI0.out | apply Zp.alloc | apply Zp.drewN | apply Zp.drew | apply Zp.Y9 | apply Zp.Y6 | apply Zp.Y7) | exact HI0.out))) : Jw ≠ g));replace HI0 := Za.mk (Zp.below Jcm hb);clear hb hbox hg) | ((with_reducible refine Z7 (f := 35) rfl ?_);refine Ju (some 12) rfl rfl Tryz.func35 (by kernel_rfl) rfl #[.pointer (some ⟨g,0,none⟩)] rfl Yb ?_;(with_reducible refine (Zq.calls g Yh Du Dv Ty Zft Zfu Zi8 w0 _ ?side1 ?side2 A2.out).mono ?_);(case side1 => exact u1_);(case side2 => exact u2_);rintro e w57 ⟨rfl,hi,hb,hk⟩;refine ⟨_,rfl,?_⟩;replace Vi := Za.mk (Ja.blk hk (g' := Jw) (o := .cells #[.int .i64 0,.string (⟨#[]⟩ : ByteArray),.string (⟨#[]⟩ : ByteArray),.bool false,.slice none 0 0,.string (⟨#[]⟩ : ByteArray),.string (⟨#[]⟩ : ByteArray),.slice none 0 0] 29 (0,0)) J5 Vp.out (by simp));replace HK := Za.mk (Ja.trans Vz hk (.inl rfl));replace HB := Za.mk (hb);replace HI0 := Za.mk (hi);(try clear hb);(try clear hb2);(try clear hk);(try clear hi)) | ((with_reducible refine Z7 (f := 35) rfl ?_);refine Ju (some 45) rfl rfl Tryz.func35 (by kernel_rfl) rfl #[.pointer (some ⟨g,0,none⟩)] rfl Yb ?_;(with_reducible refine (Zq.calls g Zft Zfu Zi8 Fp Jf7 Jf8 Jf9 w0 _ ?side1 ?side2 A54.out).mono ?_);(case side1 => exact u1_);(case side2 => exact u2_);rintro e w58 ⟨rfl,hi,hb,hk⟩;refine ⟨_,rfl,?_⟩;replace Vi := Za.mk (Ja.blk hk (g' := Jw) (o := .cells #[.int .i64 0,.string (⟨#[]⟩ : ByteArray),.string (⟨#[]⟩ : ByteArray),.bool false,.slice none 0 0,.string (⟨#[]⟩ : ByteArray),.string (⟨#[]⟩ : ByteArray),.slice none 0 0] 29 (0,0)) J5 Vp.out (by simp));replace HK := Za.mk (Ja.trans Vz hk (.inl rfl));replace HB := Za.mk (hb);replace HI0 := Za.mk (hi);(try clear hb);(try clear hb2);(try clear hk);(try clear hi)) | ((with_reducible refine Jg (N := 5) rfl ?_);(try (refine Jr (by rfl) ?_;dsimp only));refine Je ?hg (N := 5) ?hd (cs := #[.int .i64 0,.string (⟨#[]⟩ : ByteArray),.string (⟨#[]⟩ : ByteArray),.bool false,.slice none 0 0,.string (⟨#[]⟩ : ByteArray),.string (⟨#[]⟩ : ByteArray),.slice none 0 0]) (t := 29) ?hr ?_;(case hd => rfl);(case hg => rfl);(case hr => exact Q0);intro G7 hg w59 hbox hb;replace HB := Za.mk (Zm Jcl hb);have Y5 := Za.mk (hbox);have Jxi := Za.mk ((Zs9 : w.heap.size ≤ G7));have Jmy := Za.mk ((Nat.le_trans HW0.out (Zs9 : w.heap.size ≤ G7) : w0.heap.size ≤ G7));replace HK := Za.mk (Ja.trans Vz (Ja.of_below hb g none) (.inl rfl));have Ub := Za.mk ((Pd : Jw ≠ G7));have Zd8 := Za.mk ((je : G7 ≠ Jw));replace Vi := Za.mk (Zw (g := Jw) (o := .cells #[.int .i64 0,.string (⟨#[]⟩ : ByteArray),.string (⟨#[]⟩ : ByteArray),.bool false,.slice none 0 0,.string (⟨#[]⟩ : ByteArray),.string (⟨#[]⟩ : ByteArray),.slice none 0 0] 29 (0,0)) J5 hb);have Zd1 := Za.mk (((by rw [hg];exact Nat.ne_of_lt (Zp.lt (show Zp w0 _ g Jf7 Jf8 Jf9 from by repeat (first | (with_reducible first | exact HI0.out | apply Zp.alloc | apply Zp.drewN | apply Zp.drew | apply Zp.Y9 | apply Zp.Y6 | apply Zp.Y7 | (apply Zp.far;rotate_left;exact V7.out;rotate_right)) | exact HI0.out)))) : g ≠ G7));have Zjp := Za.mk (((by rw [hg];exact Nat.ne_of_gt (Zp.lt (show Zp w0 _ g Jf7 Jf8 Jf9 from by repeat (first | (with_reducible first | exact HI0.out | apply Zp.alloc | apply Zp.drewN | apply Zp.drew | apply Zp.Y9 | apply Zp.Y6 | apply Zp.Y7 | (apply Zp.far;rotate_left;exact V7.out;rotate_right)) | exact HI0.out)))) : G7 ≠ g));replace HI0 := Za.mk (Zp.below Jcj hb);clear hb hbox hg;have Vhz := Zd8.out;have Vh0 := Ub.out;have Jyc := Zjp.out;have Jyd := Zd1.out;obtain ⟨Zo7,Zo8,Zo9,Zpa,Zpb,Zpc,Zpd,Zpe,Zpf,Zpg,Zph,Zpi,Zpj,Zpk,Zpl,Zpm⟩ := Jf Y5.out) | ((with_reducible refine Z7 (f := 36) rfl ?_);refine Ju (some 48) rfl rfl Tryz.func36 (by kernel_rfl) rfl #[.pointer (some ⟨g,0,none⟩)] rfl Yb ?_;(with_reducible refine (Jv.calls g Jf7 Jf8 Jf9 Jql Jqm Jqn Jqo w0 _ ?side1 ?side2 A55.out).mono ?_);(case side1 => exact u5_);(case side2 => exact u6_);rintro e w63 ⟨rfl,hi,hb,hk⟩;refine ⟨_,rfl,?_⟩;replace Vi := Za.mk (Ja.blk hk (g' := Jw) (o := .cells #[.int .i64 0,.string (⟨#[]⟩ : ByteArray),.string (⟨#[]⟩ : ByteArray),.bool false,.slice none 0 0,.string (⟨#[]⟩ : ByteArray),.string (⟨#[]⟩ : ByteArray),.slice none 0 0] 29 (0,0)) (by (with_reducible repeat (first | refine Zc ?_ _ | refine Zf ?_ | refine Zb ?_ _));refine Jl ?_ Ub.out _;(with_reducible repeat (first | refine Zc ?_ _ | refine Zf ?_ | refine Zb ?_ _));refine Jl ?_ Ub.out _;(with_reducible repeat (first | refine Zc ?_ _ | refine Zf ?_ | refine Zb ?_ _));refine Jl ?_ Ub.out _;(with_reducible repeat (first | refine Zc ?_ _ | refine Zf ?_ | refine Zb ?_ _));refine Jl ?_ Ub.out _;(with_reducible repeat (first | refine Zc ?_ _ | refine Zf ?_ | refine Zb ?_ _));refine Jl ?_ Ub.out _;(with_reducible repeat (first | refine Zc ?_ _ | refine Zf ?_ | refine Zb ?_ _));refine Jl ?_ Ub.out _;(with_reducible repeat (first | refine Zc ?_ _ | refine Zf ?_ | refine Zb ?_ _));refine Jl ?_ Ub.out _;(with_reducible repeat (first | refine Zc ?_ _ | refine Zf ?_ | refine Zb ?_ _));refine Jl ?_ Ub.out _;(with_reducible repeat (first | refine Zc ?_ _ | refine Zf ?_ | refine Zb ?_ _));exact Vi.out) Vp.out (by simp));replace Y5 := Za.mk (Ja.blk hk (g' := G7) (o := .cells #[.int .i64 1,.string Fp,.string (⟨#[]⟩ : ByteArray),.bool false,.slice none 0 0,.string (⟨#[]⟩ : ByteArray),.string (⟨#[]⟩ : ByteArray),.slice none 0 0] 29 (0,0)) (by (with_reducible repeat (first | refine Zc ?_ _ | refine Zf ?_ | refine Zb ?_ _));refine Zo (cs := #[.int .i64 1,.string Fp,.string (⟨#[]⟩ : ByteArray),.bool false,.slice none 0 0,.string (⟨#[]⟩ : ByteArray),.string (⟨#[]⟩ : ByteArray),.slice none 0 0]) ?_ 7 _ rfl;(with_reducible repeat (first | refine Zc ?_ _ | refine Zf ?_ | refine Zb ?_ _));refine Zo (cs := #[.int .i64 1,.string Fp,.string (⟨#[]⟩ : ByteArray),.bool false,.slice none 0 0,.string (⟨#[]⟩ : ByteArray),.string (⟨#[]⟩ : ByteArray),.slice none 0 0]) ?_ 6 _ rfl;(with_reducible repeat (first | refine Zc ?_ _ | refine Zf ?_ | refine Zb ?_ _));refine Zo (cs := #[.int .i64 1,.string Fp,.string (⟨#[]⟩ : ByteArray),.bool false,.slice none 0 0,.string (⟨#[]⟩ : ByteArray),.string (⟨#[]⟩ : ByteArray),.slice none 0 0]) ?_ 5 _ rfl;(with_reducible repeat (first | refine Zc ?_ _ | refine Zf ?_ | refine Zb ?_ _));refine Zo (cs := #[.int .i64 1,.string Fp,.string (⟨#[]⟩ : ByteArray),.bool false,.slice none 0 0,.string (⟨#[]⟩ : ByteArray),.string (⟨#[]⟩ : ByteArray),.slice none 0 0]) ?_ 4 _ rfl;(with_reducible repeat (first | refine Zc ?_ _ | refine Zf ?_ | refine Zb ?_ _));refine Zo (cs := #[.int .i64 1,.string Fp,.string (⟨#[]⟩ : ByteArray),.bool false,.slice none 0 0,.string (⟨#[]⟩ : ByteArray),.string (⟨#[]⟩ : ByteArray),.slice none 0 0]) ?_ 3 _ rfl;(with_reducible repeat (first | refine Zc ?_ _ | refine Zf ?_ | refine Zb ?_ _));refine Zo (cs := #[.int .i64 1,.string Fp,.string (⟨#[]⟩ : ByteArray),.bool false,.slice none 0 0,.string (⟨#[]⟩ : ByteArray),.string (⟨#[]⟩ : ByteArray),.slice none 0 0]) ?_ 2 _ rfl;(with_reducible repeat (first | refine Zc ?_ _ | refine Zf ?_ | refine Zb ?_ _));refine Zo (cs := #[.int .i64 1,.string (⟨#[]⟩ : ByteArray),.string (⟨#[]⟩ : ByteArray),.bool false,.slice none 0 0,.string (⟨#[]⟩ : ByteArray),.string (⟨#[]⟩ : ByteArray),.slice none 0 0]) ?_ 1 _ rfl;(with_reducible repeat (first | refine Zc ?_ _ | refine Zf ?_ | refine Zb ?_ _));refine Zo (cs := #[.int .i64 0,.string (⟨#[]⟩ : ByteArray),.string (⟨#[]⟩ : ByteArray),.bool false,.slice none 0 0,.string (⟨#[]⟩ : ByteArray),.string (⟨#[]⟩ : ByteArray),.slice none 0 0]) ?_ 0 _ rfl;(with_reducible repeat (first | refine Zc ?_ _ | refine Zf ?_ | refine Zb ?_ _));exact Y5.out) Zjp.out (by simp));replace HK := Za.mk (Ja.trans Zmm hk (.inl rfl));replace HB := Za.mk (hb);replace HI0 := Za.mk (hi);(try clear hb);(try clear hb2);(try clear hk);(try clear hi)))
   go_loopg [6] k (fun kq v6 w' => ∃ (Zta : Int) (Q5 : ByteArray) (Q6 : Int) (Kb : Bool) (Yx : List ByteArray) (Tz : Value),v6 = .int .i64 Zta ∧ Za (Zl.l0 kq Zta Q5 Q6 Kb 1 Fp (⟨#[]⟩ : ByteArray) false Yx (⟨#[]⟩ : ByteArray) (⟨#[]⟩ : ByteArray) = some (r1,r2,r3,r4,r5,r6,r7,r8,r9,Fx,Fy)) ∧ Za (kq ≤ k) ∧ Za (Kd.R Kd.string 9 w' w.heap.size (fun _ => True) Tz Yx) ∧ Za (w'.heap[Jw]? = some (.cells #[.int .i64 0,.string (⟨#[]⟩ : ByteArray),.string (⟨#[]⟩ : ByteArray),.bool false,(.slice none 0 0),.string (⟨#[]⟩ : ByteArray),.string (⟨#[]⟩ : ByteArray),(.slice none 0 0)] 29 (0,0))) ∧ Za (w'.heap[G7]? = some (.cells #[.int .i64 1,.string Fp,.string (⟨#[]⟩ : ByteArray),.bool false,Tz,.string (⟨#[]⟩ : ByteArray),.string (⟨#[]⟩ : ByteArray),(.slice none 0 0)] 29 (0,0))) ∧ Za (Zp w0 w' g Q5 Q6 Kb) ∧ Za (Ja w w' g none) ∧ Za (Below w0.heap.size w0 w'))
   case atStart => exact ⟨(Jql),(Jqm),(Jqn),(Jqo),(([] : List ByteArray)),(.slice none 0 0),Z4a,H',⟨Nat.le_refl _⟩,⟨Xv⟩,⟨J5⟩,⟨Jqh⟩,⟨Zs3⟩,⟨Zmm⟩,⟨Jf6⟩⟩
   case round =>
    clear H'
    try clear c1
    try clear c2
    try clear p2
    try clear c3
    try clear ww
    try clear Zg1
    try clear c4
    try clear c5
    try clear c6
    try clear c12
    try clear c13
    try clear c20
    try clear Pq
    try clear Sn
    try clear Ziq
    try clear c25
    try clear c28
    try clear c29
    try clear jc
    try clear c36
    try clear c43
    try clear c44
    try clear c51
    try clear c53
    try clear Zt4
    try clear Z75
    try clear c60
    try clear c61
    try clear Zgc Zgd Zge Zxm Zxn Zxo Zxp Zxq
    try clear Rt Ru Rv
    try clear Ra Rb Rc qi qj ql qm qo
    try clear Zdj Zdk Zdl Zxw Zxx Zxy Zxz Zx0
    try clear Lp Lr Ls Lt Lu Lv Lx L6
    try clear Dy Dz D5 Gd Gf Gg Gh Gi
    try clear Rz R3 R4
    try clear Uz U0 U1 Wx Wy Wz W9 Da
    try clear sj su sw tq tu Zaa Zab Zac
    try clear mi mo mq mr ng ni nk nu
    try clear yh yj yl ym yn yo yt yu
    try clear S9 Ta Tc
    try clear Zg8 Zg9 Zha Zns Znt Znu Znv Znw
    try clear Zi9 Zja Zjb Zjc Zjd Zje Zjf Zjg
    try clear q8 q9 uf ug uh ui uj uk
    try clear Zo7 Zo8 Zo9 Zpa Zpb Zpc Zpd Zpe
    try clear Zgf Zgg Zgh Zxr Zxs Zxt Zxu Zxv
    try clear Rw Rx Ry
    try clear Re Rf Rh qp qw qx qy qz
    try clear Zdm Zdn Zdo Zx1 Zx2 Zx3 Zx4 Zx5
    try clear L8 L9 Ma Mc Md Me Mf Mg
    try clear D6 D7 D8 Gj Gl Gm Gn Gp
    try clear R5 R6 R7
    try clear U2 U3 U4 Db Dc De Df Dg
    try clear Zad Zae Zaf Zag Zah Zai Zaj Zak
    try clear ny nz pg pq pu pz p8 p9
    try clear yw yx yz xc xe xg xh xk
    try clear Td Te Tf
    try clear Zhb Zhc Zhd Znx Zny Znz Zn0 Zn1
    try clear Zjh Zji Zjj Zjk Zjl Zjm Zjn Zjo
    try clear ul um uo uq ut uu uw uy
    try clear Zpf Zpg Zph Zpi Zpj Zpk Zpl Zpm
    obtain ⟨Zta,Q5,Q6,Kb,Yx,Tz,rfl,HA,HK1,Ql,Vi,Y5,HI0,HK,HB⟩ := hrel
    cases gk with
    | zero => exact absurd HA.out (by simp [Zl.l0])
    | succ k1 =>
     have H := HA.out
     clear HA
     simp only [Zl.l0] at H
     by_cases c64 : Zta > 0
     ·rw [if_pos c64] at H
      have Jga : decide (0 < Zta) = true := decide_eq_true c64
      clear c64
      by_cases c65 : Kb = true
      ·subst c65
       have H1 : (some (1,Fp,(⟨#[]⟩ : ByteArray),false,Yx,(⟨#[]⟩ : ByteArray),(⟨#[]⟩ : ByteArray),([] : List (Y4)),Q5,Q6,true)) = some (r1,r2,r3,r4,r5,r6,r7,r8,r9,Fx,Fy) := by rw [if_pos rfl] at H;exact H
       clear H
       have H := H1
       clear H1
       simp only [Option.some.injEq,Prod.mk.injEq] at H
       obtain ⟨rfl,rfl,rfl,rfl,rfl,rfl,rfl,rfl,rfl,rfl,rfl⟩ := H
       obtain ⟨Zsc,Jye⟩ := HI0.out
       have Z76 := Xg Zsc
       have Z77 := Xh Zsc
       have Z78 := Xi Zsc
       have Z79 := Zj Zsc 0
       have Z8a := Zj Zsc 1
       have Z8b := Zj Zsc 2
       clear Zsc Jye
       have Vh1 := Zd8.out
       have Vh2 := Ub.out
       have Jue := Zjp.out
       have Juf := Zd1.out
       obtain ⟨Z8c,Z8d,Z8e,Z8f,Z8g,Z8h,Z8i,Z8j,Z8k,Z8l,Z8m,Z8n,Z8o,Z8p,Z8q,Z8r⟩ := Jf Y5.out
       have Vh3 := Vp.out
       have Vh4 := V7.out
       obtain ⟨Z8s,Z8t,Z8u,Z8v,Z8w,Z8x,Z8y,Z8z,Z80,Z81,Z82,Z83,Z84,Z85,Z86,Z87⟩ := Jf Vi.out
       obtain ⟨Jgb,Jgc,Vda⟩ := Kd.Dw Ql.out
       subst Vda
       go_wp2
       refine bodyPost_ret (results_cell_row rfl _ _ Jw 29 #[.int .i64 1,.string Fp,.string (⟨#[]⟩ : ByteArray),.bool false,.slice Jgb Yx.length Jgc,.string (⟨#[]⟩ : ByteArray),.string (⟨#[]⟩ : ByteArray),.slice none 0 0] (0,0) _ rfl (by (with_reducible repeat (first | refine Zc ?_ _ | refine Zf ?_ | refine Zb ?_ _));refine Zo (cs := #[.int .i64 1,.string Fp,.string (⟨#[]⟩ : ByteArray),.bool false,.slice Jgb Yx.length Jgc,.string (⟨#[]⟩ : ByteArray),.string (⟨#[]⟩ : ByteArray),.slice none 0 0]) ?_ 7 _ rfl;(with_reducible repeat (first | refine Zc ?_ _ | refine Zf ?_ | refine Zb ?_ _));refine Zo (cs := #[.int .i64 1,.string Fp,.string (⟨#[]⟩ : ByteArray),.bool false,.slice Jgb Yx.length Jgc,.string (⟨#[]⟩ : ByteArray),.string (⟨#[]⟩ : ByteArray),.slice none 0 0]) ?_ 6 _ rfl;(with_reducible repeat (first | refine Zc ?_ _ | refine Zf ?_ | refine Zb ?_ _));refine Zo (cs := #[.int .i64 1,.string Fp,.string (⟨#[]⟩ : ByteArray),.bool false,.slice Jgb Yx.length Jgc,.string (⟨#[]⟩ : ByteArray),.string (⟨#[]⟩ : ByteArray),.slice none 0 0]) ?_ 5 _ rfl;(with_reducible repeat (first | refine Zc ?_ _ | refine Zf ?_ | refine Zb ?_ _));refine Zo (cs := #[.int .i64 1,.string Fp,.string (⟨#[]⟩ : ByteArray),.bool false,.slice none 0 0,.string (⟨#[]⟩ : ByteArray),.string (⟨#[]⟩ : ByteArray),.slice none 0 0]) ?_ 4 _ rfl;(with_reducible repeat (first | refine Zc ?_ _ | refine Zf ?_ | refine Zb ?_ _));refine Zo (cs := #[.int .i64 1,.string Fp,.string (⟨#[]⟩ : ByteArray),.bool false,.slice none 0 0,.string (⟨#[]⟩ : ByteArray),.string (⟨#[]⟩ : ByteArray),.slice none 0 0]) ?_ 3 _ rfl;(with_reducible repeat (first | refine Zc ?_ _ | refine Zf ?_ | refine Zb ?_ _));refine Zo (cs := #[.int .i64 1,.string Fp,.string (⟨#[]⟩ : ByteArray),.bool false,.slice none 0 0,.string (⟨#[]⟩ : ByteArray),.string (⟨#[]⟩ : ByteArray),.slice none 0 0]) ?_ 2 _ rfl;(with_reducible repeat (first | refine Zc ?_ _ | refine Zf ?_ | refine Zb ?_ _));refine Zo (cs := #[.int .i64 1,.string (⟨#[]⟩ : ByteArray),.string (⟨#[]⟩ : ByteArray),.bool false,.slice none 0 0,.string (⟨#[]⟩ : ByteArray),.string (⟨#[]⟩ : ByteArray),.slice none 0 0]) ?_ 1 _ rfl;(with_reducible repeat (first | refine Zc ?_ _ | refine Zf ?_ | refine Zb ?_ _));refine Zo (cs := #[.int .i64 0,.string (⟨#[]⟩ : ByteArray),.string (⟨#[]⟩ : ByteArray),.bool false,.slice none 0 0,.string (⟨#[]⟩ : ByteArray),.string (⟨#[]⟩ : ByteArray),.slice none 0 0]) ?_ 0 _ rfl;(with_reducible repeat (first | refine Zc ?_ _ | refine Zf ?_ | refine Zb ?_ _));exact Vi.out) Tryz.underlying29 rfl (by kernel_rfl)) rfl ?_
       exact ⟨_,_,Z39,(by (with_reducible repeat (first | apply Kd.Yv | apply Kd.Yw | apply Kd.Xl));exact Kd.Xc (Kd.Xw (p := ⟨Jw,7,none⟩) (Kd.Xw (p := ⟨Jw,6,none⟩) (Kd.Xw (p := ⟨Jw,5,none⟩) (Kd.Xw (p := ⟨Jw,4,none⟩) (Kd.Xw (p := ⟨Jw,3,none⟩) (Kd.Xw (p := ⟨Jw,2,none⟩) (Kd.Xw (p := ⟨Jw,1,none⟩) (Kd.Xw (p := ⟨Jw,0,none⟩) (Kd.jy Ql.out Vi.out (by decide)) (fun _ hk => hk.2) (.int .i64 1)) (fun _ hk => hk.2) (.string Fp)) (fun _ hk => hk.2) (.string (⟨#[]⟩ : ByteArray))) (fun _ hk => hk.2) (.bool false)) (fun _ hk => hk.2) (.slice Jgb Yx.length Jgc)) (fun _ hk => hk.2) (.string (⟨#[]⟩ : ByteArray))) (fun _ hk => hk.2) (.string (⟨#[]⟩ : ByteArray))) (fun _ hk => hk.2) (.slice none 0 0)) (fun _ hk => trivial)),Xv,Zs3,Jf6,Zmm⟩
      ·replace c65 := Bool.eq_false_iff.mpr c65
       subst c65
       have H1 : ((Zq.f Q5 Q6 false).bind fun Zi7 => (if Yx.length < 8796093022208 then (Zl.l0 k1 (wrap64 (Zta - 1)) Zi7.2.1 Zi7.2.2.1 Zi7.2.2.2 1 Fp (⟨#[]⟩ : ByteArray) false (Yx ++ [Zi7.1]) (⟨#[]⟩ : ByteArray) (⟨#[]⟩ : ByteArray)) else (none))) = some (r1,r2,r3,r4,r5,r6,r7,r8,r9,Fx,Fy) := by rw [if_neg (show ¬ (false = true) by decide)] at H;exact H
       clear H
       have H := H1
       clear H1
       replace H := Option.bind_eq_some_iff.mp H
       obtain ⟨⟨Jgd,Jk1,Jk2,Jk3⟩,Jyf,H⟩ := H
       replace H : (if Yx.length < 8796093022208 then (Zl.l0 k1 (wrap64 (Zta - 1)) Jk1 Jk2 Jk3 1 Fp (⟨#[]⟩ : ByteArray) false (Yx ++ [Jgd]) (⟨#[]⟩ : ByteArray) (⟨#[]⟩ : ByteArray)) else (none)) = some (r1,r2,r3,r4,r5,r6,r7,r8,r9,Fx,Fy) := H
       have A73 := Za.mk Jyf
       clear Jyf
       by_cases c74 : Yx.length < 8796093022208
       ·rw [if_pos c74] at H
        have Jyg := Za.mk c74
        clear c74
        obtain ⟨Jk4,Z1q⟩ : ∃ y_ : List ByteArray,y_ = (Yx ++ [Jgd]) := ⟨_,rfl⟩
        replace H : (Zl.l0 k1 (wrap64 (Zta - 1)) Jk1 Jk2 Jk3 1 Fp (⟨#[]⟩ : ByteArray) false Jk4 (⟨#[]⟩ : ByteArray) (⟨#[]⟩ : ByteArray)) = some (r1,r2,r3,r4,r5,r6,r7,r8,r9,Fx,Fy) := by first | (rw [Z1q];with_reducible exact H) | (have jg := (Option.bind_some _ _).symm.trans H;rw [Z1q];with_reducible exact jg) | (have jg := (Option.bind_some _ _).symm.trans H;with_reducible exact jg) | with_reducible exact H | (rw [Z1q];exact H) | exact H
        have Jyh := Za.mk Z1q
        clear Z1q
        have H' := Za.mk H
        clear H
        obtain ⟨Zsd,Jyi⟩ := HI0.out
        have Z88 := Xg Zsd
        have Z89 := Xh Zsd
        have Z9a := Xi Zsd
        have Z9b := Zj Zsd 0
        have Z9c := Zj Zsd 1
        have Z9d := Zj Zsd 2
        clear Zsd Jyi
        try go_wp2
        replace Ql := Za.mk (Kd.Xl Ql.out)
        replace Vi := Za.mk (Zf Vi.out)
        replace Y5 := Za.mk (Zf Y5.out)
        replace HI0 := Za.mk (Zp.drew HI0.out)
        replace HK := Za.mk (X5 HK.out)
        replace HB := Za.mk (Zz HB.out)
        refine Hd (n := 8) (S := fun w' => w'.cell? ⟨G7,0,none⟩ = some (.int .i64 1) ∧ w'.cell? ⟨G7,1,none⟩ = some (.string Fp) ∧ w'.cell? ⟨G7,2,none⟩ = some (.string (⟨#[]⟩ : ByteArray)) ∧ w'.cell? ⟨G7,3,none⟩ = some (.bool false) ∧ w'.cell? ⟨G7,4,none⟩ = some (Tz) ∧ w'.cell? ⟨G7,5,none⟩ = some (.string (⟨#[]⟩ : ByteArray)) ∧ w'.cell? ⟨G7,6,none⟩ = some (.string (⟨#[]⟩ : ByteArray)) ∧ w'.cell? ⟨G7,7,none⟩ = some (.slice none 0 0)) (ds := [7]) #[false,false,false,false,false,false,false,false] (by kernel_rfl) rfl rfl ⟨(Zd Y5.out 0).trans rfl,(Zd Y5.out 1).trans rfl,(Zd Y5.out 2).trans rfl,(Zd Y5.out 3).trans rfl,(Zd Y5.out 4).trans rfl,(Zd Y5.out 5).trans rfl,(Zd Y5.out 6).trans rfl,(Zd Y5.out 7).trans rfl⟩ (fun hHeld => ?_);refine Dr Zl.Jfd Zl.Z32 (fun HT_ HW_ => ?_)
        generalize wr.drew = w76 at Ql Vi Y5 HI0 HK HB hHeld ⊢
        refine V3 (i := 0) (N := some 60) (v := ?_) (a' := ?_) #[true,false,false,false,false,false,false,false] rfl rfl (Vk HT_.out (by kernel_rfl)) (fun _ _ _ h => h) (Or.inl ⟨(by rfl),?_⟩) ?_ ?_
        rotate_left
        ·intro w'
         go_simp
         with_reducible rfl
        rotate_left
        ·simp only [Act.put,List.setIfInBounds_toArray,List.set_cons_zero,List.set_cons_succ,Jo,Jq]
         rfl
        refine V3 (i := 2) (N := some 62) (v := ?_) (a' := ?_) #[true,false,true,false,false,false,false,false] rfl rfl (Vk HT_.out (by kernel_rfl)) (fun _ _ _ h => h) (Or.inl ⟨(by rfl),?_⟩) ?_ ?_
        rotate_left
        ·intro w'
         go_simp
         with_reducible rfl
        rotate_left
        ·simp only [Act.put,List.setIfInBounds_toArray,List.set_cons_zero,List.set_cons_succ,Jo,Jq]
         rfl
        refine Qx (i := 1) (N := some 61) (v := ?_) (a' := ?_) #[true,true,true,false,false,false,false,false] rfl rfl (Xj HT_.out HW_.out (by kernel_rfl)) (fun _ _ _ h => h) (Or.inl ⟨(by rfl),?_⟩) hHeld ?_ ?_
        rotate_left
        ·rintro w' ⟨s0,s1,s2,s3,s4,s5,s6,s7⟩
         go_simp
         with_reducible rfl
        rotate_left
        ·simp only [Act.put,List.setIfInBounds_toArray,List.set_cons_zero,List.set_cons_succ,Jo,Jq]
         rfl
        refine F3 (i := 3) (N := some 63) #[true,true,true,true,false,false,false,false] rfl rfl (Qn HT_.out (by kernel_rfl)) (by decide) (fun K hK => ?_)
        refine Uk Tryz.func35 (by kernel_rfl) rfl #[.pointer (some ⟨g,0,none⟩)] (by rfl) rfl rfl Yb ?_
        with_reducible refine (Zq.calls g Q5 Q6 false Jgd Jk1 Jk2 Jk3 w0 _ ?side1 ?side2 A73.out).mono ?_
        (case side1 => exact u5_)
        (case side2 => exact u6_)
        rintro e w77 ⟨rfl,hi,hb,hk⟩
        refine ⟨_,rfl,?_⟩
        replace Ql := Za.mk (Kd.Xc (Kd.Zfj (Zp.apart (show Zp w0 _ g Q5 Q6 false from by repeat (first | (with_reducible first | exact HI0.out | apply Zp.alloc | apply Zp.drewN | apply Zp.drew | apply Zp.Y9 | apply Zp.Y6 | apply Zp.Y7 | (apply Zp.far;rotate_left;exact V7.out;rotate_right) | (apply Zp.far;rotate_left;exact Zd1.out;rotate_right)) | exact HI0.out)) (by (with_reducible repeat (first | apply Kd.Yv | apply Kd.Yw | apply Kd.Xl));exact Ql.out) (by decide)) hk (fun _ h => h.2)) (fun _ h => h.1))
        replace Vi := Za.mk (Ja.blk hk (g' := Jw) (o := .cells #[.int .i64 0,.string (⟨#[]⟩ : ByteArray),.string (⟨#[]⟩ : ByteArray),.bool false,.slice none 0 0,.string (⟨#[]⟩ : ByteArray),.string (⟨#[]⟩ : ByteArray),.slice none 0 0] 29 (0,0)) J5 Vp.out (by simp))
        replace Y5 := Za.mk (Ja.blk hk (g' := G7) (o := .cells #[.int .i64 1,.string Fp,.string (⟨#[]⟩ : ByteArray),.bool false,Tz,.string (⟨#[]⟩ : ByteArray),.string (⟨#[]⟩ : ByteArray),.slice none 0 0] 29 (0,0)) Jqh Zjp.out (by simp))
        replace HK := Za.mk (Ja.trans Zmm hk (.inl rfl))
        replace HB := Za.mk (hb)
        replace HI0 := Za.mk (hi)
        (try clear hb)
        (try clear hb2)
        (try clear hk)
        (try clear hi)
        refine hK.out _ _ ⟨(Zd Y5.out 0).trans rfl,(Zd Y5.out 1).trans rfl,(Zd Y5.out 2).trans rfl,(Zd Y5.out 3).trans rfl,(Zd Y5.out 4).trans rfl,(Zd Y5.out 5).trans rfl,(Zd Y5.out 6).trans rfl,(Zd Y5.out 7).trans rfl⟩ (fun hHeld => ?_)
        clear hK K
        refine Qr (a' := ?_) ?_ ?_
        rotate_left
        ·show Act.put _ (some 63) _ = _
         simp only [Act.put,List.setIfInBounds_toArray,List.set_cons_zero,List.set_cons_succ,Jo,Jq]
         rfl
        refine F3 (i := 4) (N := some 64) #[true,true,true,true,true,false,false,false] rfl rfl (Qn HT_.out (by kernel_rfl)) (by decide) (fun K hK => ?_)
        refine wh (w1 := ?_) (v := ?_) (by rfl) rfl ?_ ?_
        rotate_left 2
        ·go_simp
         constructor
         ·rfl
         ·rfl
        refine hK.out _ _ ⟨(Zd (Zb Y5.out _) 0).trans rfl,(Zd (Zb Y5.out _) 1).trans rfl,(Zd (Zb Y5.out _) 2).trans rfl,(Zd (Zb Y5.out _) 3).trans rfl,(Zd (Zb Y5.out _) 4).trans rfl,(Zd (Zb Y5.out _) 5).trans rfl,(Zd (Zb Y5.out _) 6).trans rfl,(Zd (Zb Y5.out _) 7).trans rfl⟩ (fun hHeld => ?_)
        clear hK K
        refine Qr (a' := ?_) ?_ ?_
        rotate_left
        ·show Act.put _ (some 64) _ = _
         simp only [Act.put,List.setIfInBounds_toArray,List.set_cons_zero,List.set_cons_succ,Jo,Jq]
         rfl
        refine F3 (i := 5) (N := some 65) #[true,true,true,true,true,true,false,false] rfl rfl (Qn HT_.out (by kernel_rfl)) (by decide) (fun K hK => ?_)
        refine Kd.Zsr Kd.string w.heap.size (by rfl) (.tmp 61) (.tmp 64) 26 9 (.string ⟨#[]⟩) 16 rfl Tryz.underlying26 Jd4 rfl (by decide) (by omega) Tz Yx Jgd [.string Jgd] (fun _ => True) (fun _ => False) rfl rfl ?aP (fun _ hk => hk.elim) ?aF ?aO (Below.refl _ _) ?aS ?aL ?_
        (case aP => exact rfl)
        (case aF => exact (fun _ _ => trivial))
        (case aO => exact (by (with_reducible repeat (first | apply Kd.Yv | apply Kd.Yw | apply Kd.Xl));exact Ql.out))
        (case aS => exact (zn (w := w) (g := g) (row := none) Zmm))
        (case aL => have := Jyg.out;omega)
        intro Vk6 w78 ho hb hg hat
        rw [← Jyh.out] at ho
        replace Vi := Za.mk (Us (g := Jw) (o := .cells #[.int .i64 0,.string (⟨#[]⟩ : ByteArray),.string (⟨#[]⟩ : ByteArray),.bool false,.slice none 0 0,.string (⟨#[]⟩ : ByteArray),.string (⟨#[]⟩ : ByteArray),.slice none 0 0] 29 (0,0)) J5 hg (Kd.Zpt Ql.out Vi.out (by decide)))
        replace Y5 := Za.mk (Us (g := G7) (o := .cells #[.int .i64 1,.string Fp,.string (⟨#[]⟩ : ByteArray),.bool false,Tz,.string (⟨#[]⟩ : ByteArray),.string (⟨#[]⟩ : ByteArray),.slice none 0 0] 29 (0,0)) Jqh hg (Kd.Zpt Ql.out Y5.out (by decide)))
        replace HB := Za.mk (d9 Jf6 HL.out hb)
        replace HI0 := Za.mk (Zp.grown Zs3 hg (Zp.own_ne HI0.out Ql.out (by decide)))
        replace HK := Za.mk (Ja.trans Zmm (Ja.Zbf hg g) (Kd.Zug Ql.out))
        have Jmz := Za.mk (ho)
        clear Ql ho hb hg hat
        obtain ⟨Jyj,Jj1,Jj2⟩ := Kd.Dw Jmz.out
        (first | subst Jj2 | (injection Jj2 with f1_ f2_ f3_;have f4_ := f1_.symm;have f5_ := f3_.symm;clear f1_ f2_ f3_;subst f4_;subst f5_))
        refine hK.out _ _ ⟨(Zd Y5.out 0).trans rfl,(Zd Y5.out 1).trans rfl,(Zd Y5.out 2).trans rfl,(Zd Y5.out 3).trans rfl,(Zd Y5.out 4).trans rfl,(Zd Y5.out 5).trans rfl,(Zd Y5.out 6).trans rfl,(Zd Y5.out 7).trans rfl⟩ (fun hHeld => ?_)
        clear hK K
        refine Qr (a' := ?_) ?_ ?_
        rotate_left
        ·show Act.put _ (some 65) _ = _
         simp only [Act.put,List.setIfInBounds_toArray,List.set_cons_zero,List.set_cons_succ,Jo,Jq]
         rfl
        refine V3 (i := 6) (N := some 66) (v := ?_) (a' := ?_) #[true,true,true,true,true,true,true,false] rfl rfl (Vk HT_.out (by kernel_rfl)) (fun _ _ _ h => h) (Or.inl ⟨(by rfl),?_⟩) ?_ ?_
        rotate_left
        ·intro w'
         go_simp
         with_reducible rfl
        rotate_left
        ·simp only [Act.put,List.setIfInBounds_toArray,List.set_cons_zero,List.set_cons_succ,Jo,Jq]
         rfl
        refine Jr5 (i := 7) (N := none) #[true,true,true,true,true,true,true,true] rfl rfl (Qn HT_.out (by kernel_rfl)) (by decide) (fun K hK => ?_)
        have Vk8 : w78.cell? ⟨G7,4,none⟩ = some (Tz) := (Zd Y5.out 4).trans rfl
        have Vh5 := Zj Y5.out 4
        have J80 := Ub.out
        have J81 := Zd8.out
        refine Jlk (w1 := ?_) (by rfl) rfl ?_ ?_
        rotate_left
        ·go_simp
         rfl
        refine hK.out _ _ ?_
        clear hK K
        refine j5 (Sw HT_.out (by kernel_rfl)) ?_
        try go_wp2
        go_roundg k1
        case measure => have := HK1.out;omega
        case rel => exact ⟨(wrap64 (Zta - 1)),(Jk1),(Jk2),(Jk3),(Jk4),(.slice Jyj Jk4.length Jj1),Z4a,H',⟨(by have := HK1.out;omega)⟩,⟨(by (with_reducible repeat (first | apply Kd.Yv | apply Kd.Yw | apply Kd.Xl));exact Kd.Xc (Kd.Xw (p := ⟨G7,4,none⟩) (Kd.jy Jmz.out Y5.out (by decide)) (fun _ hk => hk.2) (.slice Jyj Jk4.length Jj1)) (fun _ hk => trivial))⟩,⟨(by (with_reducible repeat (first | refine Zc ?_ _ | refine Zf ?_ | refine Zb ?_ _));refine Jl ?_ Ub.out _;(with_reducible repeat (first | refine Zc ?_ _ | refine Zf ?_ | refine Zb ?_ _));exact Vi.out)⟩,⟨(by (with_reducible repeat (first | refine Zc ?_ _ | refine Zf ?_ | refine Zb ?_ _));refine Zo (cs := #[.int .i64 1,.string Fp,.string (⟨#[]⟩ : ByteArray),.bool false,Tz,.string (⟨#[]⟩ : ByteArray),.string (⟨#[]⟩ : ByteArray),.slice none 0 0]) ?_ 4 _ rfl;(with_reducible repeat (first | refine Zc ?_ _ | refine Zf ?_ | refine Zb ?_ _));exact Y5.out)⟩,⟨Zs3⟩,⟨Zmm⟩,⟨Jf6⟩⟩
       ·rw [if_neg c74] at H
        exact absurd H (by simp)
     ·rw [if_neg c64] at H
      have Jga : decide (0 < Zta) = false := decide_eq_false c64
      clear c64
      simp only [Option.some.injEq,Prod.mk.injEq] at H
      obtain ⟨rfl,rfl,rfl,rfl,rfl,rfl,rfl,rfl,rfl,rfl,rfl⟩ := H
      have Vh6 := Zd8.out
      have Vh7 := Ub.out
      have Vh8 := Zjp.out
      have Vh9 := Zd1.out
      obtain ⟨Z9e,Z9f,Z9g,Z9h,Z9i,Z9j,Z9k,Z9l,Z9m,Z9n,Z9o,Z9p,Z9q,Z9r,Z9s,Z9t⟩ := Jf Y5.out
      have Vib := Vp.out
      have Vic := V7.out
      obtain ⟨Z9u,Z9v,Z9w,Z9x,Z9y,Z9z,Z90,Z91,Z92,Z93,Z94,Z95,Z96,Z97,Z98,Z99⟩ := Jf Vi.out
      obtain ⟨Jge,Jgf,Vdb⟩ := Kd.Dw Ql.out
      subst Vdb
      go_wp2
      refine bodyPost_ret (results_cell_row rfl _ _ Jw 29 #[.int .i64 1,.string Fp,.string (⟨#[]⟩ : ByteArray),.bool false,.slice Jge Yx.length Jgf,.string (⟨#[]⟩ : ByteArray),.string (⟨#[]⟩ : ByteArray),.slice none 0 0] (0,0) _ rfl (by (with_reducible repeat (first | refine Zc ?_ _ | refine Zf ?_ | refine Zb ?_ _));refine Zo (cs := #[.int .i64 1,.string Fp,.string (⟨#[]⟩ : ByteArray),.bool false,.slice Jge Yx.length Jgf,.string (⟨#[]⟩ : ByteArray),.string (⟨#[]⟩ : ByteArray),.slice none 0 0]) ?_ 7 _ rfl;(with_reducible repeat (first | refine Zc ?_ _ | refine Zf ?_ | refine Zb ?_ _));refine Zo (cs := #[.int .i64 1,.string Fp,.string (⟨#[]⟩ : ByteArray),.bool false,.slice Jge Yx.length Jgf,.string (⟨#[]⟩ : ByteArray),.string (⟨#[]⟩ : ByteArray),.slice none 0 0]) ?_ 6 _ rfl;(with_reducible repeat (first | refine Zc ?_ _ | refine Zf ?_ | refine Zb ?_ _));refine Zo (cs := #[.int .i64 1,.string Fp,.string (⟨#[]⟩ : ByteArray),.bool false,.slice Jge Yx.length Jgf,.string (⟨#[]⟩ : ByteArray),.string (⟨#[]⟩ : ByteArray),.slice none 0 0]) ?_ 5 _ rfl;(with_reducible repeat (first | refine Zc ?_ _ | refine Zf ?_ | refine Zb ?_ _));refine Zo (cs := #[.int .i64 1,.string Fp,.string (⟨#[]⟩ : ByteArray),.bool false,.slice none 0 0,.string (⟨#[]⟩ : ByteArray),.string (⟨#[]⟩ : ByteArray),.slice none 0 0]) ?_ 4 _ rfl;(with_reducible repeat (first | refine Zc ?_ _ | refine Zf ?_ | refine Zb ?_ _));refine Zo (cs := #[.int .i64 1,.string Fp,.string (⟨#[]⟩ : ByteArray),.bool false,.slice none 0 0,.string (⟨#[]⟩ : ByteArray),.string (⟨#[]⟩ : ByteArray),.slice none 0 0]) ?_ 3 _ rfl;(with_reducible repeat (first | refine Zc ?_ _ | refine Zf ?_ | refine Zb ?_ _));refine Zo (cs := #[.int .i64 1,.string Fp,.string (⟨#[]⟩ : ByteArray),.bool false,.slice none 0 0,.string (⟨#[]⟩ : ByteArray),.string (⟨#[]⟩ : ByteArray),.slice none 0 0]) ?_ 2 _ rfl;(with_reducible repeat (first | refine Zc ?_ _ | refine Zf ?_ | refine Zb ?_ _));refine Zo (cs := #[.int .i64 1,.string (⟨#[]⟩ : ByteArray),.string (⟨#[]⟩ : ByteArray),.bool false,.slice none 0 0,.string (⟨#[]⟩ : ByteArray),.string (⟨#[]⟩ : ByteArray),.slice none 0 0]) ?_ 1 _ rfl;(with_reducible repeat (first | refine Zc ?_ _ | refine Zf ?_ | refine Zb ?_ _));refine Zo (cs := #[.int .i64 0,.string (⟨#[]⟩ : ByteArray),.string (⟨#[]⟩ : ByteArray),.bool false,.slice none 0 0,.string (⟨#[]⟩ : ByteArray),.string (⟨#[]⟩ : ByteArray),.slice none 0 0]) ?_ 0 _ rfl;(with_reducible repeat (first | refine Zc ?_ _ | refine Zf ?_ | refine Zb ?_ _));exact Vi.out) Tryz.underlying29 rfl (by kernel_rfl)) rfl ?_
      exact ⟨_,_,Z39,(by (with_reducible repeat (first | apply Kd.Yv | apply Kd.Yw | apply Kd.Xl));exact Kd.Xc (Kd.Xw (p := ⟨Jw,7,none⟩) (Kd.Xw (p := ⟨Jw,6,none⟩) (Kd.Xw (p := ⟨Jw,5,none⟩) (Kd.Xw (p := ⟨Jw,4,none⟩) (Kd.Xw (p := ⟨Jw,3,none⟩) (Kd.Xw (p := ⟨Jw,2,none⟩) (Kd.Xw (p := ⟨Jw,1,none⟩) (Kd.Xw (p := ⟨Jw,0,none⟩) (Kd.jy Ql.out Vi.out (by decide)) (fun _ hk => hk.2) (.int .i64 1)) (fun _ hk => hk.2) (.string Fp)) (fun _ hk => hk.2) (.string (⟨#[]⟩ : ByteArray))) (fun _ hk => hk.2) (.bool false)) (fun _ hk => hk.2) (.slice Jge Yx.length Jgf)) (fun _ hk => hk.2) (.string (⟨#[]⟩ : ByteArray))) (fun _ hk => hk.2) (.string (⟨#[]⟩ : ByteArray))) (fun _ hk => hk.2) (.slice none 0 0)) (fun _ hk => trivial)),Xv,Zs3,Jf6,Zmm⟩
  ·rw [if_neg c53] at H
   have Zt4 : (Ty.toList == ([99] : List UInt8)) = false := beq_eq_false_iff_ne.mpr c53
   have Z75 : (Ty.toList != ([99] : List UInt8)) = true := bne_iff_ne.mpr c53
   by_cases c87 : Ty.toList = ([113] : List UInt8)
   ·rw [if_pos c87] at H
    have Jgg : (Ty.toList == ([113] : List UInt8)) = true := beq_iff_eq.mpr c87
    have Jgh : (Ty.toList != ([113] : List UInt8)) = false := bne_eq_false_iff_eq.mpr c87
    clear c87
    replace H := Option.bind_eq_some_iff.mp H
    obtain ⟨⟨Ur,Jqp,Jqq,Jqr⟩,Jyk,H⟩ := H
    replace H : ((Zq.f Jqp Jqq Jqr).bind fun Na => ((Jv.f Na.2.1 Na.2.2.1 Na.2.2.2).bind fun Fa => (Zl.l1 k Fa.1 Fa.2.1 Fa.2.2.1 Fa.2.2.2 2 (⟨#[]⟩ : ByteArray) (⟨#[]⟩ : ByteArray) false Ur Na.1 ([] : List (Y4))))) = some (r1,r2,r3,r4,r5,r6,r7,r8,r9,Fx,Fy) := H
    have A88 := Za.mk Jyk
    clear Jyk
    replace H := Option.bind_eq_some_iff.mp H
    obtain ⟨⟨Ky,Jgi,Jgj,Jgk⟩,Jyl,H⟩ := H
    replace H : ((Jv.f Jgi Jgj Jgk).bind fun Fa => (Zl.l1 k Fa.1 Fa.2.1 Fa.2.2.1 Fa.2.2.2 2 (⟨#[]⟩ : ByteArray) (⟨#[]⟩ : ByteArray) false Ur Ky ([] : List (Y4)))) = some (r1,r2,r3,r4,r5,r6,r7,r8,r9,Fx,Fy) := H
    have A89 := Za.mk Jyl
    clear Jyl
    replace H := Option.bind_eq_some_iff.mp H
    obtain ⟨⟨Jqs,Jqt,Jqu,Jqv⟩,Jym,H⟩ := H
    replace H : (Zl.l1 k Jqs Jqt Jqu Jqv 2 (⟨#[]⟩ : ByteArray) (⟨#[]⟩ : ByteArray) false Ur Ky ([] : List (Y4))) = some (r1,r2,r3,r4,r5,r6,r7,r8,r9,Fx,Fy) := H
    have A90 := Za.mk Jym
    clear Jym
    have H' := Za.mk H
    clear H
    go_enter Tryz.func25,Tryz.ntmps25
    go_wp2_with (first | ((with_reducible refine Jg (N := 2) rfl ?_);(try (refine Jr (by rfl) ?_;dsimp only));refine Je ?hg (N := 2) ?hd (cs := #[.int .i64 0,.string (⟨#[]⟩ : ByteArray),.string (⟨#[]⟩ : ByteArray),.bool false,.slice none 0 0,.string (⟨#[]⟩ : ByteArray),.string (⟨#[]⟩ : ByteArray),.slice none 0 0]) (t := 29) ?hr ?_;(case hd => rfl);(case hg => rfl);(case hr => exact Q0);intro Jw hg w91 hbox hb;replace HB := Za.mk (Zm Jcn hb);have Vi := Za.mk (hbox);have Zfh := Za.mk ((Zmq : w.heap.size ≤ Jw));have jo := Za.mk ((Nat.le_trans HW0.out (Zmq : w.heap.size ≤ Jw) : w0.heap.size ≤ Jw));replace HK := Za.mk (Ja.trans Qg (Ja.of_below hb g none) (.inl rfl));have V7 := Za.mk ((by rw [hg];exact Nat.ne_of_lt (Zp.lt (show Zp w0 _ g Yh Du Dv from by repeat (first | (with_reducible first | exact HI0.out | apply Zp.alloc | apply Zp.drewN | apply Zp.drew | apply Zp.Y9 | apply Zp.Y6 | apply Zp.Y7) | exact HI0.out))) : g ≠ Jw));have Vp := Za.mk ((by rw [hg];exact Nat.ne_of_gt (Zp.lt (show Zp w0 _ g Yh Du Dv from by repeat (first | (with_reducible first | exact HI0.out | apply Zp.alloc | apply Zp.drewN | apply Zp.drew | apply Zp.Y9 | apply Zp.Y6 | apply Zp.Y7) | exact HI0.out))) : Jw ≠ g));replace HI0 := Za.mk (Zp.below Jcm hb);clear hb hbox hg) | ((with_reducible refine Z7 (f := 35) rfl ?_);refine Ju (some 12) rfl rfl Tryz.func35 (by kernel_rfl) rfl #[.pointer (some ⟨g,0,none⟩)] rfl Yb ?_;(with_reducible refine (Zq.calls g Yh Du Dv Ty Zft Zfu Zi8 w0 _ ?side1 ?side2 A2.out).mono ?_);(case side1 => exact u1_);(case side2 => exact u2_);rintro e w92 ⟨rfl,hi,hb,hk⟩;refine ⟨_,rfl,?_⟩;replace Vi := Za.mk (Ja.blk hk (g' := Jw) (o := .cells #[.int .i64 0,.string (⟨#[]⟩ : ByteArray),.string (⟨#[]⟩ : ByteArray),.bool false,.slice none 0 0,.string (⟨#[]⟩ : ByteArray),.string (⟨#[]⟩ : ByteArray),.slice none 0 0] 29 (0,0)) J5 Vp.out (by simp));replace HK := Za.mk (Ja.trans Vz hk (.inl rfl));replace HB := Za.mk (hb);replace HI0 := Za.mk (hi);(try clear hb);(try clear hb2);(try clear hk);(try clear hi)) | ((with_reducible refine Z7 (f := 35) rfl ?_);refine Ju (some 71) rfl rfl Tryz.func35 (by kernel_rfl) rfl #[.pointer (some ⟨g,0,none⟩)] rfl Yb ?_;(with_reducible refine (Zq.calls g Zft Zfu Zi8 Ur Jqp Jqq Jqr w0 _ ?side1 ?side2 A88.out).mono ?_);(case side1 => exact u1_);(case side2 => exact u2_);rintro e w93 ⟨rfl,hi,hb,hk⟩;refine ⟨_,rfl,?_⟩;replace Vi := Za.mk (Ja.blk hk (g' := Jw) (o := .cells #[.int .i64 0,.string (⟨#[]⟩ : ByteArray),.string (⟨#[]⟩ : ByteArray),.bool false,.slice none 0 0,.string (⟨#[]⟩ : ByteArray),.string (⟨#[]⟩ : ByteArray),.slice none 0 0] 29 (0,0)) J5 Vp.out (by simp));replace HK := Za.mk (Ja.trans Vz hk (.inl rfl));replace HB := Za.mk (hb);replace HI0 := Za.mk (hi);(try clear hb);(try clear hb2);(try clear hk);(try clear hi)) | ((with_reducible refine Z7 (f := 35) rfl ?_);refine Ju (some 73) rfl rfl Tryz.func35 (by kernel_rfl) rfl #[.pointer (some ⟨g,0,none⟩)] rfl Yb ?_;(with_reducible refine (Zq.calls g Jqp Jqq Jqr Ky Jgi Jgj Jgk w0 _ ?side1 ?side2 A89.out).mono ?_);(case side1 => exact u1_);(case side2 => exact u2_);rintro e w94 ⟨rfl,hi,hb,hk⟩;refine ⟨_,rfl,?_⟩;replace Vi := Za.mk (Ja.blk hk (g' := Jw) (o := .cells #[.int .i64 0,.string (⟨#[]⟩ : ByteArray),.string (⟨#[]⟩ : ByteArray),.bool false,.slice none 0 0,.string (⟨#[]⟩ : ByteArray),.string (⟨#[]⟩ : ByteArray),.slice none 0 0] 29 (0,0)) J5 Vp.out (by simp));replace HK := Za.mk (Ja.trans Vz hk (.inl rfl));replace HB := Za.mk (hb);replace HI0 := Za.mk (hi);(try clear hb);(try clear hb2);(try clear hk);(try clear hi)) | ((with_reducible refine Jg (N := 7) rfl ?_);(try (refine Jr (by rfl) ?_;dsimp only));refine Je ?hg (N := 7) ?hd (cs := #[.int .i64 0,.string (⟨#[]⟩ : ByteArray),.string (⟨#[]⟩ : ByteArray),.bool false,.slice none 0 0,.string (⟨#[]⟩ : ByteArray),.string (⟨#[]⟩ : ByteArray),.slice none 0 0]) (t := 29) ?hr ?_;(case hd => rfl);(case hg => rfl);(case hr => exact Q0);intro Uo hg w95 hbox hb;replace HB := Za.mk (Zm Jcl hb);have Un := Za.mk (hbox);have Jmw := Za.mk ((Zs9 : w.heap.size ≤ Uo));have Z73 := Za.mk ((Nat.le_trans HW0.out (Zs9 : w.heap.size ≤ Uo) : w0.heap.size ≤ Uo));replace HK := Za.mk (Ja.trans Vz (Ja.of_below hb g none) (.inl rfl));have Ua := Za.mk ((Pd : Jw ≠ Uo));have Zd9 := Za.mk ((je : Uo ≠ Jw));replace Vi := Za.mk (Zw (g := Jw) (o := .cells #[.int .i64 0,.string (⟨#[]⟩ : ByteArray),.string (⟨#[]⟩ : ByteArray),.bool false,.slice none 0 0,.string (⟨#[]⟩ : ByteArray),.string (⟨#[]⟩ : ByteArray),.slice none 0 0] 29 (0,0)) J5 hb);have K4 := Za.mk (((by rw [hg];exact Nat.ne_of_lt (Zp.lt (show Zp w0 _ g Jgi Jgj Jgk from by repeat (first | (with_reducible first | exact HI0.out | apply Zp.alloc | apply Zp.drewN | apply Zp.drew | apply Zp.Y9 | apply Zp.Y6 | apply Zp.Y7 | (apply Zp.far;rotate_left;exact V7.out;rotate_right)) | exact HI0.out)))) : g ≠ Uo));have G9 := Za.mk (((by rw [hg];exact Nat.ne_of_gt (Zp.lt (show Zp w0 _ g Jgi Jgj Jgk from by repeat (first | (with_reducible first | exact HI0.out | apply Zp.alloc | apply Zp.drewN | apply Zp.drew | apply Zp.Y9 | apply Zp.Y6 | apply Zp.Y7 | (apply Zp.far;rotate_left;exact V7.out;rotate_right)) | exact HI0.out)))) : Uo ≠ g));replace HI0 := Za.mk (Zp.below Jcj hb);clear hb hbox hg;have Vid := Zd9.out;have Vie := Ua.out;have Vif := G9.out;have Vig := K4.out;obtain ⟨Jaa,Jab,Jac,Jad,Jae,Jaf,Jag,Jah,Jai,Jaj,Jak,Jal,Jam,Jan,Jao,Jap⟩ := Jf Un.out) | ((with_reducible refine Z7 (f := 36) rfl ?_);refine Ju (some 76) rfl rfl Tryz.func36 (by kernel_rfl) rfl #[.pointer (some ⟨g,0,none⟩)] rfl Yb ?_;(with_reducible refine (Jv.calls g Jgi Jgj Jgk Jqs Jqt Jqu Jqv w0 _ ?side1 ?side2 A90.out).mono ?_);(case side1 => exact u7_);(case side2 => exact u8_);rintro e w99 ⟨rfl,hi,hb,hk⟩;refine ⟨_,rfl,?_⟩;replace Vi := Za.mk (Ja.blk hk (g' := Jw) (o := .cells #[.int .i64 0,.string (⟨#[]⟩ : ByteArray),.string (⟨#[]⟩ : ByteArray),.bool false,.slice none 0 0,.string (⟨#[]⟩ : ByteArray),.string (⟨#[]⟩ : ByteArray),.slice none 0 0] 29 (0,0)) (by (with_reducible repeat (first | refine Zc ?_ _ | refine Zf ?_ | refine Zb ?_ _));refine Jl ?_ Ua.out _;(with_reducible repeat (first | refine Zc ?_ _ | refine Zf ?_ | refine Zb ?_ _));refine Jl ?_ Ua.out _;(with_reducible repeat (first | refine Zc ?_ _ | refine Zf ?_ | refine Zb ?_ _));refine Jl ?_ Ua.out _;(with_reducible repeat (first | refine Zc ?_ _ | refine Zf ?_ | refine Zb ?_ _));refine Jl ?_ Ua.out _;(with_reducible repeat (first | refine Zc ?_ _ | refine Zf ?_ | refine Zb ?_ _));refine Jl ?_ Ua.out _;(with_reducible repeat (first | refine Zc ?_ _ | refine Zf ?_ | refine Zb ?_ _));refine Jl ?_ Ua.out _;(with_reducible repeat (first | refine Zc ?_ _ | refine Zf ?_ | refine Zb ?_ _));refine Jl ?_ Ua.out _;(with_reducible repeat (first | refine Zc ?_ _ | refine Zf ?_ | refine Zb ?_ _));refine Jl ?_ Ua.out _;(with_reducible repeat (first | refine Zc ?_ _ | refine Zf ?_ | refine Zb ?_ _));exact Vi.out) Vp.out (by simp));replace Un := Za.mk (Ja.blk hk (g' := Uo) (o := .cells #[.int .i64 2,.string (⟨#[]⟩ : ByteArray),.string (⟨#[]⟩ : ByteArray),.bool false,.slice none 0 0,.string Ur,.string Ky,.slice none 0 0] 29 (0,0)) (by (with_reducible repeat (first | refine Zc ?_ _ | refine Zf ?_ | refine Zb ?_ _));refine Zo (cs := #[.int .i64 2,.string (⟨#[]⟩ : ByteArray),.string (⟨#[]⟩ : ByteArray),.bool false,.slice none 0 0,.string Ur,.string Ky,.slice none 0 0]) ?_ 7 _ rfl;(with_reducible repeat (first | refine Zc ?_ _ | refine Zf ?_ | refine Zb ?_ _));refine Zo (cs := #[.int .i64 2,.string (⟨#[]⟩ : ByteArray),.string (⟨#[]⟩ : ByteArray),.bool false,.slice none 0 0,.string Ur,.string (⟨#[]⟩ : ByteArray),.slice none 0 0]) ?_ 6 _ rfl;(with_reducible repeat (first | refine Zc ?_ _ | refine Zf ?_ | refine Zb ?_ _));refine Zo (cs := #[.int .i64 2,.string (⟨#[]⟩ : ByteArray),.string (⟨#[]⟩ : ByteArray),.bool false,.slice none 0 0,.string (⟨#[]⟩ : ByteArray),.string (⟨#[]⟩ : ByteArray),.slice none 0 0]) ?_ 5 _ rfl;(with_reducible repeat (first | refine Zc ?_ _ | refine Zf ?_ | refine Zb ?_ _));refine Zo (cs := #[.int .i64 2,.string (⟨#[]⟩ : ByteArray),.string (⟨#[]⟩ : ByteArray),.bool false,.slice none 0 0,.string (⟨#[]⟩ : ByteArray),.string (⟨#[]⟩ : ByteArray),.slice none 0 0]) ?_ 4 _ rfl;(with_reducible repeat (first | refine Zc ?_ _ | refine Zf ?_ | refine Zb ?_ _));refine Zo (cs := #[.int .i64 2,.string (⟨#[]⟩ : ByteArray),.string (⟨#[]⟩ : ByteArray),.bool false,.slice none 0 0,.string (⟨#[]⟩ : ByteArray),.string (⟨#[]⟩ : ByteArray),.slice none 0 0]) ?_ 3 _ rfl;(with_reducible repeat (first | refine Zc ?_ _ | refine Zf ?_ | refine Zb ?_ _));refine Zo (cs := #[.int .i64 2,.string (⟨#[]⟩ : ByteArray),.string (⟨#[]⟩ : ByteArray),.bool false,.slice none 0 0,.string (⟨#[]⟩ : ByteArray),.string (⟨#[]⟩ : ByteArray),.slice none 0 0]) ?_ 2 _ rfl;(with_reducible repeat (first | refine Zc ?_ _ | refine Zf ?_ | refine Zb ?_ _));refine Zo (cs := #[.int .i64 2,.string (⟨#[]⟩ : ByteArray),.string (⟨#[]⟩ : ByteArray),.bool false,.slice none 0 0,.string (⟨#[]⟩ : ByteArray),.string (⟨#[]⟩ : ByteArray),.slice none 0 0]) ?_ 1 _ rfl;(with_reducible repeat (first | refine Zc ?_ _ | refine Zf ?_ | refine Zb ?_ _));refine Zo (cs := #[.int .i64 0,.string (⟨#[]⟩ : ByteArray),.string (⟨#[]⟩ : ByteArray),.bool false,.slice none 0 0,.string (⟨#[]⟩ : ByteArray),.string (⟨#[]⟩ : ByteArray),.slice none 0 0]) ?_ 0 _ rfl;(with_reducible repeat (first | refine Zc ?_ _ | refine Zf ?_ | refine Zb ?_ _));exact Un.out) G9.out (by simp));replace HK := Za.mk (Ja.trans Xu hk (.inl rfl));replace HB := Za.mk (hb);replace HI0 := Za.mk (hi);(try clear hb);(try clear hb2);(try clear hk);(try clear hi)))
    go_loopg [8] k (fun kq v8 w' => ∃ (jq : Int) (Q5 : ByteArray) (Q6 : Int) (Kb : Bool) (J7 : List (Y4)) (Qa : Value),v8 = .int .i64 jq ∧ Za (Zl.l1 kq jq Q5 Q6 Kb 2 (⟨#[]⟩ : ByteArray) (⟨#[]⟩ : ByteArray) false Ur Ky J7 = some (r1,r2,r3,r4,r5,r6,r7,r8,r9,Fx,Fy)) ∧ Za (kq ≤ k) ∧ Za (Kd.R k44 44 w' w.heap.size (fun _ => True) Qa J7) ∧ Za (w'.heap[Jw]? = some (.cells #[.int .i64 0,.string (⟨#[]⟩ : ByteArray),.string (⟨#[]⟩ : ByteArray),.bool false,(.slice none 0 0),.string (⟨#[]⟩ : ByteArray),.string (⟨#[]⟩ : ByteArray),(.slice none 0 0)] 29 (0,0))) ∧ Za (w'.heap[Uo]? = some (.cells #[.int .i64 2,.string (⟨#[]⟩ : ByteArray),.string (⟨#[]⟩ : ByteArray),.bool false,(.slice none 0 0),.string Ur,.string Ky,Qa] 29 (0,0))) ∧ Za (Zp w0 w' g Q5 Q6 Kb) ∧ Za (Ja w w' g none) ∧ Za (Below w0.heap.size w0 w'))
    case atStart => exact ⟨(Jqs),(Jqt),(Jqu),(Jqv),(([] : List (Y4))),(.slice none 0 0),Z4a,H',⟨Nat.le_refl _⟩,⟨Xv⟩,⟨J5⟩,⟨Ye⟩,⟨Zml⟩,⟨Xu⟩,⟨Jck⟩⟩
    case round =>
     clear H'
     try clear c1
     try clear c2
     try clear p2 p2
     try clear c3
     try clear ww
     try clear Zg1
     try clear c4
     try clear c5
     try clear c6
     try clear p6
     try clear c7
     try clear c8
     try clear c9
     try clear c12
     try clear c13
     try clear c20
     try clear Pq
     try clear Sn
     try clear Ziq
     try clear c25
     try clear c28
     try clear c29
     try clear jc
     try clear c36
     try clear c43
     try clear c44
     try clear c51
     try clear c53
     try clear Zt4
     try clear Z75
     try clear c60
     try clear c61
     try clear c64
     try clear Jga
     try clear p64
     try clear c65
     try clear c67
     try clear c68
     try clear c70
     try clear c74
     try clear c81
     try clear c82
     try clear c84
     try clear c87
     try clear Jgg
     try clear Jgh
     try clear c96
     try clear c97
     try clear Zgc Zgd Zge Zxm Zxn Zxo Zxp Zxq
     try clear Rt Ru Rv
     try clear Ra Rb Rc qi qj ql qm qo
     try clear Zdj Zdk Zdl Zxw Zxx Zxy Zxz Zx0
     try clear Lp Lr Ls Lt Lu Lv Lx L6
     try clear Dy Dz D5 Gd Gf Gg Gh Gi
     try clear Rz R3 R4
     try clear Uz U0 U1 Wx Wy Wz W9 Da
     try clear sj su sw tq tu Zaa Zab Zac
     try clear mi mo mq mr ng ni nk nu
     try clear yh yj yl ym yn yo yt yu
     try clear S9 Ta Tc
     try clear Zg8 Zg9 Zha Zns Znt Znu Znv Znw
     try clear Zi9 Zja Zjb Zjc Zjd Zje Zjf Zjg
     try clear q8 q9 uf ug uh ui uj uk
     try clear Zo7 Zo8 Zo9 Zpa Zpb Zpc Zpd Zpe
     try clear Z76 Z77 Z78
     try clear Z8c Z8d Z8e Z8f Z8g Z8h Z8i Z8j
     try clear Z8s Z8t Z8u Z8v Z8w Z8x Z8y Z8z
     try clear Z88 Z89 Z9a
     try clear Z9e Z9f Z9g Z9h Z9i Z9j Z9k Z9l
     try clear Z9u Z9v Z9w Z9x Z9y Z9z Z90 Z91
     try clear Jaa Jab Jac Jad Jae Jaf Jag Jah
     try clear Zgf Zgg Zgh Zxr Zxs Zxt Zxu Zxv
     try clear Rw Rx Ry
     try clear Re Rf Rh qp qw qx qy qz
     try clear Zdm Zdn Zdo Zx1 Zx2 Zx3 Zx4 Zx5
     try clear L8 L9 Ma Mc Md Me Mf Mg
     try clear D6 D7 D8 Gj Gl Gm Gn Gp
     try clear R5 R6 R7
     try clear U2 U3 U4 Db Dc De Df Dg
     try clear Zad Zae Zaf Zag Zah Zai Zaj Zak
     try clear ny nz pg pq pu pz p8 p9
     try clear yw yx yz xc xe xg xh xk
     try clear Td Te Tf
     try clear Zhb Zhc Zhd Znx Zny Znz Zn0 Zn1
     try clear Zjh Zji Zjj Zjk Zjl Zjm Zjn Zjo
     try clear ul um uo uq ut uu uw uy
     try clear Zpf Zpg Zph Zpi Zpj Zpk Zpl Zpm
     try clear Z79 Z8a Z8b
     try clear Z8k Z8l Z8m Z8n Z8o Z8p Z8q Z8r
     try clear Z80 Z81 Z82 Z83 Z84 Z85 Z86 Z87
     try clear Z9b Z9c Z9d
     try clear Z9m Z9n Z9o Z9p Z9q Z9r Z9s Z9t
     try clear Z92 Z93 Z94 Z95 Z96 Z97 Z98 Z99
     try clear Jai Jaj Jak Jal Jam Jan Jao Jap
     obtain ⟨jq,Q5,Q6,Kb,J7,Qa,rfl,HA,HK1,Vq,Vi,Un,HI0,HK,HB⟩ := hrel
     cases gk with
     | zero => exact absurd HA.out (by simp [Zl.l1])
     | succ k1 =>
      have H := HA.out
      clear HA
      simp only [Zl.l1] at H
      have Jgl := Za.mk H
      clear H
      go_upto_region 18 with (fail)
      go_cut [85] (fun v85 wc => ∃ (kq : Nat) (Zx7 : Bool),v85 = .bool Zx7 ∧ Za (Zl.j2 kq jq Zx7 Q5 Q6 Kb 2 (⟨#[]⟩ : ByteArray) (⟨#[]⟩ : ByteArray) false Ur Ky J7 = some (r1,r2,r3,r4,r5,r6,r7,r8,r9,Fx,Fy)) ∧ Za (kq ≤ k1) ∧ Za (Kd.R k44 44 wc w.heap.size (fun _ => True) Qa J7) ∧ Za (wc.heap[Jw]? = some (.cells #[.int .i64 0,.string (⟨#[]⟩ : ByteArray),.string (⟨#[]⟩ : ByteArray),.bool false,(.slice none 0 0),.string (⟨#[]⟩ : ByteArray),.string (⟨#[]⟩ : ByteArray),(.slice none 0 0)] 29 (0,0))) ∧ Za (wc.heap[Uo]? = some (.cells #[.int .i64 2,.string (⟨#[]⟩ : ByteArray),.string (⟨#[]⟩ : ByteArray),.bool false,(.slice none 0 0),.string Ur,.string Ky,Qa] 29 (0,0))) ∧ Za (Zp w0 wc g Q5 Q6 Kb) ∧ Za (Ja w wc g none) ∧ Za (Below w0.heap.size w0 wc))
      case first =>
       have H := Jgl.out
       clear Jgl
       by_cases Z4b : jq > 0
       ·rw [if_pos Z4b] at H
        have Zld : decide (0 < jq) = true := decide_eq_true Z4b
        clear Z4b
        (first | rw [Zld] | (simp only [Jo,Jq];rw [Zld]) | skip)
        have H' := Za.mk H
        clear H
        obtain ⟨Zfv,Jqw⟩ := HI0.out
        have Jgm := Xg Zfv
        have Jgn := Xh Zfv
        have Jgo := Xi Zfv
        have Jgp := Zj Zfv 0
        have Jgq := Zj Zfv 1
        have Jgr := Zj Zfv 2
        clear Zfv Jqw
        go_wp2
        go_meet
        case rel => exact ⟨_,(!Kb),Z4a,H',⟨(by have := HK1.out;first | omega | exact Nat.le_refl _)⟩,⟨Zs8⟩,⟨J5⟩,⟨Ye⟩,⟨Zml⟩,⟨Xu⟩,⟨Jck⟩⟩
       ·rw [if_neg Z4b] at H
        have Zld : decide (0 < jq) = false := decide_eq_false Z4b
        clear Z4b
        (first | rw [Zld] | (simp only [Jo,Jq];rw [Zld]) | skip)
        have H' := Za.mk H
        clear H
        go_wp2
        go_meet
        case rel => exact ⟨_,(false),Z4a,H',⟨(by have := HK1.out;first | omega | exact Nat.le_refl _)⟩,⟨Zs8⟩,⟨J5⟩,⟨Ye⟩,⟨Zml⟩,⟨Xu⟩,⟨Jck⟩⟩
      case rest =>
       clear Jgl
       try clear c1
       try clear c2
       try clear p2 p2
       try clear c3
       try clear ww
       try clear Zg1
       try clear c4
       try clear c5
       try clear c6
       try clear p6 p6
       try clear c7
       try clear c8
       try clear c9
       try clear c10
       try clear c12
       try clear c13
       try clear c20
       try clear Pq
       try clear Sn
       try clear Ziq
       try clear c25
       try clear c28
       try clear c29
       try clear jc
       try clear c36
       try clear c43
       try clear c44
       try clear c51
       try clear c53
       try clear Zt4
       try clear Z75
       try clear c60
       try clear c61
       try clear c64
       try clear Jga
       try clear p64 p64
       try clear c65
       try clear c67
       try clear c68
       try clear c70
       try clear c74
       try clear c81
       try clear c82
       try clear c84
       try clear c87
       try clear Jgg
       try clear Jgh
       try clear c96
       try clear c97
       try clear Z4b
       try clear Zld
       try clear Jgm Jgn Jgo
       try clear Zgc Zgd Zge Zxm Zxn Zxo Zxp Zxq
       try clear Rt Ru Rv
       try clear Ra Rb Rc qi qj ql qm qo
       try clear Zdj Zdk Zdl Zxw Zxx Zxy Zxz Zx0
       try clear Lp Lr Ls Lt Lu Lv Lx L6
       try clear Dy Dz D5 Gd Gf Gg Gh Gi
       try clear Rz R3 R4
       try clear Uz U0 U1 Wx Wy Wz W9 Da
       try clear sj su sw tq tu Zaa Zab Zac
       try clear mi mo mq mr ng ni nk nu
       try clear yh yj yl ym yn yo yt yu
       try clear S9 Ta Tc
       try clear Zg8 Zg9 Zha Zns Znt Znu Znv Znw
       try clear Zi9 Zja Zjb Zjc Zjd Zje Zjf Zjg
       try clear q8 q9 uf ug uh ui uj uk
       try clear Zo7 Zo8 Zo9 Zpa Zpb Zpc Zpd Zpe
       try clear Z76 Z77 Z78
       try clear Z8c Z8d Z8e Z8f Z8g Z8h Z8i Z8j
       try clear Z8s Z8t Z8u Z8v Z8w Z8x Z8y Z8z
       try clear Z88 Z89 Z9a
       try clear Z9e Z9f Z9g Z9h Z9i Z9j Z9k Z9l
       try clear Z9u Z9v Z9w Z9x Z9y Z9z Z90 Z91
       try clear Jaa Jab Jac Jad Jae Jaf Jag Jah
       try clear Jgp Jgq Jgr
       try clear Zgf Zgg Zgh Zxr Zxs Zxt Zxu Zxv
       try clear Rw Rx Ry
       try clear Re Rf Rh qp qw qx qy qz
       try clear Zdm Zdn Zdo Zx1 Zx2 Zx3 Zx4 Zx5
       try clear L8 L9 Ma Mc Md Me Mf Mg
       try clear D6 D7 D8 Gj Gl Gm Gn Gp
       try clear R5 R6 R7
       try clear U2 U3 U4 Db Dc De Df Dg
       try clear Zad Zae Zaf Zag Zah Zai Zaj Zak
       try clear ny nz pg pq pu pz p8 p9
       try clear yw yx yz xc xe xg xh xk
       try clear Td Te Tf
       try clear Zhb Zhc Zhd Znx Zny Znz Zn0 Zn1
       try clear Zjh Zji Zjj Zjk Zjl Zjm Zjn Zjo
       try clear ul um uo uq ut uu uw uy
       try clear Zpf Zpg Zph Zpi Zpj Zpk Zpl Zpm
       try clear Z79 Z8a Z8b
       try clear Z8k Z8l Z8m Z8n Z8o Z8p Z8q Z8r
       try clear Z80 Z81 Z82 Z83 Z84 Z85 Z86 Z87
       try clear Z9b Z9c Z9d
       try clear Z9m Z9n Z9o Z9p Z9q Z9r Z9s Z9t
       try clear Z92 Z93 Z94 Z95 Z96 Z97 Z98 Z99
       try clear Jai Jaj Jak Jal Jam Jan Jao Jap
       obtain ⟨kq,Zx7,rfl,HA,Jk5,Vq,Vi,Un,HI0,HK,HB⟩ := hcut
       cases kq with
       | zero => exact absurd HA.out (by simp [Zl.j2])
       | succ Ze9 =>
        have H := HA.out
        clear HA
        simp only [Zl.j2] at H
        by_cases Jk6 : Zx7 = true
        ·subst Jk6
         have H1 : ((Zq.f Q5 Q6 Kb).bind fun Zbs => ((Zq.f Zbs.2.1 Zbs.2.2.1 Zbs.2.2.2).bind fun Sc => ((strings_Index.f (⟨#[116,110,109]⟩ : ByteArray) Sc.1).bind fun Gr => ((Zq.f Sc.2.1 Sc.2.2.1 Sc.2.2.2).bind fun X4 => (if X4.2.2.2 = true then (if J7.length < 3518437208883 then (Zl.l1 Ze9 (wrap64 (jq - 1)) X4.2.1 X4.2.2.1 true 2 (⟨#[]⟩ : ByteArray) (⟨#[]⟩ : ByteArray) false Ur Ky (J7 ++ [(⟨Zbs.1,Gr,X4.1⟩ : Y4)])) else (none)) else (if J7.length < 3518437208883 then (Zl.l1 Ze9 (wrap64 (jq - 1)) X4.2.1 X4.2.2.1 ((Sc.1.size : Int) != 1) 2 (⟨#[]⟩ : ByteArray) (⟨#[]⟩ : ByteArray) false Ur Ky (J7 ++ [(⟨Zbs.1,Gr,X4.1⟩ : Y4)])) else (none))))))) = some (r1,r2,r3,r4,r5,r6,r7,r8,r9,Fx,Fy) := by rw [if_pos rfl] at H;exact H
         clear H
         have H := H1
         clear H1
         replace H := Option.bind_eq_some_iff.mp H
         obtain ⟨⟨Gq,Zxc,Zxd,Zxe⟩,Jm0,H⟩ := H
         replace H : ((Zq.f Zxc Zxd Zxe).bind fun Sc => ((strings_Index.f (⟨#[116,110,109]⟩ : ByteArray) Sc.1).bind fun Gr => ((Zq.f Sc.2.1 Sc.2.2.1 Sc.2.2.2).bind fun X4 => (if X4.2.2.2 = true then (if J7.length < 3518437208883 then (Zl.l1 Ze9 (wrap64 (jq - 1)) X4.2.1 X4.2.2.1 true 2 (⟨#[]⟩ : ByteArray) (⟨#[]⟩ : ByteArray) false Ur Ky (J7 ++ [(⟨Gq,Gr,X4.1⟩ : Y4)])) else (none)) else (if J7.length < 3518437208883 then (Zl.l1 Ze9 (wrap64 (jq - 1)) X4.2.1 X4.2.2.1 ((Sc.1.size : Int) != 1) 2 (⟨#[]⟩ : ByteArray) (⟨#[]⟩ : ByteArray) false Ur Ky (J7 ++ [(⟨Gq,Gr,X4.1⟩ : Y4)])) else (none)))))) = some (r1,r2,r3,r4,r5,r6,r7,r8,r9,Fx,Fy) := H
         have Jyn := Za.mk Jm0
         clear Jm0
         replace H := Option.bind_eq_some_iff.mp H
         obtain ⟨⟨Zjq,Z1r,Z1s,Z1t⟩,Jm1,H⟩ := H
         replace H : ((strings_Index.f (⟨#[116,110,109]⟩ : ByteArray) Zjq).bind fun Gr => ((Zq.f Z1r Z1s Z1t).bind fun X4 => (if X4.2.2.2 = true then (if J7.length < 3518437208883 then (Zl.l1 Ze9 (wrap64 (jq - 1)) X4.2.1 X4.2.2.1 true 2 (⟨#[]⟩ : ByteArray) (⟨#[]⟩ : ByteArray) false Ur Ky (J7 ++ [(⟨Gq,Gr,X4.1⟩ : Y4)])) else (none)) else (if J7.length < 3518437208883 then (Zl.l1 Ze9 (wrap64 (jq - 1)) X4.2.1 X4.2.2.1 ((Zjq.size : Int) != 1) 2 (⟨#[]⟩ : ByteArray) (⟨#[]⟩ : ByteArray) false Ur Ky (J7 ++ [(⟨Gq,Gr,X4.1⟩ : Y4)])) else (none))))) = some (r1,r2,r3,r4,r5,r6,r7,r8,r9,Fx,Fy) := H
         have Jyo := Za.mk Jm1
         clear Jm1
         replace H := Option.bind_eq_some_iff.mp H
         obtain ⟨Gr,Jm2,H⟩ := H
         replace H : ((Zq.f Z1r Z1s Z1t).bind fun X4 => (if X4.2.2.2 = true then (if J7.length < 3518437208883 then (Zl.l1 Ze9 (wrap64 (jq - 1)) X4.2.1 X4.2.2.1 true 2 (⟨#[]⟩ : ByteArray) (⟨#[]⟩ : ByteArray) false Ur Ky (J7 ++ [(⟨Gq,Gr,X4.1⟩ : Y4)])) else (none)) else (if J7.length < 3518437208883 then (Zl.l1 Ze9 (wrap64 (jq - 1)) X4.2.1 X4.2.2.1 ((Zjq.size : Int) != 1) 2 (⟨#[]⟩ : ByteArray) (⟨#[]⟩ : ByteArray) false Ur Ky (J7 ++ [(⟨Gq,Gr,X4.1⟩ : Y4)])) else (none)))) = some (r1,r2,r3,r4,r5,r6,r7,r8,r9,Fx,Fy) := H
         have Jyp := Za.mk Jm2
         clear Jm2
         replace H := Option.bind_eq_some_iff.mp H
         obtain ⟨⟨si,Ztb,Ztc,Jyq⟩,Jm3,H⟩ := H
         replace H : (if Jyq = true then (if J7.length < 3518437208883 then (Zl.l1 Ze9 (wrap64 (jq - 1)) Ztb Ztc true 2 (⟨#[]⟩ : ByteArray) (⟨#[]⟩ : ByteArray) false Ur Ky (J7 ++ [(⟨Gq,Gr,si⟩ : Y4)])) else (none)) else (if J7.length < 3518437208883 then (Zl.l1 Ze9 (wrap64 (jq - 1)) Ztb Ztc ((Zjq.size : Int) != 1) 2 (⟨#[]⟩ : ByteArray) (⟨#[]⟩ : ByteArray) false Ur Ky (J7 ++ [(⟨Gq,Gr,si⟩ : Y4)])) else (none))) = some (r1,r2,r3,r4,r5,r6,r7,r8,r9,Fx,Fy) := H
         have Jyr := Za.mk Jm3
         clear Jm3
         by_cases Jk7 : Jyq = true
         ·subst Jk7
          have H1 : (if J7.length < 3518437208883 then (Zl.l1 Ze9 (wrap64 (jq - 1)) Ztb Ztc true 2 (⟨#[]⟩ : ByteArray) (⟨#[]⟩ : ByteArray) false Ur Ky (J7 ++ [(⟨Gq,Gr,si⟩ : Y4)])) else (none)) = some (r1,r2,r3,r4,r5,r6,r7,r8,r9,Fx,Fy) := by rw [if_pos rfl] at H;exact H
          clear H
          have H := H1
          clear H1
          by_cases c109 : J7.length < 3518437208883
          ·rw [if_pos c109] at H
           have Jqx := Za.mk c109
           clear c109
           obtain ⟨Jk8,Z1u⟩ : ∃ y_ : List (Y4),y_ = (J7 ++ [(⟨Gq,Gr,si⟩ : Y4)]) := ⟨_,rfl⟩
           replace H : (Zl.l1 Ze9 (wrap64 (jq - 1)) Ztb Ztc true 2 (⟨#[]⟩ : ByteArray) (⟨#[]⟩ : ByteArray) false Ur Ky Jk8) = some (r1,r2,r3,r4,r5,r6,r7,r8,r9,Fx,Fy) := by first | (rw [Z1u];with_reducible exact H) | (have jg := (Option.bind_some _ _).symm.trans H;rw [Z1u];with_reducible exact jg) | (have jg := (Option.bind_some _ _).symm.trans H;with_reducible exact jg) | with_reducible exact H | (rw [Z1u];exact H) | exact H
           have Jys := Za.mk Z1u
           clear Z1u
           have H' := Za.mk H
           clear H
           go_wp2_with (first | ((with_reducible refine Z7 (f := 35) rfl ?_);refine Ju (some 89) rfl rfl Tryz.func35 (by kernel_rfl) rfl #[.pointer (some ⟨g,0,none⟩)] rfl Yb ?_;(with_reducible refine (Zq.calls g Q5 Q6 Kb Gq Zxc Zxd Zxe w0 _ ?side1 ?side2 Jyn.out).mono ?_);(case side1 => exact u7_);(case side2 => exact u8_);rintro e Vlh ⟨rfl,hi,hb,hk⟩;refine ⟨_,rfl,?_⟩;replace Vq := Za.mk (Kd.Xc (Kd.Zfj (Zp.apart (show Zp w0 _ g Q5 Q6 Kb from by repeat (first | (with_reducible first | exact HI0.out | apply Zp.alloc | apply Zp.drewN | apply Zp.drew | apply Zp.Y9 | apply Zp.Y6 | apply Zp.Y7 | (apply Zp.far;rotate_left;exact V7.out;rotate_right) | (apply Zp.far;rotate_left;exact K4.out;rotate_right)) | exact HI0.out)) Zs8 (by decide)) hk (fun _ h => h.2)) (fun _ h => h.1));replace Vi := Za.mk (Ja.blk hk (g' := Jw) (o := .cells #[.int .i64 0,.string (⟨#[]⟩ : ByteArray),.string (⟨#[]⟩ : ByteArray),.bool false,.slice none 0 0,.string (⟨#[]⟩ : ByteArray),.string (⟨#[]⟩ : ByteArray),.slice none 0 0] 29 (0,0)) J5 Vp.out (by simp));replace Un := Za.mk (Ja.blk hk (g' := Uo) (o := .cells #[.int .i64 2,.string (⟨#[]⟩ : ByteArray),.string (⟨#[]⟩ : ByteArray),.bool false,.slice none 0 0,.string Ur,.string Ky,Qa] 29 (0,0)) Ye G9.out (by simp));replace HK := Za.mk (Ja.trans Xu hk (.inl rfl));replace HB := Za.mk (hb);replace HI0 := Za.mk (hi);(try clear hb);(try clear hb2);(try clear hk);(try clear hi)) | ((with_reducible refine Jg (N := 9) rfl ?_);(try (refine Jr (by rfl) ?_;dsimp only));refine Je ?hg (N := 9) ?hd (cs := #[.string (⟨#[]⟩ : ByteArray),.int .i64 0,.string (⟨#[]⟩ : ByteArray)]) (t := 44) ?hr ?_;(case hd => rfl);(case hg => rfl);(case hr => exact Q0);intro Xo hg Vli hbox hb;replace Vq := Za.mk (Kd.Qq (Kd.Zzp Zs8 Xo (Nat.le_of_eq hg.symm)) hb);replace HB := Za.mk (Zm Jck hb);have Su := Za.mk (hbox);have Jmx := Za.mk ((Jkz : w.heap.size ≤ Xo));have Jf5 := Za.mk ((Nat.le_trans HW0.out (Jkz : w.heap.size ≤ Xo) : w0.heap.size ≤ Xo));replace HK := Za.mk (Ja.trans Xu (Ja.of_below hb g none) (.inl rfl));have H6 := Za.mk ((Pd : Jw ≠ Xo));have Zle := Za.mk ((je : Xo ≠ Jw));replace Vi := Za.mk (Zw (g := Jw) (o := .cells #[.int .i64 0,.string (⟨#[]⟩ : ByteArray),.string (⟨#[]⟩ : ByteArray),.bool false,.slice none 0 0,.string (⟨#[]⟩ : ByteArray),.string (⟨#[]⟩ : ByteArray),.slice none 0 0] 29 (0,0)) J5 hb);have H8 := Za.mk ((Jxt : Uo ≠ Xo));have Zlf := Za.mk ((Jxu : Xo ≠ Uo));replace Un := Za.mk (Zw (g := Uo) (o := .cells #[.int .i64 2,.string (⟨#[]⟩ : ByteArray),.string (⟨#[]⟩ : ByteArray),.bool false,.slice none 0 0,.string Ur,.string Ky,Qa] 29 (0,0)) Ye hb);have Tx := Za.mk ((Jxp : g ≠ Xo));have u6 := Za.mk ((Jxq : Xo ≠ g));replace HI0 := Za.mk (Zp.below Zml hb);clear hb hbox hg;have Vdc := Zle.out;have Vdd := H6.out;have Vde := Zlf.out;have Vdf := H8.out;have Vdg := u6.out;have Vdh := Tx.out;obtain ⟨Jyt,Jyu,Jyv,Jyw,Jyx,Jyy⟩ := Va Su.out) | ((with_reducible refine Z7 (f := 35) rfl ?_);refine Ju (some 92) rfl rfl Tryz.func35 (by kernel_rfl) rfl #[.pointer (some ⟨g,0,none⟩)] rfl Yb ?_;(with_reducible refine (Zq.calls g Zxc Zxd Zxe Zjq Z1r Z1s Z1t w0 _ ?side1 ?side2 Jyo.out).mono ?_);(case side1 => exact u9_);(case side2 => exact Jk0);rintro e Vlj ⟨rfl,hi,hb,hk⟩;refine ⟨_,rfl,?_⟩;replace Vq := Za.mk (Kd.Xc (Kd.Zfj (Zp.apart (show Zp w0 _ g Zxc Zxd Zxe from by repeat (first | (with_reducible first | exact HI0.out | apply Zp.alloc | apply Zp.drewN | apply Zp.drew | apply Zp.Y9 | apply Zp.Y6 | apply Zp.Y7 | (apply Zp.far;rotate_left;exact V7.out;rotate_right) | (apply Zp.far;rotate_left;exact K4.out;rotate_right) | (apply Zp.far;rotate_left;exact Tx.out;rotate_right)) | exact HI0.out)) Jxo (by decide)) hk (fun _ h => h.2)) (fun _ h => h.1));replace Vi := Za.mk (Ja.blk hk (g' := Jw) (o := .cells #[.int .i64 0,.string (⟨#[]⟩ : ByteArray),.string (⟨#[]⟩ : ByteArray),.bool false,.slice none 0 0,.string (⟨#[]⟩ : ByteArray),.string (⟨#[]⟩ : ByteArray),.slice none 0 0] 29 (0,0)) Jxk Vp.out (by simp));replace Un := Za.mk (Ja.blk hk (g' := Uo) (o := .cells #[.int .i64 2,.string (⟨#[]⟩ : ByteArray),.string (⟨#[]⟩ : ByteArray),.bool false,.slice none 0 0,.string Ur,.string Ky,Qa] 29 (0,0)) Jxl G9.out (by simp));replace Su := Za.mk (Ja.blk hk (g' := Xo) (o := .cells #[.string Gq,.int .i64 0,.string (⟨#[]⟩ : ByteArray)] 44 (0,0)) Jxj u6.out (by simp));replace HK := Za.mk (Ja.trans Qw hk (.inl rfl));replace HB := Za.mk (hb);replace HI0 := Za.mk (hi);(try clear hb);(try clear hb2);(try clear hk);(try clear hi)) | ((with_reducible refine Z7 (f := 37) rfl ?_);refine Ju (some 94) rfl rfl Tryz.func37 (by kernel_rfl) rfl #[.string (⟨#[116,110,109]⟩ : ByteArray),.string Zjq] rfl Yb ?_;(with_reducible refine (strings_Index.calls (⟨#[116,110,109]⟩ : ByteArray) Zjq Gr _ Jyp.out).mono ?_);rintro e Vlk ⟨rfl,hb⟩;refine ⟨_,rfl,?_⟩;replace Vq := Za.mk (Kd.Qq Zs8 hb);replace Vi := Za.mk (Zw (g := Jw) (o := .cells #[.int .i64 0,.string (⟨#[]⟩ : ByteArray),.string (⟨#[]⟩ : ByteArray),.bool false,.slice none 0 0,.string (⟨#[]⟩ : ByteArray),.string (⟨#[]⟩ : ByteArray),.slice none 0 0] 29 (0,0)) J5 hb);replace Un := Za.mk (Zw (g := Uo) (o := .cells #[.int .i64 2,.string (⟨#[]⟩ : ByteArray),.string (⟨#[]⟩ : ByteArray),.bool false,.slice none 0 0,.string Ur,.string Ky,Qa] 29 (0,0)) Ye hb);replace Su := Za.mk (Zw (g := Xo) (o := .cells #[.string Gq,.int .i64 0,.string (⟨#[]⟩ : ByteArray)] 44 (0,0)) Jky hb);replace HK := Za.mk (Ja.trans Qw (Ja.of_below hb g none) (.inl rfl));replace HB := Za.mk (Zm Zwq hb);replace HI0 := Za.mk (Zp.below Sy hb);(try clear hb);(try clear hb2);(try clear hk);(try clear hi)) | ((with_reducible refine Z7 (f := 35) rfl ?_);refine Ju (some 96) rfl rfl Tryz.func35 (by kernel_rfl) rfl #[.pointer (some ⟨g,0,none⟩)] rfl Yb ?_;(with_reducible refine (Zq.calls g Z1r Z1s Z1t si Ztb Ztc true w0 _ ?side1 ?side2 Jyr.out).mono ?_);(case side1 => exact u9_);(case side2 => exact Jk0);rintro e Vll ⟨rfl,hi,hb,hk⟩;refine ⟨_,rfl,?_⟩;replace Vq := Za.mk (Kd.Xc (Kd.Zfj (Zp.apart (show Zp w0 _ g Z1r Z1s Z1t from by repeat (first | (with_reducible first | exact HI0.out | apply Zp.alloc | apply Zp.drewN | apply Zp.drew | apply Zp.Y9 | apply Zp.Y6 | apply Zp.Y7 | (apply Zp.far;rotate_left;exact V7.out;rotate_right) | (apply Zp.far;rotate_left;exact K4.out;rotate_right) | (apply Zp.far;rotate_left;exact Tx.out;rotate_right)) | exact HI0.out)) Zs8 (by decide)) hk (fun _ h => h.2)) (fun _ h => h.1));replace Vi := Za.mk (Ja.blk hk (g' := Jw) (o := .cells #[.int .i64 0,.string (⟨#[]⟩ : ByteArray),.string (⟨#[]⟩ : ByteArray),.bool false,.slice none 0 0,.string (⟨#[]⟩ : ByteArray),.string (⟨#[]⟩ : ByteArray),.slice none 0 0] 29 (0,0)) J5 Vp.out (by simp));replace Un := Za.mk (Ja.blk hk (g' := Uo) (o := .cells #[.int .i64 2,.string (⟨#[]⟩ : ByteArray),.string (⟨#[]⟩ : ByteArray),.bool false,.slice none 0 0,.string Ur,.string Ky,Qa] 29 (0,0)) Ye G9.out (by simp));replace Su := Za.mk (Ja.blk hk (g' := Xo) (o := .cells #[.string Gq,.int .i64 0,.string (⟨#[]⟩ : ByteArray)] 44 (0,0)) Jky u6.out (by simp));replace HK := Za.mk (Ja.trans Qw hk (.inl rfl));replace HB := Za.mk (hb);replace HI0 := Za.mk (hi);(try clear hb);(try clear hb2);(try clear hk);(try clear hi);obtain ⟨Jyz,Jy0,Jy1,Jy2,Jy3,Jy4⟩ := Va Su.out;obtain ⟨Zfw,Jqy⟩ := HI0.out;have Jy5 := Xg Zfw;have Jy6 := Xh Zfw;have Jy7 := Xi Zfw;have Jy8 := Zj Zfw 0;have Jy9 := Zj Zfw 1;have Jza := Zj Zfw 2;clear Zfw Jqy;have Vdi := Zd9.out;have Vdj := Ua.out;have Vdk := G9.out;have Vdl := K4.out;obtain ⟨Jzb,Jzc,Jzd,Jze,Jzf,Jzg,Jzh,Jzi,Jzj,Jzk,Jzl,Jzm,Jzn,Jzo,Jzp,Jzq⟩ := Jf Un.out) | ((with_reducible refine Zf8 (b := .append) (xs := #[.tmp 112,.tmp 114]) rfl ?_);(try (refine Jr (by rfl) ?_;dsimp only));at_builtin;refine Kd.Zpv k44 w.heap.size rfl (.tmp 112) (.tmp 114) 27 44 (.agg #[(.string ⟨#[]⟩),(.int .i64 0),(.string ⟨#[]⟩)]) 40 rfl Tryz.underlying27 Jd5 rfl (by decide) (by omega) Qa J7 (⟨Gq,Gr,si⟩ : Y4) [.string Gq,.int .i64 Gr,.string si] (fun k_ => k_ ≠ Xo) (fun _ => False) rfl (by first | (go_simp;done) | (go_simp;rfl)) ?aP (fun _ hk => hk.elim) ?aF ?aO (Below.refl _ _) ?aS ?aL ?_;(case aP => exact Z44 _ _ _ (⟨Gq,Gr,si⟩ : Y4));(case aF => exact Jxv);(case aO => exact (by (with_reducible repeat (first | apply Kd.Yv | apply Kd.Yw | apply Kd.Xl));exact Kd.Xc (Kd.Xw (p := ⟨g,2,none⟩) (Kd.Xw (p := ⟨Xo,2,none⟩) (Kd.Xw (p := ⟨Xo,1,none⟩) (Zp.apart HI0.out (Kd.Xc Vq.out (fun k_ hk => (⟨hk,hk.2⟩ : _ ∧ k_ ≠ Xo))) (by decide)) (fun _ hk => hk.1.2) (.int .i64 Gr)) (fun _ hk => hk.1.2) (.string si)) (fun _ hk => hk.2) (.bool true)) (fun _ hk => hk.1.1.2)));(case aS => exact (zn (w := w) (g := g) (row := none) Qw));(case aL => have := Jqx.out;omega);intro Vlm Vln ho hb hg hat;rw [← Jys.out] at ho;replace Vi := Za.mk (Us (g := Jw) (o := .cells #[.int .i64 0,.string (⟨#[]⟩ : ByteArray),.string (⟨#[]⟩ : ByteArray),.bool false,.slice none 0 0,.string (⟨#[]⟩ : ByteArray),.string (⟨#[]⟩ : ByteArray),.slice none 0 0] 29 (0,0)) Jxm hg (Kd.Zpt Vq.out Vi.out (by decide)));replace Un := Za.mk (Us (g := Uo) (o := .cells #[.int .i64 2,.string (⟨#[]⟩ : ByteArray),.string (⟨#[]⟩ : ByteArray),.bool false,.slice none 0 0,.string Ur,.string Ky,Qa] 29 (0,0)) Jxn hg (Kd.Zpt Vq.out Un.out (by decide)));replace Su := Za.mk (Us (g := Xo) (o := .cells #[.string Gq,.int .i64 Gr,.string si] 44 (0,0)) Wp hg (Kd.Jdb Vq.out (fun _ hk => hk.2)));replace HB := Za.mk (d9 Zwq HL.out hb);replace HI0 := Za.mk (Zp.grown Sy hg (Zp.own_ne HI0.out Vq.out (by decide)));replace HK := Za.mk (Ja.trans Qw (Ja.Zbf hg g) (Kd.Zug Vq.out));have Jm4 := Za.mk (ho);clear Vq ho hb hg hat;obtain ⟨Jm5,Jm6,Jzr⟩ := Kd.Dw Jm4.out;subst Jzr;obtain ⟨Jzs,Jzt,Jzu,Jzv,Jzw,Jzx,Jzy,Jzz,Jz0,Jz1,Jz2,Jz3,Jz4,Jz5,Jz6,Jz7⟩ := Jf Un.out))
           go_roundg Ze9
           case measure => have := HK1.out;have := Jk5.out;omega
           case rel => exact ⟨(wrap64 (jq - 1)),(Ztb),(Ztc),(true),(Jk8),(.slice Jm5 Jk8.length Jm6),Z4a,H',⟨(by have := HK1.out;have := Jk5.out;omega)⟩,⟨(by (with_reducible repeat (first | apply Kd.Yv | apply Kd.Yw | apply Kd.Xl));exact Kd.Xc (Kd.Xw (p := ⟨Uo,7,none⟩) (Kd.jy Jm4.out Un.out (by decide)) (fun _ hk => hk.2) (.slice Jm5 Jk8.length Jm6)) (fun _ hk => trivial))⟩,⟨Jxs⟩,⟨Jxr⟩,⟨Sy⟩,⟨Qw⟩,⟨Zwq⟩⟩
          ·rw [if_neg c109] at H
           exact absurd H (by simp)
         ·replace Jk7 := Bool.eq_false_iff.mpr Jk7
          subst Jk7
          have H1 : (if J7.length < 3518437208883 then (Zl.l1 Ze9 (wrap64 (jq - 1)) Ztb Ztc ((Zjq.size : Int) != 1) 2 (⟨#[]⟩ : ByteArray) (⟨#[]⟩ : ByteArray) false Ur Ky (J7 ++ [(⟨Gq,Gr,si⟩ : Y4)])) else (none)) = some (r1,r2,r3,r4,r5,r6,r7,r8,r9,Fx,Fy) := by rw [if_neg (show ¬ (false = true) by decide)] at H;exact H
          clear H
          have H := H1
          clear H1
          by_cases c127 : J7.length < 3518437208883
          ·rw [if_pos c127] at H
           have Jqz := Za.mk c127
           clear c127
           obtain ⟨Jk9,Z1v⟩ : ∃ y_ : List (Y4),y_ = (J7 ++ [(⟨Gq,Gr,si⟩ : Y4)]) := ⟨_,rfl⟩
           replace H : (Zl.l1 Ze9 (wrap64 (jq - 1)) Ztb Ztc ((Zjq.size : Int) != 1) 2 (⟨#[]⟩ : ByteArray) (⟨#[]⟩ : ByteArray) false Ur Ky Jk9) = some (r1,r2,r3,r4,r5,r6,r7,r8,r9,Fx,Fy) := by first | (rw [Z1v];with_reducible exact H) | (have jg := (Option.bind_some _ _).symm.trans H;rw [Z1v];with_reducible exact jg) | (have jg := (Option.bind_some _ _).symm.trans H;with_reducible exact jg) | with_reducible exact H | (rw [Z1v];exact H) | exact H
           have Jz8 := Za.mk Z1v
           clear Z1v
           have H' := Za.mk H
           clear H
           go_wp2_with (first | ((with_reducible refine Z7 (f := 35) rfl ?_);refine Ju (some 89) rfl rfl Tryz.func35 (by kernel_rfl) rfl #[.pointer (some ⟨g,0,none⟩)] rfl Yb ?_;(with_reducible refine (Zq.calls g Q5 Q6 Kb Gq Zxc Zxd Zxe w0 _ ?side1 ?side2 Jyn.out).mono ?_);(case side1 => exact u7_);(case side2 => exact u8_);rintro e Vlo ⟨rfl,hi,hb,hk⟩;refine ⟨_,rfl,?_⟩;replace Vq := Za.mk (Kd.Xc (Kd.Zfj (Zp.apart (show Zp w0 _ g Q5 Q6 Kb from by repeat (first | (with_reducible first | exact HI0.out | apply Zp.alloc | apply Zp.drewN | apply Zp.drew | apply Zp.Y9 | apply Zp.Y6 | apply Zp.Y7 | (apply Zp.far;rotate_left;exact V7.out;rotate_right) | (apply Zp.far;rotate_left;exact K4.out;rotate_right)) | exact HI0.out)) Zs8 (by decide)) hk (fun _ h => h.2)) (fun _ h => h.1));replace Vi := Za.mk (Ja.blk hk (g' := Jw) (o := .cells #[.int .i64 0,.string (⟨#[]⟩ : ByteArray),.string (⟨#[]⟩ : ByteArray),.bool false,.slice none 0 0,.string (⟨#[]⟩ : ByteArray),.string (⟨#[]⟩ : ByteArray),.slice none 0 0] 29 (0,0)) J5 Vp.out (by simp));replace Un := Za.mk (Ja.blk hk (g' := Uo) (o := .cells #[.int .i64 2,.string (⟨#[]⟩ : ByteArray),.string (⟨#[]⟩ : ByteArray),.bool false,.slice none 0 0,.string Ur,.string Ky,Qa] 29 (0,0)) Ye G9.out (by simp));replace HK := Za.mk (Ja.trans Xu hk (.inl rfl));replace HB := Za.mk (hb);replace HI0 := Za.mk (hi);(try clear hb);(try clear hb2);(try clear hk);(try clear hi)) | ((with_reducible refine Jg (N := 9) rfl ?_);(try (refine Jr (by rfl) ?_;dsimp only));refine Je ?hg (N := 9) ?hd (cs := #[.string (⟨#[]⟩ : ByteArray),.int .i64 0,.string (⟨#[]⟩ : ByteArray)]) (t := 44) ?hr ?_;(case hd => rfl);(case hg => rfl);(case hr => exact Q0);intro Xo hg Vlp hbox hb;replace Vq := Za.mk (Kd.Qq (Kd.Zzp Zs8 Xo (Nat.le_of_eq hg.symm)) hb);replace HB := Za.mk (Zm Jck hb);have Su := Za.mk (hbox);have Jmx := Za.mk ((Jkz : w.heap.size ≤ Xo));have Jf5 := Za.mk ((Nat.le_trans HW0.out (Jkz : w.heap.size ≤ Xo) : w0.heap.size ≤ Xo));replace HK := Za.mk (Ja.trans Xu (Ja.of_below hb g none) (.inl rfl));have H6 := Za.mk ((Pd : Jw ≠ Xo));have Zle := Za.mk ((je : Xo ≠ Jw));replace Vi := Za.mk (Zw (g := Jw) (o := .cells #[.int .i64 0,.string (⟨#[]⟩ : ByteArray),.string (⟨#[]⟩ : ByteArray),.bool false,.slice none 0 0,.string (⟨#[]⟩ : ByteArray),.string (⟨#[]⟩ : ByteArray),.slice none 0 0] 29 (0,0)) J5 hb);have H8 := Za.mk ((Jxt : Uo ≠ Xo));have Zlf := Za.mk ((Jxu : Xo ≠ Uo));replace Un := Za.mk (Zw (g := Uo) (o := .cells #[.int .i64 2,.string (⟨#[]⟩ : ByteArray),.string (⟨#[]⟩ : ByteArray),.bool false,.slice none 0 0,.string Ur,.string Ky,Qa] 29 (0,0)) Ye hb);have Tx := Za.mk ((Jxp : g ≠ Xo));have u6 := Za.mk ((Jxq : Xo ≠ g));replace HI0 := Za.mk (Zp.below Zml hb);clear hb hbox hg;have Vdm := Zle.out;have Vdn := H6.out;have Vdo := Zlf.out;have Vdp := H8.out;have Vdq := u6.out;have Vdr := Tx.out;obtain ⟨Jz9,J0a,J0b,J0c,J0d,J0e⟩ := Va Su.out) | ((with_reducible refine Z7 (f := 35) rfl ?_);refine Ju (some 92) rfl rfl Tryz.func35 (by kernel_rfl) rfl #[.pointer (some ⟨g,0,none⟩)] rfl Yb ?_;(with_reducible refine (Zq.calls g Zxc Zxd Zxe Zjq Z1r Z1s Z1t w0 _ ?side1 ?side2 Jyo.out).mono ?_);(case side1 => exact u9_);(case side2 => exact Jk0);rintro e Vlq ⟨rfl,hi,hb,hk⟩;refine ⟨_,rfl,?_⟩;replace Vq := Za.mk (Kd.Xc (Kd.Zfj (Zp.apart (show Zp w0 _ g Zxc Zxd Zxe from by repeat (first | (with_reducible first | exact HI0.out | apply Zp.alloc | apply Zp.drewN | apply Zp.drew | apply Zp.Y9 | apply Zp.Y6 | apply Zp.Y7 | (apply Zp.far;rotate_left;exact V7.out;rotate_right) | (apply Zp.far;rotate_left;exact K4.out;rotate_right) | (apply Zp.far;rotate_left;exact Tx.out;rotate_right)) | exact HI0.out)) Jxo (by decide)) hk (fun _ h => h.2)) (fun _ h => h.1));replace Vi := Za.mk (Ja.blk hk (g' := Jw) (o := .cells #[.int .i64 0,.string (⟨#[]⟩ : ByteArray),.string (⟨#[]⟩ : ByteArray),.bool false,.slice none 0 0,.string (⟨#[]⟩ : ByteArray),.string (⟨#[]⟩ : ByteArray),.slice none 0 0] 29 (0,0)) Jxk Vp.out (by simp));replace Un := Za.mk (Ja.blk hk (g' := Uo) (o := .cells #[.int .i64 2,.string (⟨#[]⟩ : ByteArray),.string (⟨#[]⟩ : ByteArray),.bool false,.slice none 0 0,.string Ur,.string Ky,Qa] 29 (0,0)) Jxl G9.out (by simp));replace Su := Za.mk (Ja.blk hk (g' := Xo) (o := .cells #[.string Gq,.int .i64 0,.string (⟨#[]⟩ : ByteArray)] 44 (0,0)) Jxj u6.out (by simp));replace HK := Za.mk (Ja.trans Qw hk (.inl rfl));replace HB := Za.mk (hb);replace HI0 := Za.mk (hi);(try clear hb);(try clear hb2);(try clear hk);(try clear hi)) | ((with_reducible refine Z7 (f := 37) rfl ?_);refine Ju (some 94) rfl rfl Tryz.func37 (by kernel_rfl) rfl #[.string (⟨#[116,110,109]⟩ : ByteArray),.string Zjq] rfl Yb ?_;(with_reducible refine (strings_Index.calls (⟨#[116,110,109]⟩ : ByteArray) Zjq Gr _ Jyp.out).mono ?_);rintro e Vlr ⟨rfl,hb⟩;refine ⟨_,rfl,?_⟩;replace Vq := Za.mk (Kd.Qq Zs8 hb);replace Vi := Za.mk (Zw (g := Jw) (o := .cells #[.int .i64 0,.string (⟨#[]⟩ : ByteArray),.string (⟨#[]⟩ : ByteArray),.bool false,.slice none 0 0,.string (⟨#[]⟩ : ByteArray),.string (⟨#[]⟩ : ByteArray),.slice none 0 0] 29 (0,0)) J5 hb);replace Un := Za.mk (Zw (g := Uo) (o := .cells #[.int .i64 2,.string (⟨#[]⟩ : ByteArray),.string (⟨#[]⟩ : ByteArray),.bool false,.slice none 0 0,.string Ur,.string Ky,Qa] 29 (0,0)) Ye hb);replace Su := Za.mk (Zw (g := Xo) (o := .cells #[.string Gq,.int .i64 0,.string (⟨#[]⟩ : ByteArray)] 44 (0,0)) Jky hb);replace HK := Za.mk (Ja.trans Qw (Ja.of_below hb g none) (.inl rfl));replace HB := Za.mk (Zm Zwq hb);replace HI0 := Za.mk (Zp.below Sy hb);(try clear hb);(try clear hb2);(try clear hk);(try clear hi)) | ((with_reducible refine Z7 (f := 35) rfl ?_);refine Ju (some 96) rfl rfl Tryz.func35 (by kernel_rfl) rfl #[.pointer (some ⟨g,0,none⟩)] rfl Yb ?_;(with_reducible refine (Zq.calls g Z1r Z1s Z1t si Ztb Ztc false w0 _ ?side1 ?side2 Jyr.out).mono ?_);(case side1 => exact u9_);(case side2 => exact Jk0);rintro e Vls ⟨rfl,hi,hb,hk⟩;refine ⟨_,rfl,?_⟩;replace Vq := Za.mk (Kd.Xc (Kd.Zfj (Zp.apart (show Zp w0 _ g Z1r Z1s Z1t from by repeat (first | (with_reducible first | exact HI0.out | apply Zp.alloc | apply Zp.drewN | apply Zp.drew | apply Zp.Y9 | apply Zp.Y6 | apply Zp.Y7 | (apply Zp.far;rotate_left;exact V7.out;rotate_right) | (apply Zp.far;rotate_left;exact K4.out;rotate_right) | (apply Zp.far;rotate_left;exact Tx.out;rotate_right)) | exact HI0.out)) Zs8 (by decide)) hk (fun _ h => h.2)) (fun _ h => h.1));replace Vi := Za.mk (Ja.blk hk (g' := Jw) (o := .cells #[.int .i64 0,.string (⟨#[]⟩ : ByteArray),.string (⟨#[]⟩ : ByteArray),.bool false,.slice none 0 0,.string (⟨#[]⟩ : ByteArray),.string (⟨#[]⟩ : ByteArray),.slice none 0 0] 29 (0,0)) J5 Vp.out (by simp));replace Un := Za.mk (Ja.blk hk (g' := Uo) (o := .cells #[.int .i64 2,.string (⟨#[]⟩ : ByteArray),.string (⟨#[]⟩ : ByteArray),.bool false,.slice none 0 0,.string Ur,.string Ky,Qa] 29 (0,0)) Ye G9.out (by simp));replace Su := Za.mk (Ja.blk hk (g' := Xo) (o := .cells #[.string Gq,.int .i64 0,.string (⟨#[]⟩ : ByteArray)] 44 (0,0)) Jky u6.out (by simp));replace HK := Za.mk (Ja.trans Qw hk (.inl rfl));replace HB := Za.mk (hb);replace HI0 := Za.mk (hi);(try clear hb);(try clear hb2);(try clear hk);(try clear hi);obtain ⟨J0f,J0g,J0h,J0i,J0j,J0k⟩ := Va Su.out;obtain ⟨Zfx,Jq0⟩ := HI0.out;have J0l := Xg Zfx;have J0m := Xh Zfx;have J0n := Xi Zfx;have J0o := Zj Zfx 0;have J0p := Zj Zfx 1;have J0q := Zj Zfx 2;clear Zfx Jq0;have Vds := Zd9.out;have Vdt := Ua.out;have Vdu := G9.out;have Vdv := K4.out;obtain ⟨J0r,J0s,J0t,J0u,J0v,J0w,J0x,J0y,J0z,J00,J01,J02,J03,J04,J05,J06⟩ := Jf Un.out) | ((with_reducible refine Zf8 (b := .append) (xs := #[.tmp 112,.tmp 114]) rfl ?_);(try (refine Jr (by rfl) ?_;dsimp only));at_builtin;refine Kd.Zpv k44 w.heap.size rfl (.tmp 112) (.tmp 114) 27 44 (.agg #[(.string ⟨#[]⟩),(.int .i64 0),(.string ⟨#[]⟩)]) 40 rfl Tryz.underlying27 Jd5 rfl (by decide) (by omega) Qa J7 (⟨Gq,Gr,si⟩ : Y4) [.string Gq,.int .i64 Gr,.string si] (fun k_ => k_ ≠ Xo) (fun _ => False) rfl (by first | (go_simp;done) | (go_simp;rfl)) ?aP (fun _ hk => hk.elim) ?aF ?aO (Below.refl _ _) ?aS ?aL ?_;(case aP => exact Z44 _ _ _ (⟨Gq,Gr,si⟩ : Y4));(case aF => exact Jxv);(case aO => exact (by (with_reducible repeat (first | apply Kd.Yv | apply Kd.Yw | apply Kd.Xl));exact Kd.Xc (Kd.Xw (p := ⟨g,2,none⟩) (Kd.Xw (p := ⟨Xo,2,none⟩) (Kd.Xw (p := ⟨Xo,1,none⟩) (Zp.apart HI0.out (Kd.Xc Vq.out (fun k_ hk => (⟨hk,hk.2⟩ : _ ∧ k_ ≠ Xo))) (by decide)) (fun _ hk => hk.1.2) (.int .i64 Gr)) (fun _ hk => hk.1.2) (.string si)) (fun _ hk => hk.2) (.bool ((Zjq.size : Int) != 1))) (fun _ hk => hk.1.1.2)));(case aS => exact (zn (w := w) (g := g) (row := none) Qw));(case aL => have := Jqz.out;omega);intro Vlt Vlu ho hb hg hat;rw [← Jz8.out] at ho;replace Vi := Za.mk (Us (g := Jw) (o := .cells #[.int .i64 0,.string (⟨#[]⟩ : ByteArray),.string (⟨#[]⟩ : ByteArray),.bool false,.slice none 0 0,.string (⟨#[]⟩ : ByteArray),.string (⟨#[]⟩ : ByteArray),.slice none 0 0] 29 (0,0)) Jxm hg (Kd.Zpt Vq.out Vi.out (by decide)));replace Un := Za.mk (Us (g := Uo) (o := .cells #[.int .i64 2,.string (⟨#[]⟩ : ByteArray),.string (⟨#[]⟩ : ByteArray),.bool false,.slice none 0 0,.string Ur,.string Ky,Qa] 29 (0,0)) Jxn hg (Kd.Zpt Vq.out Un.out (by decide)));replace Su := Za.mk (Us (g := Xo) (o := .cells #[.string Gq,.int .i64 Gr,.string si] 44 (0,0)) Wp hg (Kd.Jdb Vq.out (fun _ hk => hk.2)));replace HB := Za.mk (d9 Zwq HL.out hb);replace HI0 := Za.mk (Zp.grown Sy hg (Zp.own_ne HI0.out Vq.out (by decide)));replace HK := Za.mk (Ja.trans Qw (Ja.Zbf hg g) (Kd.Zug Vq.out));have Jm7 := Za.mk (ho);clear Vq ho hb hg hat;obtain ⟨Jm8,Jm9,J07⟩ := Kd.Dw Jm7.out;subst J07;obtain ⟨J08,J09,J1a,J1b,J1c,J1d,J1e,J1f,J1g,J1h,J1i,J1j,J1k,J1l,J1m,J1n⟩ := Jf Un.out))
           go_roundg Ze9
           case measure => have := HK1.out;have := Jk5.out;omega
           case rel => exact ⟨(wrap64 (jq - 1)),(Ztb),(Ztc),(((Zjq.size : Int) != 1)),(Jk9),(.slice Jm8 Jk9.length Jm9),Z4a,H',⟨(by have := HK1.out;have := Jk5.out;omega)⟩,⟨(by (with_reducible repeat (first | apply Kd.Yv | apply Kd.Yw | apply Kd.Xl));exact Kd.Xc (Kd.Xw (p := ⟨Uo,7,none⟩) (Kd.jy Jm7.out Un.out (by decide)) (fun _ hk => hk.2) (.slice Jm8 Jk9.length Jm9)) (fun _ hk => trivial))⟩,⟨Jxs⟩,⟨Jxr⟩,⟨Sy⟩,⟨Qw⟩,⟨Zwq⟩⟩
          ·rw [if_neg c127] at H
           exact absurd H (by simp)
        ·replace Jk6 := Bool.eq_false_iff.mpr Jk6
         subst Jk6
         have H1 : (some (2,(⟨#[]⟩ : ByteArray),(⟨#[]⟩ : ByteArray),false,([] : List ByteArray),Ur,Ky,J7,Q5,Q6,Kb)) = some (r1,r2,r3,r4,r5,r6,r7,r8,r9,Fx,Fy) := by rw [if_neg (show ¬ (false = true) by decide)] at H;exact H
         clear H
         have H := H1
         clear H1
         simp only [Option.some.injEq,Prod.mk.injEq] at H
         obtain ⟨rfl,rfl,rfl,rfl,rfl,rfl,rfl,rfl,rfl,rfl,rfl⟩ := H
         have Vdw := Zd9.out
         have Vdx := Ua.out
         have Vdy := G9.out
         have Vdz := K4.out
         obtain ⟨J1o,J1p,J1q,J1r,J1s,J1t,J1u,J1v,J1w,J1x,J1y,J1z,J10,J11,J12,J13⟩ := Jf Un.out
         have Vd0 := Vp.out
         have Vd1 := V7.out
         obtain ⟨J14,J15,J16,J17,J18,J19,J2a,J2b,J2c,J2d,J2e,J2f,J2g,J2h,J2i,J2j⟩ := Jf Vi.out
         obtain ⟨Jna,Jnb,J2k⟩ := Kd.Dw Vq.out
         subst J2k
         go_wp2
         refine bodyPost_ret (results_cell_row rfl _ _ Jw 29 #[.int .i64 2,.string (⟨#[]⟩ : ByteArray),.string (⟨#[]⟩ : ByteArray),.bool false,.slice none 0 0,.string Ur,.string Ky,.slice Jna J7.length Jnb] (0,0) _ rfl (by (with_reducible repeat (first | refine Zc ?_ _ | refine Zf ?_ | refine Zb ?_ _));refine Zo (cs := #[.int .i64 2,.string (⟨#[]⟩ : ByteArray),.string (⟨#[]⟩ : ByteArray),.bool false,.slice none 0 0,.string Ur,.string Ky,.slice none 0 0]) ?_ 7 _ rfl;(with_reducible repeat (first | refine Zc ?_ _ | refine Zf ?_ | refine Zb ?_ _));refine Zo (cs := #[.int .i64 2,.string (⟨#[]⟩ : ByteArray),.string (⟨#[]⟩ : ByteArray),.bool false,.slice none 0 0,.string Ur,.string (⟨#[]⟩ : ByteArray),.slice none 0 0]) ?_ 6 _ rfl;(with_reducible repeat (first | refine Zc ?_ _ | refine Zf ?_ | refine Zb ?_ _));refine Zo (cs := #[.int .i64 2,.string (⟨#[]⟩ : ByteArray),.string (⟨#[]⟩ : ByteArray),.bool false,.slice none 0 0,.string (⟨#[]⟩ : ByteArray),.string (⟨#[]⟩ : ByteArray),.slice none 0 0]) ?_ 5 _ rfl;(with_reducible repeat (first | refine Zc ?_ _ | refine Zf ?_ | refine Zb ?_ _));refine Zo (cs := #[.int .i64 2,.string (⟨#[]⟩ : ByteArray),.string (⟨#[]⟩ : ByteArray),.bool false,.slice none 0 0,.string (⟨#[]⟩ : ByteArray),.string (⟨#[]⟩ : ByteArray),.slice none 0 0]) ?_ 4 _ rfl;(with_reducible repeat (first | refine Zc ?_ _ | refine Zf ?_ | refine Zb ?_ _));refine Zo (cs := #[.int .i64 2,.string (⟨#[]⟩ : ByteArray),.string (⟨#[]⟩ : ByteArray),.bool false,.slice none 0 0,.string (⟨#[]⟩ : ByteArray),.string (⟨#[]⟩ : ByteArray),.slice none 0 0]) ?_ 3 _ rfl;(with_reducible repeat (first | refine Zc ?_ _ | refine Zf ?_ | refine Zb ?_ _));refine Zo (cs := #[.int .i64 2,.string (⟨#[]⟩ : ByteArray),.string (⟨#[]⟩ : ByteArray),.bool false,.slice none 0 0,.string (⟨#[]⟩ : ByteArray),.string (⟨#[]⟩ : ByteArray),.slice none 0 0]) ?_ 2 _ rfl;(with_reducible repeat (first | refine Zc ?_ _ | refine Zf ?_ | refine Zb ?_ _));refine Zo (cs := #[.int .i64 2,.string (⟨#[]⟩ : ByteArray),.string (⟨#[]⟩ : ByteArray),.bool false,.slice none 0 0,.string (⟨#[]⟩ : ByteArray),.string (⟨#[]⟩ : ByteArray),.slice none 0 0]) ?_ 1 _ rfl;(with_reducible repeat (first | refine Zc ?_ _ | refine Zf ?_ | refine Zb ?_ _));refine Zo (cs := #[.int .i64 0,.string (⟨#[]⟩ : ByteArray),.string (⟨#[]⟩ : ByteArray),.bool false,.slice none 0 0,.string (⟨#[]⟩ : ByteArray),.string (⟨#[]⟩ : ByteArray),.slice none 0 0]) ?_ 0 _ rfl;(with_reducible repeat (first | refine Zc ?_ _ | refine Zf ?_ | refine Zb ?_ _));exact Vi.out) Tryz.underlying29 rfl (by kernel_rfl)) rfl ?_
         exact ⟨_,_,Z39,Xv,(by (with_reducible repeat (first | apply Kd.Yv | apply Kd.Yw | apply Kd.Xl));exact Kd.Xc (Kd.Xw (p := ⟨Jw,7,none⟩) (Kd.Xw (p := ⟨Jw,6,none⟩) (Kd.Xw (p := ⟨Jw,5,none⟩) (Kd.Xw (p := ⟨Jw,4,none⟩) (Kd.Xw (p := ⟨Jw,3,none⟩) (Kd.Xw (p := ⟨Jw,2,none⟩) (Kd.Xw (p := ⟨Jw,1,none⟩) (Kd.Xw (p := ⟨Jw,0,none⟩) (Kd.jy Vq.out Vi.out (by decide)) (fun _ hk => hk.2) (.int .i64 2)) (fun _ hk => hk.2) (.string (⟨#[]⟩ : ByteArray))) (fun _ hk => hk.2) (.string (⟨#[]⟩ : ByteArray))) (fun _ hk => hk.2) (.bool false)) (fun _ hk => hk.2) (.slice none 0 0)) (fun _ hk => hk.2) (.string Ur)) (fun _ hk => hk.2) (.string Ky)) (fun _ hk => hk.2) (.slice Jna J7.length Jnb)) (fun _ hk => trivial)),Zml,Jck,Xu⟩
   ·rw [if_neg c87] at H
    have Jgg : (Ty.toList == ([113] : List UInt8)) = false := beq_eq_false_iff_ne.mpr c87
    have Jgh : (Ty.toList != ([113] : List UInt8)) = true := bne_iff_ne.mpr c87
    simp only [Option.some.injEq,Prod.mk.injEq] at H
    obtain ⟨rfl,rfl,rfl,rfl,rfl,rfl,rfl,rfl,rfl,rfl,rfl⟩ := H
    go_enter Tryz.func25,Tryz.ntmps25
    go_wp2_with (first | ((with_reducible refine Jg (N := 2) rfl ?_);(try (refine Jr (by rfl) ?_;dsimp only));refine Je ?hg (N := 2) ?hd (cs := #[.int .i64 0,.string (⟨#[]⟩ : ByteArray),.string (⟨#[]⟩ : ByteArray),.bool false,.slice none 0 0,.string (⟨#[]⟩ : ByteArray),.string (⟨#[]⟩ : ByteArray),.slice none 0 0]) (t := 29) ?hr ?_;(case hd => rfl);(case hg => rfl);(case hr => exact Q0);intro Jw hg Vlv hbox hb;replace HB := Za.mk (Zm Jcn hb);have Vi := Za.mk (hbox);have Zfh := Za.mk ((Zmq : w.heap.size ≤ Jw));have jo := Za.mk ((Nat.le_trans HW0.out (Zmq : w.heap.size ≤ Jw) : w0.heap.size ≤ Jw));replace HK := Za.mk (Ja.trans Qg (Ja.of_below hb g none) (.inl rfl));have V7 := Za.mk ((by rw [hg];exact Nat.ne_of_lt (Zp.lt (show Zp w0 _ g Yh Du Dv from by repeat (first | (with_reducible first | exact HI0.out | apply Zp.alloc | apply Zp.drewN | apply Zp.drew | apply Zp.Y9 | apply Zp.Y6 | apply Zp.Y7) | exact HI0.out))) : g ≠ Jw));have Vp := Za.mk ((by rw [hg];exact Nat.ne_of_gt (Zp.lt (show Zp w0 _ g Yh Du Dv from by repeat (first | (with_reducible first | exact HI0.out | apply Zp.alloc | apply Zp.drewN | apply Zp.drew | apply Zp.Y9 | apply Zp.Y6 | apply Zp.Y7) | exact HI0.out))) : Jw ≠ g));replace HI0 := Za.mk (Zp.below Jcm hb);clear hb hbox hg) | ((with_reducible refine Z7 (f := 35) rfl ?_);refine Ju (some 12) rfl rfl Tryz.func35 (by kernel_rfl) rfl #[.pointer (some ⟨g,0,none⟩)] rfl Yb ?_;(with_reducible refine (Zq.calls g Yh Du Dv Ty Zft Zfu Zi8 w0 _ ?side1 ?side2 A2.out).mono ?_);(case side1 => exact u1_);(case side2 => exact u2_);rintro e Vlw ⟨rfl,hi,hb,hk⟩;refine ⟨_,rfl,?_⟩;replace Vi := Za.mk (Ja.blk hk (g' := Jw) (o := .cells #[.int .i64 0,.string (⟨#[]⟩ : ByteArray),.string (⟨#[]⟩ : ByteArray),.bool false,.slice none 0 0,.string (⟨#[]⟩ : ByteArray),.string (⟨#[]⟩ : ByteArray),.slice none 0 0] 29 (0,0)) J5 Vp.out (by simp));replace HK := Za.mk (Ja.trans Vz hk (.inl rfl));replace HB := Za.mk (hb);replace HI0 := Za.mk (hi);(try clear hb);(try clear hb2);(try clear hk);(try clear hi);obtain ⟨Zfy,Jq1⟩ := HI0.out;have J2l := Xg Zfy;have J2m := Xh Zfy;have J2n := Xi Zfy;have J2o := Zj Zfy 0;have J2p := Zj Zfy 1;have J2q := Zj Zfy 2;clear Zfy Jq1;have Vd2 := Vp.out;have Vd3 := V7.out;obtain ⟨J2r,J2s,J2t,J2u,J2v,J2w,J2x,J2y,J2z,J20,J21,J22,J23,J24,J25,J26⟩ := Jf Vi.out))
    refine bodyPost_ret (results_cell_row rfl _ _ Jw 29 #[.int .i64 0,.string (⟨#[]⟩ : ByteArray),.string (⟨#[]⟩ : ByteArray),.bool false,.slice none 0 0,.string (⟨#[]⟩ : ByteArray),.string (⟨#[]⟩ : ByteArray),.slice none 0 0] (0,0) _ rfl (by (with_reducible repeat (first | refine Zc ?_ _ | refine Zf ?_ | refine Zb ?_ _));refine Zo (cs := #[.int .i64 0,.string (⟨#[]⟩ : ByteArray),.string (⟨#[]⟩ : ByteArray),.bool false,.slice none 0 0,.string (⟨#[]⟩ : ByteArray),.string (⟨#[]⟩ : ByteArray),.slice none 0 0]) ?_ 7 _ rfl;(with_reducible repeat (first | refine Zc ?_ _ | refine Zf ?_ | refine Zb ?_ _));refine Zo (cs := #[.int .i64 0,.string (⟨#[]⟩ : ByteArray),.string (⟨#[]⟩ : ByteArray),.bool false,.slice none 0 0,.string (⟨#[]⟩ : ByteArray),.string (⟨#[]⟩ : ByteArray),.slice none 0 0]) ?_ 6 _ rfl;(with_reducible repeat (first | refine Zc ?_ _ | refine Zf ?_ | refine Zb ?_ _));refine Zo (cs := #[.int .i64 0,.string (⟨#[]⟩ : ByteArray),.string (⟨#[]⟩ : ByteArray),.bool false,.slice none 0 0,.string (⟨#[]⟩ : ByteArray),.string (⟨#[]⟩ : ByteArray),.slice none 0 0]) ?_ 5 _ rfl;(with_reducible repeat (first | refine Zc ?_ _ | refine Zf ?_ | refine Zb ?_ _));refine Zo (cs := #[.int .i64 0,.string (⟨#[]⟩ : ByteArray),.string (⟨#[]⟩ : ByteArray),.bool false,.slice none 0 0,.string (⟨#[]⟩ : ByteArray),.string (⟨#[]⟩ : ByteArray),.slice none 0 0]) ?_ 4 _ rfl;(with_reducible repeat (first | refine Zc ?_ _ | refine Zf ?_ | refine Zb ?_ _));refine Zo (cs := #[.int .i64 0,.string (⟨#[]⟩ : ByteArray),.string (⟨#[]⟩ : ByteArray),.bool false,.slice none 0 0,.string (⟨#[]⟩ : ByteArray),.string (⟨#[]⟩ : ByteArray),.slice none 0 0]) ?_ 3 _ rfl;(with_reducible repeat (first | refine Zc ?_ _ | refine Zf ?_ | refine Zb ?_ _));refine Zo (cs := #[.int .i64 0,.string (⟨#[]⟩ : ByteArray),.string (⟨#[]⟩ : ByteArray),.bool false,.slice none 0 0,.string (⟨#[]⟩ : ByteArray),.string (⟨#[]⟩ : ByteArray),.slice none 0 0]) ?_ 2 _ rfl;(with_reducible repeat (first | refine Zc ?_ _ | refine Zf ?_ | refine Zb ?_ _));refine Zo (cs := #[.int .i64 0,.string (⟨#[]⟩ : ByteArray),.string (⟨#[]⟩ : ByteArray),.bool false,.slice none 0 0,.string (⟨#[]⟩ : ByteArray),.string (⟨#[]⟩ : ByteArray),.slice none 0 0]) ?_ 1 _ rfl;(with_reducible repeat (first | refine Zc ?_ _ | refine Zf ?_ | refine Zb ?_ _));refine Zo (cs := #[.int .i64 0,.string (⟨#[]⟩ : ByteArray),.string (⟨#[]⟩ : ByteArray),.bool false,.slice none 0 0,.string (⟨#[]⟩ : ByteArray),.string (⟨#[]⟩ : ByteArray),.slice none 0 0]) ?_ 0 _ rfl;(with_reducible repeat (first | refine Zc ?_ _ | refine Zf ?_ | refine Zb ?_ _));refine Jl ?_ Vp.out _;(with_reducible repeat (first | refine Zc ?_ _ | refine Zf ?_ | refine Zb ?_ _));exact Vi.out) Tryz.underlying29 rfl (by kernel_rfl)) rfl ?_
    exact ⟨_,_,Z39,Xv,Xv,Jcj,Jcl,Vz⟩
end Go.Proofs.YtdhpcofnddkcaaaGreatDoor.S
