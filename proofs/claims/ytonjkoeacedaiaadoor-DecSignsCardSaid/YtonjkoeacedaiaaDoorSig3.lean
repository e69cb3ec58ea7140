/- polyglotlaw02.DecSigns: whatever number and scale come in, the call returns true and leaves its arguments unchanged. (Text 4 of 5: what the law's proof rests on, joined; walks printed by the kit's print over given contracts, walks and plain laws by hand.) -/
import Derived.Test.YtonjkoeacedaiaaDoorSig0
import Derived.Test.YtonjkoeacedaiaaDoorSig1
import Derived.Test.YtonjkoeacedaiaaDoorSig2
namespace Go.Proofs.YtonjkoeacedaiaaDoor.G4
open Go.RowKit Go.Proofs.YtonjkoeacedaiaaDoor.G Go.Proofs.YtonjkoeacedaiaaDoor.U Go.Proofs.YtonjkoeacedaiaaDoor.R Go.Proofs.YtonjkoeacedaiaaDoorW.PrintWords Go.Proofs.YtonjkoeacedaiaaDoorW.PrintLast Go.Proofs.YtonjkoeacedaiaaDoorW.PrintMore
attribute [local go_sem] max2_int min2_int max_two min_two max_three min_three max_four min_four
set_option linter.unusedVariables false
set_option linter.unusedSimpArgs false
namespace G4x1
theorem cells3 {w : World} {g : Nat} {t : TypeId} {a0 a1 a2 : Value} (h : w.heap[g]? = some (.cells #[a0,a1,a2] t (0,0))) : w.cell? ⟨g,0,none⟩ = some a0 ∧ w.cell? ⟨g,1,none⟩ = some a1 ∧ w.cell? ⟨g,2,none⟩ = some a2 := ⟨(blk_cell h 0).trans rfl,(blk_cell h 1).trans rfl,(blk_cell h 2).trans rfl⟩
theorem cellsF3 {w : World} {g : Nat} {t : TypeId} {a0 a1 a2 : Value} (h : w.heap[g]? = some (.cells #[a0,a1,a2] t (0,0))) : w.cell? ⟨g,0,none⟩ = some a0 ∧ w.cell? ⟨g,1,none⟩ = some a1 ∧ w.cell? ⟨g,2,none⟩ = some a2 ∧ w.frozen? ⟨g,0,none⟩ = false ∧ w.frozen? ⟨g,1,none⟩ = false ∧ w.frozen? ⟨g,2,none⟩ = false := ⟨(blk_cell h 0).trans rfl,(blk_cell h 1).trans rfl,(blk_cell h 2).trans rfl,blk_frozen h 0,blk_frozen h 1,blk_frozen h 2⟩
theorem q0_ {p_ : Prop} (h_ : p_ := by repeat (first | (with_reducible first | exact HB.out | apply below_alloc | apply pw_below_drewN | apply below_drew1 | refine below_set ?_ GE101.out | refine below_set ?_ GE104.out | refine below_set ?_ GE108.out | refine below_set ?_ GE112.out) | exact HB.out)) : p_ := h_
theorem q1_ {p_ : Prop} (h_ : p_ := by (with_reducible repeat (first | refine blk_drewN ?_ _ | refine blk_drew ?_ | refine blk_alloc ?_ _));exact BK101.out) : p_ := h_
theorem q2_ {p_ : Prop} (h_ : p_ := by (try simp only [List.map_toArray,List.map_cons,List.map_nil]);first | done | rfl | (simp only [List.length_drop,List.length_take];rfl)) : p_ := h_
theorem q3_ {p_ : Prop} (h_ : p_ := by (with_reducible repeat (first | refine blk_drewN ?_ _ | refine blk_drew ?_ | refine blk_alloc ?_ _));exact BK104.out) : p_ := h_
theorem q4_ {p_ : Prop} (h_ : p_ := by (with_reducible repeat (first | refine blk_drewN ?_ _ | refine blk_drew ?_ | refine blk_alloc ?_ _));exact BK108.out) : p_ := h_
theorem q5_ {p_ : Prop} (h_ : p_ := by (with_reducible repeat (first | refine blk_drewN ?_ _ | refine blk_drew ?_ | refine blk_alloc ?_ _));exact BK112.out) : p_ := h_
theorem q6_ {p_ : Prop} (h_ : p_ := by (with_reducible repeat (first | refine blk_drewN ?_ _ | refine blk_drew ?_ | refine blk_alloc ?_ _));refine blk_put (cs := #[.bool t109,.string t110,.int .i64 0]) ?_ 2 _ rfl;(with_reducible repeat (first | refine blk_drewN ?_ _ | refine blk_drew ?_ | refine blk_alloc ?_ _));refine blk_put (cs := #[.bool t109,.string (⟨#[]⟩ : ByteArray),.int .i64 0]) ?_ 1 _ rfl;(with_reducible repeat (first | refine blk_drewN ?_ _ | refine blk_drew ?_ | refine blk_alloc ?_ _));refine blk_put (cs := #[.bool false,.string (⟨#[]⟩ : ByteArray),.int .i64 0]) ?_ 0 _ rfl;(with_reducible repeat (first | refine blk_drewN ?_ _ | refine blk_drew ?_ | refine blk_alloc ?_ _));exact BK112.out) : p_ := h_
theorem q7_ {p_ : Prop} (h_ : p_ := by (with_reducible repeat (first | refine blk_drewN ?_ _ | refine blk_drew ?_ | refine blk_alloc ?_ _));refine blk_far ?_ NB101_112.out _;(with_reducible repeat (first | refine blk_drewN ?_ _ | refine blk_drew ?_ | refine blk_alloc ?_ _));refine blk_far ?_ NB101_112.out _;(with_reducible repeat (first | refine blk_drewN ?_ _ | refine blk_drew ?_ | refine blk_alloc ?_ _));refine blk_far ?_ NB101_112.out _;(with_reducible repeat (first | refine blk_drewN ?_ _ | refine blk_drew ?_ | refine blk_alloc ?_ _));exact BK101.out) : p_ := h_
theorem q8_ {p_ : Prop} (h_ : p_ := by (with_reducible repeat (first | refine blk_drewN ?_ _ | refine blk_drew ?_ | refine blk_alloc ?_ _));refine blk_far ?_ NB104_112.out _;(with_reducible repeat (first | refine blk_drewN ?_ _ | refine blk_drew ?_ | refine blk_alloc ?_ _));refine blk_far ?_ NB104_112.out _;(with_reducible repeat (first | refine blk_drewN ?_ _ | refine blk_drew ?_ | refine blk_alloc ?_ _));refine blk_far ?_ NB104_112.out _;(with_reducible repeat (first | refine blk_drewN ?_ _ | refine blk_drew ?_ | refine blk_alloc ?_ _));exact BK104.out) : p_ := h_
theorem q9_ {p_ : Prop} (h_ : p_ := by (with_reducible repeat (first | refine blk_drewN ?_ _ | refine blk_drew ?_ | refine blk_alloc ?_ _));refine blk_far ?_ NB108_112.out _;(with_reducible repeat (first | refine blk_drewN ?_ _ | refine blk_drew ?_ | refine blk_alloc ?_ _));refine blk_far ?_ NB108_112.out _;(with_reducible repeat (first | refine blk_drewN ?_ _ | refine blk_drew ?_ | refine blk_alloc ?_ _));refine blk_far ?_ NB108_112.out _;(with_reducible repeat (first | refine blk_drewN ?_ _ | refine blk_drew ?_ | refine blk_alloc ?_ _));exact BK108.out) : p_ := h_
theorem q10_ {p_ : Prop} (h_ : p_ := by repeat (first | (with_reducible first | exact HB.out | apply below_alloc | apply pw_below_drewN | apply below_drew1 | refine below_set ?_ GE101.out) | exact HB.out)) : p_ := h_
theorem q11_ {p_ : Prop} (h_ : p_ := by first | rfl | (simp [errW_none,errW_some] <;> rfl) | (simp [*,errW_none,errW_some] <;> rfl)) : p_ := h_
theorem q12_ {p_ : Prop} (h_ : p_ := by repeat (first | (with_reducible first | exact HB.out | apply below_alloc | apply pw_below_drewN | apply below_drew1 | refine below_set ?_ GE101.out | refine below_set ?_ GE104.out | refine below_set ?_ GE108.out) | exact HB.out)) : p_ := h_
theorem q13_ {p_ : Prop} (h_ : p_ := by repeat (first | (with_reducible first | exact HB.out | apply below_alloc | apply pw_below_drewN | apply below_drew1) | exact HB.out)) : p_ := h_
theorem q14_ {p_ : Prop} (h_ : p_ := by repeat (first | (with_reducible first | exact HB.out | apply below_alloc | apply pw_below_drewN | apply below_drew1 | refine below_set ?_ GE101.out | refine below_set ?_ GE104.out) | exact HB.out)) : p_ := h_
theorem q15_ {p_ : Prop} (h_ : p_ := by first | rfl | (simp;done) | (simp [*];done)) : p_ := h_
theorem q16_ {p_ : Prop} (h_ : p_ := by have := HJ4.out;first | omega | exact Nat.le_refl _) : p_ := h_
theorem q17_ {p_ : Prop} (h_ : p_ := by rw [hg];exact Nat.ne_of_lt (blk_lt (g := gb101) (o := .cells #[.bool a0_0,.string a0_1,.int .i64 a0_2] 23 (0,0)) q1_)) : p_ := h_
theorem q18_ {p_ : Prop} (h_ : p_ := by rw [hg];exact Nat.ne_of_gt (blk_lt (g := gb101) (o := .cells #[.bool a0_0,.string a0_1,.int .i64 a0_2] 23 (0,0)) q1_)) : p_ := h_
theorem u0_ {p_ : Prop} (h_ : p_ := by first | (go_simp;done) | (go_simp;rfl)) : p_ := h_
abbrev B0_ : Array Bool := #[false,false,false,false,false,false,false,false,false,false,false,false,false,false,false,false,false,false,false,false,false,false,false,false,false,false,false,false,false,false,false,false,false,false,false,false,false,false,false,false]
abbrev B1_ : Array Bool := #[true,false,false,false,false,false,false,false,false,false,false,false,false,false,false,false,false,false,false,false,false,false,false,false,false,false,false,false,false,false,false,false,false,false,false,false,false,false,false,false]
abbrev B2_ : Array Bool := #[true,false,true,false,false,false,false,false,false,false,false,false,false,false,false,false,false,false,false,false,false,false,false,false,false,false,false,false,false,false,false,false,false,false,false,false,false,false,false,false]
abbrev B3_ : Array Bool := #[true,true,true,false,false,false,false,false,false,false,false,false,false,false,false,false,false,false,false,false,false,false,false,false,false,false,false,false,false,false,false,false,false,false,false,false,false,false,false,false]
abbrev B4_ : Array Bool := #[true,true,true,true,false,false,false,false,false,false,false,false,false,false,false,false,false,false,false,false,false,false,false,false,false,false,false,false,false,false,false,false,false,false,false,false,false,false,false,false]
abbrev B5_ : Array Bool := #[true,true,true,true,true,false,false,false,false,false,false,false,false,false,false,false,false,false,false,false,false,false,false,false,false,false,false,false,false,false,false,false,false,false,false,false,false,false,false,false]
abbrev B6_ : Array Bool := #[true,true,true,true,true,true,false,false,false,false,false,false,false,false,false,false,false,false,false,false,false,false,false,false,false,false,false,false,false,false,false,false,false,false,false,false,false,false,false,false]
abbrev B7_ : Array Bool := #[true,true,true,true,true,true,true,false,false,false,false,false,false,false,false,false,false,false,false,false,false,false,false,false,false,false,false,false,false,false,false,false,false,false,false,false,false,false,false,false]
abbrev B8_ : Array Bool := #[true,true,true,true,true,true,true,false,true,false,false,false,false,false,false,false,false,false,false,false,false,false,false,false,false,false,false,false,false,false,false,false,false,false,false,false,false,false,false,false]
abbrev B9_ : Array Bool := #[true,true,true,true,true,true,true,true,true,false,false,false,false,false,false,false,false,false,false,false,false,false,false,false,false,false,false,false,false,false,false,false,false,false,false,false,false,false,false,false]
abbrev B10_ : Array Bool := #[true,true,true,true,true,true,true,true,true,true,false,false,false,false,false,false,false,false,false,false,false,false,false,false,false,false,false,false,false,false,false,false,false,false,false,false,false,false,false,false]
abbrev B11_ : Array Bool := #[true,true,true,true,true,true,true,true,true,true,true,false,false,false,false,false,false,false,false,false,false,false,false,false,false,false,false,false,false,false,false,false,false,false,false,false,false,false,false,false]
abbrev B12_ : Array Bool := #[true,true,true,true,true,true,true,true,true,true,true,true,false,false,false,false,false,false,false,false,false,false,false,false,false,false,false,false,false,false,false,false,false,false,false,false,false,false,false,false]
abbrev B13_ : Array Bool := #[true,true,true,true,true,true,true,true,true,true,true,true,true,false,false,false,false,false,false,false,false,false,false,false,false,false,false,false,false,false,false,false,false,false,false,false,false,false,false,false]
abbrev B14_ : Array Bool := #[true,true,true,true,true,true,true,true,true,true,true,true,true,true,false,false,false,false,false,false,false,false,false,false,false,false,false,false,false,false,false,false,false,false,false,false,false,false,false,false]
abbrev B15_ : Array Bool := #[true,true,true,true,true,true,true,true,true,true,true,true,true,true,false,true,false,false,false,false,false,false,false,false,false,false,false,false,false,false,false,false,false,false,false,false,false,false,false,false]
abbrev B16_ : Array Bool := #[true,true,true,true,true,true,true,true,true,true,true,true,true,true,true,true,false,false,false,false,false,false,false,false,false,false,false,false,false,false,false,false,false,false,false,false,false,false,false,false]
abbrev B17_ : Array Bool := #[true,true,true,true,true,true,true,true,true,true,true,true,true,true,true,true,true,false,false,false,false,false,false,false,false,false,false,false,false,false,false,false,false,false,false,false,false,false,false,false]
abbrev B18_ : Array Bool := #[true,true,true,true,true,true,true,true,true,true,true,true,true,true,true,true,true,true,false,false,false,false,false,false,false,false,false,false,false,false,false,false,false,false,false,false,false,false,false,false]
abbrev B19_ : Array Bool := #[true,true,true,true,true,true,true,true,true,true,true,true,true,true,true,true,true,true,true,false,false,false,false,false,false,false,false,false,false,false,false,false,false,false,false,false,false,false,false,false]
abbrev B20_ : Array Bool := #[true,true,true,true,true,true,true,true,true,true,true,true,true,true,true,true,true,true,true,true,false,false,false,false,false,false,false,false,false,false,false,false,false,false,false,false,false,false,false,false]
abbrev B21_ : Array Bool := #[true,true,true,true,true,true,true,true,true,true,true,true,true,true,true,true,true,true,true,true,true,false,false,false,false,false,false,false,false,false,false,false,false,false,false,false,false,false,false,false]
abbrev B22_ : Array Bool := #[true,true,true,true,true,true,true,true,true,true,true,true,true,true,true,true,true,true,true,true,true,true,false,false,false,false,false,false,false,false,false,false,false,false,false,false,false,false,false,false]
abbrev B23_ : Array Bool := #[true,true,true,true,true,true,true,true,true,true,true,true,true,true,true,true,true,true,true,true,true,true,true,false,false,false,false,false,false,false,false,false,false,false,false,false,false,false,false,false]
abbrev B24_ : Array Bool := #[true,true,true,true,true,true,true,true,true,true,true,true,true,true,true,true,true,true,true,true,true,true,true,true,false,false,false,false,false,false,false,false,false,false,false,false,false,false,false,false]
abbrev B25_ : Array Bool := #[true,true,true,true,true,true,true,true,true,true,true,true,true,true,true,true,true,true,true,true,true,true,true,true,true,false,false,false,false,false,false,false,false,false,false,false,false,false,false,false]
abbrev B26_ : Array Bool := #[true,true,true,true,true,true,true,true,true,true,true,true,true,true,true,true,true,true,true,true,true,true,true,true,true,true,false,false,false,false,false,false,false,false,false,false,false,false,false,false]
abbrev B27_ : Array Bool := #[true,true,true,true,true,true,true,true,true,true,true,true,true,true,true,true,true,true,true,true,true,true,true,true,true,true,true,false,false,false,false,false,false,false,false,false,false,false,false,false]
abbrev B28_ : Array Bool := #[true,true,true,true,true,true,true,true,true,true,true,true,true,true,true,true,true,true,true,true,true,true,true,true,true,true,true,true,false,false,false,false,false,false,false,false,false,false,false,false]
abbrev B29_ : Array Bool := #[true,true,true,true,true,true,true,true,true,true,true,true,true,true,true,true,true,true,true,true,true,true,true,true,true,true,true,true,true,false,false,false,false,false,false,false,false,false,false,false]
abbrev B30_ : Array Bool := #[true,true,true,true,true,true,true,true,true,true,true,true,true,true,true,true,true,true,true,true,true,true,true,true,true,true,true,true,true,true,false,false,false,false,false,false,false,false,false,false]
abbrev B31_ : Array Bool := #[true,true,true,true,true,true,true,true,true,true,true,true,true,true,true,true,true,true,true,true,true,true,true,true,true,true,true,true,true,true,true,false,false,false,false,false,false,false,false,false]
abbrev B32_ : Array Bool := #[true,true,true,true,true,true,true,true,true,true,true,true,true,true,true,true,true,true,true,true,true,true,true,true,true,true,true,true,true,true,true,true,false,false,false,false,false,false,false,false]
abbrev B33_ : Array Bool := #[true,true,true,true,true,true,true,true,true,true,true,true,true,true,true,true,true,true,true,true,true,true,true,true,true,true,true,true,true,true,true,true,true,false,false,false,false,false,false,false]
abbrev B34_ : Array Bool := #[true,true,true,true,true,true,true,true,true,true,true,true,true,true,true,true,true,true,true,true,true,true,true,true,true,true,true,true,true,true,true,true,true,true,false,false,false,false,false,false]
abbrev B35_ : Array Bool := #[true,true,true,true,true,true,true,true,true,true,true,true,true,true,true,true,true,true,true,true,true,true,true,true,true,true,true,true,true,true,true,true,true,true,true,false,false,false,false,false]
abbrev B36_ : Array Bool := #[true,true,true,true,true,true,true,true,true,true,true,true,true,true,true,true,true,true,true,true,true,true,true,true,true,true,true,true,true,true,true,true,true,true,true,true,false,false,false,false]
abbrev B37_ : Array Bool := #[true,true,true,true,true,true,true,true,true,true,true,true,true,true,true,true,true,true,true,true,true,true,true,true,true,true,true,true,true,true,true,true,true,true,true,true,true,false,false,false]
abbrev B38_ : Array Bool := #[true,true,true,true,true,true,true,true,true,true,true,true,true,true,true,true,true,true,true,true,true,true,true,true,true,true,true,true,true,true,true,true,true,true,true,true,true,true,false,false]
abbrev B39_ : Array Bool := #[true,true,true,true,true,true,true,true,true,true,true,true,true,true,true,true,true,true,true,true,true,true,true,true,true,true,true,true,true,true,true,true,true,true,true,true,true,true,true,false]
abbrev B40_ : Array Bool := #[true,true,true,true,true,true,true,true,true,true,true,true,true,true,true,true,true,true,true,true,true,true,true,true,true,true,true,true,true,true,true,true,true,true,true,true,true,true,true,true]
abbrev B41_ : Array Bool := #[true,true,true,true,true,true,true,true,true,true,true,true,true,true,true,true,true,true,true,true,true,false,true,false,false,false,false,false,false,false,false,false,false,false,false,false,false,false,false,false]
abbrev B42_ : Array Bool := #[true,true,true,true,true,true,true,true,true,true,true,true,true,true,true,true,true,true,true,true,true,true,true,true,true,true,true,true,false,true,false,false,false,false,false,false,false,false,false,false]
abbrev B43_ : Array Bool := #[true,true,true,true,true,true,true,true,true,true,true,true,true,true,true,false,false,false,false,false,false,false,false,false,false,false,false,false,false,false,false,false,false,false,false,false,false,false,false,false]
abbrev B44_ : Array Bool := #[false,false,false,false,false,false,false,false,false,false,false,false,false,false,false,false,false,false,false,false,false,false,false,false,false,false,false,false,false,false]
abbrev B45_ : Array Bool := #[true,false,false,false,false,false,false,false,false,false,false,false,false,false,false,false,false,false,false,false,false,false,false,false,false,false,false,false,false,false]
abbrev B46_ : Array Bool := #[true,true,false,false,false,false,false,false,false,false,false,false,false,false,false,false,false,false,false,false,false,false,false,false,false,false,false,false,false,false]
abbrev B47_ : Array Bool := #[true,true,true,false,false,false,false,false,false,false,false,false,false,false,false,false,false,false,false,false,false,false,false,false,false,false,false,false,false,false]
abbrev B48_ : Array Bool := #[true,true,true,true,false,false,false,false,false,false,false,false,false,false,false,false,false,false,false,false,false,false,false,false,false,false,false,false,false,false]
abbrev B49_ : Array Bool := #[true,true,true,true,true,false,false,false,false,false,false,false,false,false,false,false,false,false,false,false,false,false,false,false,false,false,false,false,false,false]
abbrev B50_ : Array Bool := #[true,true,true,true,true,true,false,false,false,false,false,false,false,false,false,false,false,false,false,false,false,false,false,false,false,false,false,false,false,false]
abbrev B51_ : Array Bool := #[true,true,true,true,true,true,true,false,false,false,false,false,false,false,false,false,false,false,false,false,false,false,false,false,false,false,false,false,false,false]
abbrev B52_ : Array Bool := #[true,true,true,true,true,true,true,true,false,false,false,false,false,false,false,false,false,false,false,false,false,false,false,false,false,false,false,false,false,false]
abbrev B53_ : Array Bool := #[true,true,true,true,true,true,true,true,true,false,false,false,false,false,false,false,false,false,false,false,false,false,false,false,false,false,false,false,false,false]
abbrev B54_ : Array Bool := #[true,true,true,true,true,true,true,true,true,true,false,false,false,false,false,false,false,false,false,false,false,false,false,false,false,false,false,false,false,false]
abbrev B55_ : Array Bool := #[true,true,true,true,true,true,true,true,true,true,true,false,false,false,false,false,false,false,false,false,false,false,false,false,false,false,false,false,false,false]
abbrev B56_ : Array Bool := #[true,true,true,true,true,true,true,true,true,true,true,true,false,false,false,false,false,false,false,false,false,false,false,false,false,false,false,false,false,false]
abbrev B57_ : Array Bool := #[true,true,true,true,true,true,true,true,true,true,true,true,true,false,false,false,false,false,false,false,false,false,false,false,false,false,false,false,false,false]
abbrev B58_ : Array Bool := #[true,true,true,true,true,true,true,true,true,true,true,true,true,true,false,false,false,false,false,false,false,false,false,false,false,false,false,false,false,false]
abbrev B59_ : Array Bool := #[true,true,true,true,true,true,true,true,true,true,true,true,true,true,true,false,false,false,false,false,false,false,false,false,false,false,false,false,false,false]
abbrev B60_ : Array Bool := #[true,true,true,true,true,true,true,true,true,true,true,true,true,true,true,true,false,false,false,false,false,false,false,false,false,false,false,false,false,false]
abbrev B61_ : Array Bool := #[true,true,true,true,true,true,true,true,true,true,true,true,true,true,true,true,true,false,false,false,false,false,false,false,false,false,false,false,false,false]
abbrev B62_ : Array Bool := #[true,true,true,true,true,true,true,true,true,true,true,true,true,true,true,true,true,true,false,false,false,false,false,false,false,false,false,false,false,false]
abbrev B63_ : Array Bool := #[true,true,true,true,true,true,true,true,true,true,true,true,true,true,true,true,true,true,true,false,false,false,false,false,false,false,false,false,false,false]
abbrev B64_ : Array Bool := #[true,true,true,true,true,true,true,true,true,true,true,true,true,true,true,true,true,true,true,true,false,false,false,false,false,false,false,false,false,false]
abbrev B65_ : Array Bool := #[true,true,true,true,true,true,true,true,true,true,true,true,true,true,true,true,true,true,true,true,true,false,false,false,false,false,false,false,false,false]
abbrev B66_ : Array Bool := #[true,true,true,true,true,true,true,true,true,true,true,true,true,true,true,true,true,true,true,true,true,true,false,false,false,false,false,false,false,false]
abbrev B67_ : Array Bool := #[true,true,true,true,true,true,true,true,true,true,true,true,true,true,true,true,true,true,true,true,true,true,true,false,false,false,false,false,false,false]
abbrev B68_ : Array Bool := #[true,true,true,true,true,true,true,true,true,true,true,true,true,true,true,true,true,true,true,true,true,true,true,true,false,false,false,false,false,false]
abbrev B69_ : Array Bool := #[true,true,true,true,true,true,true,true,true,true,true,true,true,true,true,true,true,true,true,true,true,true,true,true,true,false,false,false,false,false]
abbrev B70_ : Array Bool := #[true,true,true,true,true,true,true,true,true,true,true,true,true,true,true,true,true,true,true,true,true,true,true,true,true,true,false,false,false,false]
abbrev B71_ : Array Bool := #[true,true,true,true,true,true,true,true,true,true,true,true,true,true,true,true,true,true,true,true,true,true,true,true,true,true,true,false,false,false]
abbrev B72_ : Array Bool := #[true,true,true,true,true,true,true,true,true,true,true,true,true,true,true,true,true,true,true,true,true,true,true,true,true,true,true,true,false,false]
abbrev B73_ : Array Bool := #[true,true,true,true,true,true,true,true,true,true,true,true,true,true,true,true,true,true,true,true,true,true,true,true,true,true,true,true,true,false]
abbrev B74_ : Array Bool := #[true,true,true,true,true,true,true,true,true,true,true,true,true,true,true,true,true,true,true,true,true,true,true,true,true,true,true,true,true,true]
abbrev B75_ : Array Bool := #[true,true,true,true,true,true,true,true,true,true,true,true,true,true,true,false,true,false,false,false,false,false,false,false,false,false,false,false,false,false]
abbrev B76_ : Array Bool := #[true,true,true,true,true,true,true,true,true,true,true,true,true,true,true,false,true,true,false,false,false,false,false,false,false,false,false,false,false,false]
theorem e0_ {α : Type} (i : Nat) (x : α) (l : List α) : l.toArray.setIfInBounds i x = (l.set i x).toArray := List.setIfInBounds_toArray ..
theorem e1_ {α : Type} (a b : α) (l : List α) : (a :: l).set 0 b = b :: l := rfl
theorem e2_ {α : Type} (a b : α) (l : List α) (n : Nat) : (a :: l).set (n + 1) b = a :: l.set n b := rfl
end G4x1
open G4x1
mutual
def polyglotlaw02_DecSigns.j0 : Nat → Int → Bool → Bool → ByteArray → Int → Option (Bool)
 | 0,_,_,_,_,_=>none
 | k + 1,x1,x16,x102000,x102001,x102002=>if x16 = true then (some true) else ((dec_Dec_Round.f x102000 x102001 x102002 x1).bind fun bt105=>((dec_Dec_Round.f (!x102000) x102001 x102002 x1).bind fun bt109=>(if bt105.2.1.toList = bt109.2.1.toList then (if bt105.2.2 = bt109.2.2 then (if (bt105.1 == bt109.1) = true then (polyglotlaw02_DecSigns.j1 k true x102000 x102001 x102002 (!x102000) x102001 x102002) else ((dec_Dec_Zero.f x102000 x102001 x102002).bind fun t113=>((dec_Dec_Zero.f (!x102000) x102001 x102002).bind fun t114=>(if (t113 != t114) = true then (polyglotlaw02_DecSigns.j1 k true x102000 x102001 x102002 (!x102000) x102001 x102002) else ((dec_Dec_Whole.f x102000 x102001 x102002).bind fun t115=>((dec_Dec_Whole.f (!x102000) x102001 x102002).bind fun t116=>(if t115.toList = t116.toList then ((dec_Dec_Part.f x102000 x102001 x102002).bind fun t117=>((dec_Dec_Part.f (!x102000) x102001 x102002).bind fun t118=>(polyglotlaw02_DecSigns.j1 k (t117.toList != t118.toList) x102000 x102001 x102002 (!x102000) x102001 x102002))) else (polyglotlaw02_DecSigns.j1 k true x102000 x102001 x102002 (!x102000) x102001 x102002)))))))) else (polyglotlaw02_DecSigns.j1 k true x102000 x102001 x102002 (!x102000) x102001 x102002)) else (polyglotlaw02_DecSigns.j1 k true x102000 x102001 x102002 (!x102000) x102001 x102002))))
def polyglotlaw02_DecSigns.j1 : Nat → Bool → Bool → ByteArray → Int → Bool → ByteArray → Int → Option (Bool)
 | 0,_,_,_,_,_,_,_=>none
 | k + 1,x67,x102000,x102001,x102002,x105000,x105001,x105002=>if x67 = true then (some false) else ((dec_Dec_Zero.f x102000 x102001 x102002).bind fun t119=>(if t119 = true then ((dec_Dec_Compare.f k x102000 x102001 x102002 x105000 x105001 x105002).bind fun t120=>(if t120 = 0 then (some true) else ((dec_Dec_Zero.f x102000 x102001 x102002).bind fun t121=>(if t121 = true then (some false) else ((dec_Dec_Compare.f k x102000 x102001 x102002 x105000 x105001 x105002).bind fun t122=>((dec_Dec_Compare.f k x105000 x105001 x105002 x102000 x102001 x102002).bind fun t123=>(if t122 = (wrap64 (-t123)) then ((dec_Dec_Compare.f k x102000 x102001 x102002 x105000 x105001 x105002).bind fun t124=>(some (t124 != 0))) else (some false)))))))) else ((dec_Dec_Zero.f x102000 x102001 x102002).bind fun t125=>(if t125 = true then (some false) else ((dec_Dec_Compare.f k x102000 x102001 x102002 x105000 x105001 x105002).bind fun t126=>((dec_Dec_Compare.f k x105000 x105001 x105002 x102000 x102001 x102002).bind fun t127=>(if t126 = (wrap64 (-t127)) then ((dec_Dec_Compare.f k x102000 x102001 x102002 x105000 x105001 x105002).bind fun t128=>(some (t128 != 0))) else (some false))))))))
end
def polyglotlaw02_DecSigns.f (k : Nat) (a0_0 : Bool) (a0_1 : ByteArray) (a0_2 : Int) (a1 : Int) : Option (Bool) := (polyglotlaw02_head.f k).bind fun t102 => (if t102 = true then ((polyglotlaw02_Right.f k a0_0 a0_1 a0_2).bind fun t103 => (if t103 = true then (polyglotlaw02_DecSigns.j0 k a1 (decide (a1 > 40)) a0_0 a0_1 a0_2) else (polyglotlaw02_DecSigns.j0 k a1 true a0_0 a0_1 a0_2))) else (some false))
theorem polyglotlaw02_DecSigns.mono_l : ∀ k,(∀ y0 y1 y2 y3 y4,LeO (polyglotlaw02_DecSigns.j0 k y0 y1 y2 y3 y4) (polyglotlaw02_DecSigns.j0 (k + 1) y0 y1 y2 y3 y4)) ∧ (∀ y0 y1 y2 y3 y4 y5 y6,LeO (polyglotlaw02_DecSigns.j1 k y0 y1 y2 y3 y4 y5 y6) (polyglotlaw02_DecSigns.j1 (k + 1) y0 y1 y2 y3 y4 y5 y6))
 | 0=>⟨fun _ _ _ _ _ r h=>by simp [polyglotlaw02_DecSigns.j0] at h,fun _ _ _ _ _ _ _ r h=>by simp [polyglotlaw02_DecSigns.j1] at h⟩
 | k + 1=>by
  obtain ⟨ih0,ih1⟩:=polyglotlaw02_DecSigns.mono_l k
  refine ⟨?_,?_⟩
  ·intro y0 y1 y2 y3 y4
   unfold polyglotlaw02_DecSigns.j0
   repeat' first
   | (with_reducible exact ih0 _ _ _ _ _)
   | (with_reducible exact ih1 _ _ _ _ _ _ _)
   | (with_reducible exact dec_Dec_Compare.mono _ _ _ _ _ _ _)
   | (with_reducible exact polyglotlaw02_Right.mono _ _ _ _)
   | (with_reducible exact polyglotlaw02_head.mono _)
   | (with_reducible exact LeO.refl _)
   | (with_reducible exact LeO.none _)
   | (with_reducible refine LeO.ite ?_ ?_)
   | (with_reducible refine LeO.bind ?_ (fun _=>?_))
   | exact ih0 _ _ _ _ _
   | exact ih1 _ _ _ _ _ _ _
   | exact dec_Dec_Compare.mono _ _ _ _ _ _ _
   | exact polyglotlaw02_Right.mono _ _ _ _
   | exact polyglotlaw02_head.mono _
   | exact LeO.none _
   | refine LeO.ite ?_ ?_
   | refine LeO.bind ?_ (fun _=>?_)
  ·intro y0 y1 y2 y3 y4 y5 y6
   unfold polyglotlaw02_DecSigns.j1
   repeat' first
   | (with_reducible exact ih0 _ _ _ _ _)
   | (with_reducible exact ih1 _ _ _ _ _ _ _)
   | (with_reducible exact dec_Dec_Compare.mono _ _ _ _ _ _ _)
   | (with_reducible exact polyglotlaw02_Right.mono _ _ _ _)
   | (with_reducible exact polyglotlaw02_head.mono _)
   | (with_reducible exact LeO.refl _)
   | (with_reducible exact LeO.none _)
   | (with_reducible refine LeO.ite ?_ ?_)
   | (with_reducible refine LeO.bind ?_ (fun _=>?_))
   | exact ih0 _ _ _ _ _
   | exact ih1 _ _ _ _ _ _ _
   | exact dec_Dec_Compare.mono _ _ _ _ _ _ _
   | exact polyglotlaw02_Right.mono _ _ _ _
   | exact polyglotlaw02_head.mono _
   | exact LeO.none _
   | refine LeO.ite ?_ ?_
   | refine LeO.bind ?_ (fun _=>?_)
theorem polyglotlaw02_DecSigns.mono : ∀ a0 a1 a2 a3 k,LeO (polyglotlaw02_DecSigns.f k a0 a1 a2 a3) (polyglotlaw02_DecSigns.f (k + 1) a0 a1 a2 a3) := by
 intro a0 a1 a2 a3 k
 obtain ⟨ih0,ih1⟩:=polyglotlaw02_DecSigns.mono_l k
 unfold polyglotlaw02_DecSigns.f
 repeat' first
   | (with_reducible exact ih0 _ _ _ _ _)
   | (with_reducible exact ih1 _ _ _ _ _ _ _)
   | (with_reducible exact dec_Dec_Compare.mono _ _ _ _ _ _ _)
   | (with_reducible exact polyglotlaw02_Right.mono _ _ _ _)
   | (with_reducible exact polyglotlaw02_head.mono _)
   | (with_reducible exact LeO.refl _)
   | (with_reducible exact LeO.none _)
   | (with_reducible refine LeO.ite ?_ ?_)
   | (with_reducible refine LeO.bind ?_ (fun _=>?_))
   | exact ih0 _ _ _ _ _
   | exact ih1 _ _ _ _ _ _ _
   | exact dec_Dec_Compare.mono _ _ _ _ _ _ _
   | exact polyglotlaw02_Right.mono _ _ _ _
   | exact polyglotlaw02_head.mono _
   | exact LeO.none _
   | refine LeO.ite ?_ ?_
   | refine LeO.bind ?_ (fun _=>?_)
def polyglotlaw02_DecSigns.T9 : Bool × List (List Nat × List Nat) := (true,[([],[]),([0],[0]),([],[]),([2],[2]),([1,3],[1,3]),([4],[4]),([5],[5]),([6,5],[5,6]),([5],[5]),([8,5],[5,8]),([7,9,5],[5,7,9]),([5,10],[5,10]),([11,5],[11]),([12],[12]),([13,12],[12,13]),([12],[12]),([15,12],[12,15]),([14,16,12],[12,14,16]),([12,17],[12,17]),([18,12],[18]),([19],[19]),([20,19,19],[19,20]),([19],[19]),([22,21,19],[19,22]),([21,23,19],[19,21,23]),([19,24],[19,24]),([25,23],[25]),([26],[26]),([27,26,26],[26,27]),([26],[26]),([29,28,26],[26,29]),([28,30,26],[26,28,30]),([26,31],[26,31]),([32,30],[32]),([33],[33]),([34,33,33],[33,34]),([33],[33]),([36,35,33],[33,36]),([35,37,33],[33,35,37]),([33,38],[33,38])])
def polyglotlaw02_DecSigns.B9 : List Nat := [0,1,0,4,15,31,63,127,63,319,1023,2047,4095,8191,16383,8191,40959,131071,262143,524287,1048575,2097151,1048575,8388607,16777215,33554431,67108863,134217727,268435455,134217727,1073741823,2147483647,4294967295,8589934591,17179869183,34359738367,17179869183,137438953471,274877906943,549755813887]
theorem polyglotlaw02_DecSigns.tab9 : rtab .any (opsOf Tryd.f15 9) = polyglotlaw02_DecSigns.T9 := by kernel_rfl
theorem polyglotlaw02_DecSigns.bits9 : waitsOk polyglotlaw02_DecSigns.T9.2 polyglotlaw02_DecSigns.B9 = true := by kernel_rfl
def polyglotlaw02_DecSigns.T11 : Bool × List (List Nat × List Nat) := (true,[([],[]),([0],[0]),([1,1],[1]),([2],[2]),([2],[2]),([3,4,2,2],[2,3,4]),([5,2],[2,5]),([2,6],[2,6]),([7,5],[7]),([8],[8]),([9,8,8],[8,9]),([10,8],[8,10]),([11,10,8],[8,11]),([12],[12]),([12],[12]),([13,14,12,12],[12,13,14]),([12],[12]),([12],[12]),([16,17,15,12],[12,16,17]),([18,12],[12,18]),([15,19,12],[12,15,19]),([12,20,8],[8,12,20]),([21,18,8],[8,21]),([22],[22]),([22],[22]),([23,24,22,22],[22,23,24]),([25,22],[22,25]),([22,26,8],[8,22,26]),([8,27],[8,27]),([28,25,0,1,2,3,4,5,6,7,8,9,10,11,12,13,14,15,16,17,18,19,20,21,22,23,24,25,26,27,28],[28])])
def polyglotlaw02_DecSigns.B11 : List Nat := [0,1,3,7,7,31,63,127,255,511,1023,2047,4095,8191,8191,32767,8191,8191,262143,524287,1048575,2097151,4194303,8388607,8388607,33554431,67108863,134217727,268435455,536870911]
theorem polyglotlaw02_DecSigns.tab11 : rtab .any (opsOf Tryd.f15 11) = polyglotlaw02_DecSigns.T11 := by kernel_rfl
theorem polyglotlaw02_DecSigns.bits11 : waitsOk polyglotlaw02_DecSigns.T11.2 polyglotlaw02_DecSigns.B11 = true := by kernel_rfl
set_option maxHeartbeats 8000000 in
set_option maxRecDepth 100000 in
theorem polyglotlaw02_DecSigns.calls (k : Nat) (a0_0 : Bool) (a0_1 : ByteArray) (a0_2 : Int) (a1 : Int) (r : Bool) (w : World) (h : polyglotlaw02_DecSigns.f k a0_0 a0_1 a0_2 a1 = some r) (HT0_ : Tab_ w := by exact Tab_.step HT0_ (by repeat (first | (with_reducible first | exact HB.out | apply below_alloc | apply pw_below_drewN | apply below_drew1 | refine below_set ?_ (Aside0.out (by assumption))) | exact HB.out))) :
  Calls Tryd.prog 15 #[.agg #[.bool a0_0,.string a0_1,.int .i64 a0_2],.int .i64 a1] w fun e w'=>e = .returned (.bool r) ∧ Below w.heap.size w w':=by
 have hu23:=Tryd.underlying23
 have HB:=Aside0.mk (Below.refl w.heap.size w)
 have H : ((polyglotlaw02_head.f k).bind fun t102=>(if t102 = true then ((polyglotlaw02_Right.f k a0_0 a0_1 a0_2).bind fun t103=>(if t103 = true then (polyglotlaw02_DecSigns.j0 k a1 (decide (a1 > 40)) a0_0 a0_1 a0_2) else (polyglotlaw02_DecSigns.j0 k a1 true a0_0 a0_1 a0_2))) else (some false))) = some r:=h
 clear h
 replace H:=Option.bind_eq_some_iff.mp H
 obtain ⟨t102,A30,H⟩:=H
 replace H : (if t102 = true then ((polyglotlaw02_Right.f k a0_0 a0_1 a0_2).bind fun t103=>(if t103 = true then (polyglotlaw02_DecSigns.j0 k a1 (decide (a1 > 40)) a0_0 a0_1 a0_2) else (polyglotlaw02_DecSigns.j0 k a1 true a0_0 a0_1 a0_2))) else (some false)) = some r:=H
 have A3:=Aside0.mk A30
 clear A30
 by_cases c4 : t102 = true
 ·subst c4
  have H1 : ((polyglotlaw02_Right.f k a0_0 a0_1 a0_2).bind fun t103=>(if t103 = true then (polyglotlaw02_DecSigns.j0 k a1 (decide (a1 > 40)) a0_0 a0_1 a0_2) else (polyglotlaw02_DecSigns.j0 k a1 true a0_0 a0_1 a0_2))) = some r:=by rw [if_pos rfl] at H;exact H
  clear H
  have H:=H1
  clear H1
  have HC5:=Aside0.mk H
  clear H
  go_enter Tryd.func15,Tryd.ntmps15
  go_upto_region 3 with (first | ((with_reducible refine gate_dst (N:=2) rfl ?_);refine box_event ?hg (N:=2) ?hd (cs:=#[.bool a0_0,.string a0_1,.int .i64 a0_2]) (t:=23) ?hr ?_;(case hd=>rfl);(case hg=>rfl);(case hr=>exact u0_);intro gb101 hg w6 hbox hb;have BK101:=Aside0.mk (hbox);have GW101:=Aside0.mk (((by rw [hg];exact (below_size q13_)) : w.heap.size ≤ gb101));have GE101:=Aside0.mk (((by rw [hg];exact (below_size q13_)) : w.heap.size ≤ gb101));replace HB:=Aside0.mk (below_step q13_ hb);clear hb hbox hg) | ((with_reducible refine gate_callee (f:=34) rfl ?_);refine goesL_ (some 8) rfl rfl Tryd.func34 (by kernel_rfl) rfl #[] rfl q2_ ?_;(with_reducible refine (polyglotlaw02_head.calls k  true _ A3.out).mono ?_);rintro e w7 ⟨rfl,hb⟩;refine ⟨_,rfl,?_⟩;replace BK101:=Aside0.mk (blk_below (g:=gb101) (o:=.cells #[.bool a0_0,.string a0_1,.int .i64 a0_2] 23 (0,0)) q1_ hb);replace HB:=Aside0.mk (below_step q10_ hb);(try clear hb);(try clear hb2);(try clear hk);(try clear hi)))
  (try simp only [Act.put,List.setIfInBounds_toArray,List.set_cons_zero,List.set_cons_succ])
  go_cut [16] (fun v16 wc=>∃ (kq : Nat) (x16_4 : Bool),v16 = .bool x16_4 ∧ Aside0 (polyglotlaw02_DecSigns.j0 kq a1 x16_4 a0_0 a0_1 a0_2 = some r) ∧ Aside0 (kq ≤ k) ∧ Aside0 (wc.heap[gb101]? = some (.cells #[.bool a0_0,.string a0_1,.int .i64 a0_2] 23 (0,0))) ∧ Aside0 (Below w.heap.size w wc))
  case first =>
   have H:=HC5.out
   clear HC5
   replace H:=Option.bind_eq_some_iff.mp H
   obtain ⟨t103,A80,H⟩:=H
   replace H : (if t103 = true then (polyglotlaw02_DecSigns.j0 k a1 (decide (a1 > 40)) a0_0 a0_1 a0_2) else (polyglotlaw02_DecSigns.j0 k a1 true a0_0 a0_1 a0_2)) = some r:=H
   have A8:=Aside0.mk A80
   clear A80
   by_cases c9 : t103 = true
   ·subst c9
    have H1 : (polyglotlaw02_DecSigns.j0 k a1 (decide (a1 > 40)) a0_0 a0_1 a0_2) = some r:=by rw [if_pos rfl] at H;exact H
    clear H
    have H:=H1
    clear H1
    have H':=Aside0.mk H
    clear H
    obtain ⟨hcz10_0,hcz10_1,hcz10_2,hfz10_0,hfz10_1,hfz10_2⟩:=cellsF3 BK101.out
    go_wp2_with (first | ((with_reducible refine gate_callee (f:=18) rfl ?_);refine goesL_ (some 11) rfl rfl Tryd.func18 (by kernel_rfl) rfl #[.agg #[.bool a0_0,.string a0_1,.int .i64 a0_2]] rfl q2_ ?_;(with_reducible refine (polyglotlaw02_Right.calls k a0_0 a0_1 a0_2 true _ A8.out).mono ?_);rintro e w11 ⟨rfl,hb⟩;refine ⟨_,rfl,?_⟩;replace BK101:=Aside0.mk (blk_below (g:=gb101) (o:=.cells #[.bool a0_0,.string a0_1,.int .i64 a0_2] 23 (0,0)) q1_ hb);replace HB:=Aside0.mk (below_step q10_ hb);(try clear hb);(try clear hb2);(try clear hk);(try clear hi)))
    go_meet
    case rel=>exact ⟨_,(decide (a1 > 40)),q15_,H',⟨(by first | omega | exact Nat.le_refl _)⟩,⟨q1_⟩,⟨q10_⟩⟩
   ·replace c9:=Bool.eq_false_iff.mpr c9
    subst c9
    have H1 : (polyglotlaw02_DecSigns.j0 k a1 true a0_0 a0_1 a0_2) = some r:=by rw [if_neg (show ¬ (false = true) by decide)] at H;exact H
    clear H
    have H:=H1
    clear H1
    have H':=Aside0.mk H
    clear H
    obtain ⟨hcz12_0,hcz12_1,hcz12_2,hfz12_0,hfz12_1,hfz12_2⟩:=cellsF3 BK101.out
    go_wp2_with (first | ((with_reducible refine gate_callee (f:=18) rfl ?_);refine goesL_ (some 11) rfl rfl Tryd.func18 (by kernel_rfl) rfl #[.agg #[.bool a0_0,.string a0_1,.int .i64 a0_2]] rfl q2_ ?_;(with_reducible refine (polyglotlaw02_Right.calls k a0_0 a0_1 a0_2 false _ A8.out).mono ?_);rintro e w13 ⟨rfl,hb⟩;refine ⟨_,rfl,?_⟩;replace BK101:=Aside0.mk (blk_below (g:=gb101) (o:=.cells #[.bool a0_0,.string a0_1,.int .i64 a0_2] 23 (0,0)) q1_ hb);replace HB:=Aside0.mk (below_step q10_ hb);(try clear hb);(try clear hb2);(try clear hk);(try clear hi)))
    go_meet
    case rel=>exact ⟨_,(true),q15_,H',⟨(by first | omega | exact Nat.le_refl _)⟩,⟨q1_⟩,⟨q10_⟩⟩
  case rest =>
   clear HC5
   try clear c1
   try clear p2
   try clear c3
   try clear c4
   try clear c9
   try clear hcz10_0 hcz10_1 hcz10_2
   try clear hcz12_0 hcz12_1 hcz12_2
   try clear hfz10_0 hfz10_1 hfz10_2
   try clear hfz12_0 hfz12_1 hfz12_2
   obtain ⟨kq,x16_4,rfl,HA,HJ4,BK101,HB⟩:=hcut
   cases kq with
   | zero=>exact absurd HA.out (by simp [polyglotlaw02_DecSigns.j0])
   | succ kj4 =>
    have H:=HA.out
    clear HA
    simp only [polyglotlaw02_DecSigns.j0] at H
    by_cases c14 : x16_4 = true
    ·subst c14
     have H1 : (some true) = some r:=by rw [if_pos rfl] at H;exact H
     clear H
     have H:=H1
     clear H1
     obtain rfl:=Option.some.inj H
     go_wp2
     go_ret
     exact ⟨q11_,q10_⟩
    ·replace c14:=Bool.eq_false_iff.mpr c14
     subst c14
     have H1 : ((dec_Dec_Round.f a0_0 a0_1 a0_2 a1).bind fun bt105=>((dec_Dec_Round.f (!a0_0) a0_1 a0_2 a1).bind fun bt109=>(if bt105.2.1.toList = bt109.2.1.toList then (if bt105.2.2 = bt109.2.2 then (if (bt105.1 == bt109.1) = true then (polyglotlaw02_DecSigns.j1 kj4 true a0_0 a0_1 a0_2 (!a0_0) a0_1 a0_2) else ((dec_Dec_Zero.f a0_0 a0_1 a0_2).bind fun t113=>((dec_Dec_Zero.f (!a0_0) a0_1 a0_2).bind fun t114=>(if (t113 != t114) = true then (polyglotlaw02_DecSigns.j1 kj4 true a0_0 a0_1 a0_2 (!a0_0) a0_1 a0_2) else ((dec_Dec_Whole.f a0_0 a0_1 a0_2).bind fun t115=>((dec_Dec_Whole.f (!a0_0) a0_1 a0_2).bind fun t116=>(if t115.toList = t116.toList then ((dec_Dec_Part.f a0_0 a0_1 a0_2).bind fun t117=>((dec_Dec_Part.f (!a0_0) a0_1 a0_2).bind fun t118=>(polyglotlaw02_DecSigns.j1 kj4 (t117.toList != t118.toList) a0_0 a0_1 a0_2 (!a0_0) a0_1 a0_2))) else (polyglotlaw02_DecSigns.j1 kj4 true a0_0 a0_1 a0_2 (!a0_0) a0_1 a0_2)))))))) else (polyglotlaw02_DecSigns.j1 kj4 true a0_0 a0_1 a0_2 (!a0_0) a0_1 a0_2)) else (polyglotlaw02_DecSigns.j1 kj4 true a0_0 a0_1 a0_2 (!a0_0) a0_1 a0_2)))) = some r:=by rw [if_neg (show ¬ (false = true) by decide)] at H;exact H
     clear H
     have H:=H1
     clear H1
     replace H:=Option.bind_eq_some_iff.mp H
     obtain ⟨⟨t105,t106,t107⟩,A150,H⟩:=H
     replace H : ((dec_Dec_Round.f (!a0_0) a0_1 a0_2 a1).bind fun bt109=>(if t106.toList = bt109.2.1.toList then (if t107 = bt109.2.2 then (if (t105 == bt109.1) = true then (polyglotlaw02_DecSigns.j1 kj4 true a0_0 a0_1 a0_2 (!a0_0) a0_1 a0_2) else ((dec_Dec_Zero.f a0_0 a0_1 a0_2).bind fun t113=>((dec_Dec_Zero.f (!a0_0) a0_1 a0_2).bind fun t114=>(if (t113 != t114) = true then (polyglotlaw02_DecSigns.j1 kj4 true a0_0 a0_1 a0_2 (!a0_0) a0_1 a0_2) else ((dec_Dec_Whole.f a0_0 a0_1 a0_2).bind fun t115=>((dec_Dec_Whole.f (!a0_0) a0_1 a0_2).bind fun t116=>(if t115.toList = t116.toList then ((dec_Dec_Part.f a0_0 a0_1 a0_2).bind fun t117=>((dec_Dec_Part.f (!a0_0) a0_1 a0_2).bind fun t118=>(polyglotlaw02_DecSigns.j1 kj4 (t117.toList != t118.toList) a0_0 a0_1 a0_2 (!a0_0) a0_1 a0_2))) else (polyglotlaw02_DecSigns.j1 kj4 true a0_0 a0_1 a0_2 (!a0_0) a0_1 a0_2)))))))) else (polyglotlaw02_DecSigns.j1 kj4 true a0_0 a0_1 a0_2 (!a0_0) a0_1 a0_2)) else (polyglotlaw02_DecSigns.j1 kj4 true a0_0 a0_1 a0_2 (!a0_0) a0_1 a0_2))) = some r:=H
     have A15:=Aside0.mk A150
     clear A150
     replace H:=Option.bind_eq_some_iff.mp H
     obtain ⟨⟨t109,t110,t111⟩,A160,H⟩:=H
     replace H : (if t106.toList = t110.toList then (if t107 = t111 then (if (t105 == t109) = true then (polyglotlaw02_DecSigns.j1 kj4 true a0_0 a0_1 a0_2 (!a0_0) a0_1 a0_2) else ((dec_Dec_Zero.f a0_0 a0_1 a0_2).bind fun t113=>((dec_Dec_Zero.f (!a0_0) a0_1 a0_2).bind fun t114=>(if (t113 != t114) = true then (polyglotlaw02_DecSigns.j1 kj4 true a0_0 a0_1 a0_2 (!a0_0) a0_1 a0_2) else ((dec_Dec_Whole.f a0_0 a0_1 a0_2).bind fun t115=>((dec_Dec_Whole.f (!a0_0) a0_1 a0_2).bind fun t116=>(if t115.toList = t116.toList then ((dec_Dec_Part.f a0_0 a0_1 a0_2).bind fun t117=>((dec_Dec_Part.f (!a0_0) a0_1 a0_2).bind fun t118=>(polyglotlaw02_DecSigns.j1 kj4 (t117.toList != t118.toList) a0_0 a0_1 a0_2 (!a0_0) a0_1 a0_2))) else (polyglotlaw02_DecSigns.j1 kj4 true a0_0 a0_1 a0_2 (!a0_0) a0_1 a0_2)))))))) else (polyglotlaw02_DecSigns.j1 kj4 true a0_0 a0_1 a0_2 (!a0_0) a0_1 a0_2)) else (polyglotlaw02_DecSigns.j1 kj4 true a0_0 a0_1 a0_2 (!a0_0) a0_1 a0_2)) = some r:=H
     have A16:=Aside0.mk A160
     clear A160
     have HC17:=Aside0.mk H
     clear H
     obtain ⟨hcz18_0,hcz18_1,hcz18_2,hfz18_0,hfz18_1,hfz18_2⟩:=cellsF3 BK101.out
     go_upto_region 9 with (first | ((with_reducible refine gate_dst (N:=5) rfl ?_);refine box_event ?hg (N:=5) ?hd (cs:=#[.bool false,.string (⟨#[]⟩ : ByteArray),.int .i64 0]) (t:=23) ?hr ?_;(case hd=>rfl);(case hg=>rfl);(case hr=>exact u0_);intro gb104 hg w19 hbox hb;have BK104:=Aside0.mk (hbox);have GW104:=Aside0.mk (((by rw [hg];exact (below_size q10_)) : w.heap.size ≤ gb104));have GE104:=Aside0.mk (((by rw [hg];exact (below_size q10_)) : w.heap.size ≤ gb104));replace HB:=Aside0.mk (below_step q10_ hb);have NB101_104:=Aside0.mk ((q17_ : gb101 ≠ gb104));have NB104_101:=Aside0.mk ((q18_ : gb104 ≠ gb101));replace BK101:=Aside0.mk (blk_below (g:=gb101) (o:=.cells #[.bool a0_0,.string a0_1,.int .i64 a0_2] 23 (0,0)) q1_ hb);clear hb hbox hg;have hnb20:=NB104_101.out;have hnc20:=NB101_104.out;obtain ⟨hcz21_0,hcz21_1,hcz21_2,hfz21_0,hfz21_1,hfz21_2⟩:=cellsF3 BK104.out;obtain ⟨hcz22_0,hcz22_1,hcz22_2,hfz22_0,hfz22_1,hfz22_2⟩:=cellsF3 BK101.out) | ((with_reducible refine gate_callee (f:=40) rfl ?_);refine goesL_ (some 24) rfl rfl Tryd.func40 (by kernel_rfl) rfl #[.agg #[.bool a0_0,.string a0_1,.int .i64 a0_2],.int .i64 a1] rfl q2_ ?_;(with_reducible refine (dec_Dec_Round.calls a0_0 a0_1 a0_2 a1 t105 t106 t107 _ A15.out).mono ?_);rintro e w23 ⟨rfl,hb⟩;refine ⟨_,rfl,?_⟩;replace BK101:=Aside0.mk (blk_below (g:=gb101) (o:=.cells #[.bool a0_0,.string a0_1,.int .i64 a0_2] 23 (0,0)) (by (with_reducible repeat (first | refine blk_drewN ?_ _ | refine blk_drew ?_ | refine blk_alloc ?_ _));refine blk_far ?_ NB101_104.out _;(with_reducible repeat (first | refine blk_drewN ?_ _ | refine blk_drew ?_ | refine blk_alloc ?_ _));refine blk_far ?_ NB101_104.out _;(with_reducible repeat (first | refine blk_drewN ?_ _ | refine blk_drew ?_ | refine blk_alloc ?_ _));refine blk_far ?_ NB101_104.out _;(with_reducible repeat (first | refine blk_drewN ?_ _ | refine blk_drew ?_ | refine blk_alloc ?_ _));refine blk_far ?_ NB101_104.out _;(with_reducible repeat (first | refine blk_drewN ?_ _ | refine blk_drew ?_ | refine blk_alloc ?_ _));exact BK101.out) hb);replace BK104:=Aside0.mk (blk_below (g:=gb104) (o:=.cells #[.bool (!a0_0),.string a0_1,.int .i64 a0_2] 23 (0,0)) (by (with_reducible repeat (first | refine blk_drewN ?_ _ | refine blk_drew ?_ | refine blk_alloc ?_ _));refine blk_put (cs:=#[.bool a0_0,.string a0_1,.int .i64 a0_2]) ?_ 0 _ rfl;(with_reducible repeat (first | refine blk_drewN ?_ _ | refine blk_drew ?_ | refine blk_alloc ?_ _));refine blk_put (cs:=#[.bool a0_0,.string a0_1,.int .i64 0]) ?_ 2 _ rfl;(with_reducible repeat (first | refine blk_drewN ?_ _ | refine blk_drew ?_ | refine blk_alloc ?_ _));refine blk_put (cs:=#[.bool a0_0,.string (⟨#[]⟩ : ByteArray),.int .i64 0]) ?_ 1 _ rfl;(with_reducible repeat (first | refine blk_drewN ?_ _ | refine blk_drew ?_ | refine blk_alloc ?_ _));refine blk_put (cs:=#[.bool false,.string (⟨#[]⟩ : ByteArray),.int .i64 0]) ?_ 0 _ rfl;(with_reducible repeat (first | refine blk_drewN ?_ _ | refine blk_drew ?_ | refine blk_alloc ?_ _));exact BK104.out) hb);replace HB:=Aside0.mk (below_step q14_ hb);(try clear hb);(try clear hb2);(try clear hk);(try clear hi)) | ((with_reducible refine gate_dst (N:=6) rfl ?_);refine box_event ?hg (N:=6) ?hd (cs:=#[.bool false,.string (⟨#[]⟩ : ByteArray),.int .i64 0]) (t:=23) ?hr ?_;(case hd=>rfl);(case hg=>rfl);(case hr=>exact u0_);intro gb108 hg w24 hbox hb;have BK108:=Aside0.mk (hbox);have GW108:=Aside0.mk (((by rw [hg];exact (below_size q14_)) : w.heap.size ≤ gb108));have GE108:=Aside0.mk (((by rw [hg];exact (below_size q14_)) : w.heap.size ≤ gb108));replace HB:=Aside0.mk (below_step q14_ hb);have NB101_108:=Aside0.mk ((q17_ : gb101 ≠ gb108));have NB108_101:=Aside0.mk ((q18_ : gb108 ≠ gb101));replace BK101:=Aside0.mk (blk_below (g:=gb101) (o:=.cells #[.bool a0_0,.string a0_1,.int .i64 a0_2] 23 (0,0)) q1_ hb);have NB104_108:=Aside0.mk (((by rw [hg];exact Nat.ne_of_lt (blk_lt (g:=gb104) (o:=.cells #[.bool (!a0_0),.string a0_1,.int .i64 a0_2] 23 (0,0)) q3_)) : gb104 ≠ gb108));have NB108_104:=Aside0.mk (((by rw [hg];exact Nat.ne_of_gt (blk_lt (g:=gb104) (o:=.cells #[.bool (!a0_0),.string a0_1,.int .i64 a0_2] 23 (0,0)) q3_)) : gb108 ≠ gb104));replace BK104:=Aside0.mk (blk_below (g:=gb104) (o:=.cells #[.bool (!a0_0),.string a0_1,.int .i64 a0_2] 23 (0,0)) q3_ hb);clear hb hbox hg;have hnb25:=NB108_101.out;have hnc25:=NB101_108.out;have hnb26:=NB108_104.out;have hnc26:=NB104_108.out;obtain ⟨hcz27_0,hcz27_1,hcz27_2,hfz27_0,hfz27_1,hfz27_2⟩:=cellsF3 BK108.out;obtain ⟨hcz28_0,hcz28_1,hcz28_2,hfz28_0,hfz28_1,hfz28_2⟩:=cellsF3 BK104.out) | ((with_reducible refine gate_callee (f:=40) rfl ?_);refine goesL_ (some 27) rfl rfl Tryd.func40 (by kernel_rfl) rfl #[.agg #[.bool (!a0_0),.string a0_1,.int .i64 a0_2],.int .i64 a1] rfl q2_ ?_;(with_reducible refine (dec_Dec_Round.calls (!a0_0) a0_1 a0_2 a1 t109 t110 t111 _ A16.out).mono ?_);rintro e w29 ⟨rfl,hb⟩;refine ⟨_,rfl,?_⟩;replace BK101:=Aside0.mk (blk_below (g:=gb101) (o:=.cells #[.bool a0_0,.string a0_1,.int .i64 a0_2] 23 (0,0)) (by (with_reducible repeat (first | refine blk_drewN ?_ _ | refine blk_drew ?_ | refine blk_alloc ?_ _));refine blk_far ?_ NB101_108.out _;(with_reducible repeat (first | refine blk_drewN ?_ _ | refine blk_drew ?_ | refine blk_alloc ?_ _));refine blk_far ?_ NB101_108.out _;(with_reducible repeat (first | refine blk_drewN ?_ _ | refine blk_drew ?_ | refine blk_alloc ?_ _));refine blk_far ?_ NB101_108.out _;(with_reducible repeat (first | refine blk_drewN ?_ _ | refine blk_drew ?_ | refine blk_alloc ?_ _));exact BK101.out) hb);replace BK104:=Aside0.mk (blk_below (g:=gb104) (o:=.cells #[.bool (!a0_0),.string a0_1,.int .i64 a0_2] 23 (0,0)) (by (with_reducible repeat (first | refine blk_drewN ?_ _ | refine blk_drew ?_ | refine blk_alloc ?_ _));refine blk_far ?_ NB104_108.out _;(with_reducible repeat (first | refine blk_drewN ?_ _ | refine blk_drew ?_ | refine blk_alloc ?_ _));refine blk_far ?_ NB104_108.out _;(with_reducible repeat (first | refine blk_drewN ?_ _ | refine blk_drew ?_ | refine blk_alloc ?_ _));refine blk_far ?_ NB104_108.out _;(with_reducible repeat (first | refine blk_drewN ?_ _ | refine blk_drew ?_ | refine blk_alloc ?_ _));exact BK104.out) hb);replace BK108:=Aside0.mk (blk_below (g:=gb108) (o:=.cells #[.bool t105,.string t106,.int .i64 t107] 23 (0,0)) (by (with_reducible repeat (first | refine blk_drewN ?_ _ | refine blk_drew ?_ | refine blk_alloc ?_ _));refine blk_put (cs:=#[.bool t105,.string t106,.int .i64 0]) ?_ 2 _ rfl;(with_reducible repeat (first | refine blk_drewN ?_ _ | refine blk_drew ?_ | refine blk_alloc ?_ _));refine blk_put (cs:=#[.bool t105,.string (⟨#[]⟩ : ByteArray),.int .i64 0]) ?_ 1 _ rfl;(with_reducible repeat (first | refine blk_drewN ?_ _ | refine blk_drew ?_ | refine blk_alloc ?_ _));refine blk_put (cs:=#[.bool false,.string (⟨#[]⟩ : ByteArray),.int .i64 0]) ?_ 0 _ rfl;(with_reducible repeat (first | refine blk_drewN ?_ _ | refine blk_drew ?_ | refine blk_alloc ?_ _));exact BK108.out) hb);replace HB:=Aside0.mk (below_step q12_ hb);(try clear hb);(try clear hb2);(try clear hk);(try clear hi)) | ((with_reducible refine gate_dst (N:=7) rfl ?_);refine box_event ?hg (N:=7) ?hd (cs:=#[.bool false,.string (⟨#[]⟩ : ByteArray),.int .i64 0]) (t:=23) ?hr ?_;(case hd=>rfl);(case hg=>rfl);(case hr=>exact u0_);intro gb112 hg w30 hbox hb;have BK112:=Aside0.mk (hbox);have GW112:=Aside0.mk (((by rw [hg];exact (below_size q12_)) : w.heap.size ≤ gb112));have GE112:=Aside0.mk (((by rw [hg];exact (below_size q12_)) : w.heap.size ≤ gb112));replace HB:=Aside0.mk (below_step q12_ hb);have NB101_112:=Aside0.mk ((q17_ : gb101 ≠ gb112));have NB112_101:=Aside0.mk ((q18_ : gb112 ≠ gb101));replace BK101:=Aside0.mk (blk_below (g:=gb101) (o:=.cells #[.bool a0_0,.string a0_1,.int .i64 a0_2] 23 (0,0)) q1_ hb);have NB104_112:=Aside0.mk (((by rw [hg];exact Nat.ne_of_lt (blk_lt (g:=gb104) (o:=.cells #[.bool (!a0_0),.string a0_1,.int .i64 a0_2] 23 (0,0)) q3_)) : gb104 ≠ gb112));have NB112_104:=Aside0.mk (((by rw [hg];exact Nat.ne_of_gt (blk_lt (g:=gb104) (o:=.cells #[.bool (!a0_0),.string a0_1,.int .i64 a0_2] 23 (0,0)) q3_)) : gb112 ≠ gb104));replace BK104:=Aside0.mk (blk_below (g:=gb104) (o:=.cells #[.bool (!a0_0),.string a0_1,.int .i64 a0_2] 23 (0,0)) q3_ hb);have NB108_112:=Aside0.mk (((by rw [hg];exact Nat.ne_of_lt (blk_lt (g:=gb108) (o:=.cells #[.bool t105,.string t106,.int .i64 t107] 23 (0,0)) q4_)) : gb108 ≠ gb112));have NB112_108:=Aside0.mk (((by rw [hg];exact Nat.ne_of_gt (blk_lt (g:=gb108) (o:=.cells #[.bool t105,.string t106,.int .i64 t107] 23 (0,0)) q4_)) : gb112 ≠ gb108));replace BK108:=Aside0.mk (blk_below (g:=gb108) (o:=.cells #[.bool t105,.string t106,.int .i64 t107] 23 (0,0)) q4_ hb);clear hb hbox hg;have hnb31:=NB112_101.out;have hnc31:=NB101_112.out;have hnb32:=NB112_104.out;have hnc32:=NB104_112.out;have hnb33:=NB112_108.out;have hnc33:=NB108_112.out;obtain ⟨hcz34_0,hcz34_1,hcz34_2,hfz34_0,hfz34_1,hfz34_2⟩:=cellsF3 BK112.out))
     (try simp only [Act.put,List.setIfInBounds_toArray,List.set_cons_zero,List.set_cons_succ])
     go_cut [67] (fun v67 wc=>∃ (kq : Nat) (x67_16 : Bool),v67 = .bool x67_16 ∧ Aside0 (polyglotlaw02_DecSigns.j1 kq x67_16 a0_0 a0_1 a0_2 (!a0_0) a0_1 a0_2 = some r) ∧ Aside0 (kq ≤ kj4) ∧ Aside0 (wc.heap[gb101]? = some (.cells #[.bool a0_0,.string a0_1,.int .i64 a0_2] 23 (0,0))) ∧ Aside0 (wc.heap[gb104]? = some (.cells #[.bool (!a0_0),.string a0_1,.int .i64 a0_2] 23 (0,0))) ∧ Aside0 (wc.heap[gb108]? = some (.cells #[.bool t105,.string t106,.int .i64 t107] 23 (0,0))) ∧ Aside0 (wc.heap[gb112]? = some (.cells #[.bool t109,.string t110,.int .i64 t111] 23 (0,0))) ∧ Aside0 (Below w.heap.size w wc))
     case first =>
      have H:=HC17.out
      clear HC17
      by_cases c35 : t106.toList = t110.toList
      ·rw [if_pos c35] at H
       have c35b0 : (t106.toList == t110.toList) = true:=beq_iff_eq.mpr c35
       have c35b1 : (t106.toList != t110.toList) = false:=bne_eq_false_iff_eq.mpr c35
       clear c35
       (first | rw [c35b0] | (simp only [i64_w,i32_w];rw [c35b0]) | skip)
       by_cases c36 : t107 = t111
       ·rw [if_pos c36] at H
        have c36b0 : (t107 == t111) = true:=beq_iff_eq.mpr c36
        have c36b1 : (t107 != t111) = false:=bne_eq_false_iff_eq.mpr c36
        clear c36
        by_cases c37 : (t105 == t109) = true
        ·rw [if_pos c37] at H
         have c37b0 : (t105 == t109) = true:=c37
         (try (have c37b1 : decide (t105 = t109) = true:=by simpa using c37))
         (try (have c37b2 : (t105 == t109) = true:=by simpa using c37))
         clear c37
         have H':=Aside0.mk H
         clear H
         try go_wp2
         have n0_ : Aside0 ((((w30.setCell ⟨gb112,0,none⟩ (.bool t109)).setCell ⟨gb112,1,none⟩ (.string t110)).setCell ⟨gb112,2,none⟩ (.int .i64 t111)).heap[gb101]? = some (.cells #[.bool a0_0,.string a0_1,.int .i64 a0_2] 23 (0,0))):=⟨q7_⟩
         have n1_ : Aside0 ((((w30.setCell ⟨gb112,0,none⟩ (.bool t109)).setCell ⟨gb112,1,none⟩ (.string t110)).setCell ⟨gb112,2,none⟩ (.int .i64 t111)).heap[gb104]? = some (.cells #[.bool (!a0_0),.string a0_1,.int .i64 a0_2] 23 (0,0))):=⟨q8_⟩
         have n2_ : Aside0 ((((w30.setCell ⟨gb112,0,none⟩ (.bool t109)).setCell ⟨gb112,1,none⟩ (.string t110)).setCell ⟨gb112,2,none⟩ (.int .i64 t111)).heap[gb108]? = some (.cells #[.bool t105,.string t106,.int .i64 t107] 23 (0,0))):=⟨q9_⟩
         have n3_ : Aside0 ((((w30.setCell ⟨gb112,0,none⟩ (.bool t109)).setCell ⟨gb112,1,none⟩ (.string t110)).setCell ⟨gb112,2,none⟩ (.int .i64 t111)).heap[gb112]? = some (.cells #[.bool t109,.string t110,.int .i64 t111] 23 (0,0))):=⟨q6_⟩
         have n4_ : Aside0 (Below w.heap.size w (((w30.setCell ⟨gb112,0,none⟩ (.bool t109)).setCell ⟨gb112,1,none⟩ (.string t110)).setCell ⟨gb112,2,none⟩ (.int .i64 t111))):=⟨q0_⟩
         (try clear BK101)
         (try clear BK104)
         (try clear BK108)
         (try clear BK112)
         (try clear HB)
         generalize (((w30.setCell ⟨gb112,0,none⟩ (.bool t109)).setCell ⟨gb112,1,none⟩ (.string t110)).setCell ⟨gb112,2,none⟩ (.int .i64 t111)) = w38 at n0_ n1_ n2_ n3_ n4_ ⊢
         have BK101:=n0_
         have BK104:=n1_
         have BK108:=n2_
         have BK112:=n3_
         have HB:=n4_
         clear n0_ n1_ n2_ n3_ n4_
         replace BK101:=Aside0.mk (blk_drew BK101.out)
         replace BK104:=Aside0.mk (blk_drew BK104.out)
         replace BK108:=Aside0.mk (blk_drew BK108.out)
         replace BK112:=Aside0.mk (blk_drew BK112.out)
         replace HB:=Aside0.mk (below_drew1 HB.out)
         refine start_ (n:=40) (S:=fun w'=>w'.cell? ⟨gb108,0,none⟩ = some (.bool t105) ∧ w'.cell? ⟨gb108,1,none⟩ = some (.string t106) ∧ w'.cell? ⟨gb108,2,none⟩ = some (.int .i64 t107) ∧ w'.cell? ⟨gb112,0,none⟩ = some (.bool t109) ∧ w'.cell? ⟨gb112,1,none⟩ = some (.string t110) ∧ w'.cell? ⟨gb112,2,none⟩ = some (.int .i64 t111)) (ds:=[]) B0_ (by kernel_rfl) rfl rfl ⟨(blk_cell BK108.out 0).trans rfl,(blk_cell BK108.out 1).trans rfl,(blk_cell BK108.out 2).trans rfl,(blk_cell BK112.out 0).trans rfl,(blk_cell BK112.out 1).trans rfl,(blk_cell BK112.out 2).trans rfl⟩ (fun hHeld=>?_);refine with_tabW polyglotlaw02_DecSigns.tab9 polyglotlaw02_DecSigns.bits9 (fun HT_ HW_=>?_)
         generalize w38.drew = w39 at BK101 BK104 BK108 BK112 HB hHeld ⊢
         refine pure_ (i:=0) (N:=some 28) (v:=?_) (a':=?_) B1_ rfl rfl (any_of HT_.out (by kernel_rfl)) (fun _ _ _ h=>h) (Or.inl ⟨(by rfl),?_⟩) ?_ ?_
         rotate_left
         ·intro w'
          go_simp
          with_reducible rfl
         rotate_left
         ·simp only [Act.put,e0_,e1_,e2_,i64_w,i32_w]
          rfl
         refine pure_ (i:=2) (N:=some 30) (v:=?_) (a':=?_) B2_ rfl rfl (any_of HT_.out (by kernel_rfl)) (fun _ _ _ h=>h) (Or.inl ⟨(by rfl),?_⟩) ?_ ?_
         rotate_left
         ·intro w'
          go_simp
          with_reducible rfl
         rotate_left
         ·simp only [Act.put,e0_,e1_,e2_,i64_w,i32_w]
          rfl
         refine take_ (i:=1) (N:=some 29) (v:=?_) (a':=?_) B3_ rfl rfl (take_ofW HT_.out HW_.out (by kernel_rfl)) (fun _ _ _ h=>h) (Or.inl ⟨(by rfl),?_⟩) hHeld ?_ ?_
         rotate_left
         ·rintro w' ⟨s0,s1,s2,s3,s4,s5⟩
          go_simp
          with_reducible rfl
         rotate_left
         ·simp only [Act.put,e0_,e1_,e2_,i64_w,i32_w]
          rfl
         refine take_ (i:=3) (N:=some 31) (v:=?_) (a':=?_) B4_ rfl rfl (take_ofW HT_.out HW_.out (by kernel_rfl)) (fun _ _ _ h=>h) (Or.inl ⟨(by rfl),?_⟩) hHeld ?_ ?_
         rotate_left
         ·rintro w' ⟨s0,s1,s2,s3,s4,s5⟩
          go_simp
          with_reducible rfl
         rotate_left
         ·simp only [Act.put,e0_,e1_,e2_,i64_w,i32_w]
          rfl
         refine pure_ (i:=4) (N:=some 32) (v:=?_) (a':=?_) B5_ rfl rfl (any_of HT_.out (by kernel_rfl)) (fun _ _ _ h=>h) (Or.inl ⟨(by rfl),?_⟩) ?_ ?_
         rotate_left
         ·intro w'
          go_simp
          with_reducible rfl
         rotate_left
         ·simp only [Act.put,e0_,e1_,e2_,i64_w,i32_w]
          rfl
         refine pure_ (i:=5) (N:=some 33) (v:=?_) (a':=?_) B6_ rfl rfl (any_of HT_.out (by kernel_rfl)) (fun _ _ _ h=>h) (Or.inl ⟨(by rfl),?_⟩) ?_ ?_
         rotate_left
         ·intro w'
          go_simp
          with_reducible rfl
         rotate_left
         ·simp only [Act.put,e0_,e1_,e2_,i64_w,i32_w]
          rfl
         refine pure_ (i:=6) (N:=some 34) (v:=?_) (a':=?_) B7_ rfl rfl (any_of HT_.out (by kernel_rfl)) (fun _ _ _ h=>h) (Or.inl ⟨(by rfl),?_⟩) ?_ ?_
         rotate_left
         ·intro w'
          go_simp
          with_reducible rfl
         rotate_left
         ·simp only [Act.put,e0_,e1_,e2_,i64_w,i32_w]
          rfl
         refine pure_ (i:=8) (N:=some 36) (v:=?_) (a':=?_) B8_ rfl rfl (any_of HT_.out (by kernel_rfl)) (fun _ _ _ h=>h) (Or.inl ⟨(by rfl),?_⟩) ?_ ?_
         rotate_left
         ·intro w'
          go_simp
          with_reducible rfl
         rotate_left
         ·simp only [Act.put,e0_,e1_,e2_,i64_w,i32_w]
          rfl
         refine take_ (i:=7) (N:=some 35) (v:=?_) (a':=?_) B9_ rfl rfl (take_ofW HT_.out HW_.out (by kernel_rfl)) (fun _ _ _ h=>h) (Or.inl ⟨(by rfl),?_⟩) hHeld ?_ ?_
         rotate_left
         ·rintro w' ⟨s0,s1,s2,s3,s4,s5⟩
          go_simp
          with_reducible rfl
         rotate_left
         ·simp only [Act.put,e0_,e1_,e2_,i64_w,i32_w]
          rfl
         refine take_ (i:=9) (N:=some 37) (v:=?_) (a':=?_) B10_ rfl rfl (take_ofW HT_.out HW_.out (by kernel_rfl)) (fun _ _ _ h=>h) (Or.inl ⟨(by rfl),?_⟩) hHeld ?_ ?_
         rotate_left
         ·rintro w' ⟨s0,s1,s2,s3,s4,s5⟩
          go_simp
          with_reducible rfl
         rotate_left
         ·simp only [Act.put,e0_,e1_,e2_,i64_w,i32_w]
          rfl
         refine pure_ (i:=10) (N:=some 38) (v:=?_) (a':=?_) B11_ rfl rfl (any_of HT_.out (by kernel_rfl)) (fun _ _ _ h=>h) (Or.inl ⟨(by rfl),?_⟩) ?_ ?_
         rotate_left
         ·intro w'
          go_simp
          with_reducible rfl
         rotate_left
         ·simp only [Act.put,e0_,e1_,e2_,i64_w,i32_w]
          rfl
         refine pure_ (i:=11) (N:=some 39) (v:=?_) (a':=?_) B12_ rfl rfl (any_of HT_.out (by kernel_rfl)) (fun _ _ _ h=>h) (Or.inl ⟨(by rfl),?_⟩) ?_ ?_
         rotate_left
         ·intro w'
          go_simp
          with_reducible rfl
         rotate_left
         ·simp only [Act.put,e0_,e1_,e2_,i64_w,i32_w]
          rfl
         refine pure_ (i:=12) (N:=some 40) (v:=?_) (a':=?_) B13_ rfl rfl (any_of HT_.out (by kernel_rfl)) (fun _ _ _ h=>h) (Or.inl ⟨(by rfl),?_⟩) ?_ ?_
         rotate_left
         ·intro w'
          go_simp
          with_reducible rfl
         rotate_left
         ·simp only [Act.put,e0_,e1_,e2_,i64_w,i32_w]
          rfl
         refine pure_ (i:=13) (N:=some 41) (v:=?_) (a':=?_) B14_ rfl rfl (any_of HT_.out (by kernel_rfl)) (fun _ _ _ h=>h) (Or.inl ⟨(by rfl),?_⟩) ?_ ?_
         rotate_left
         ·intro w'
          go_simp
          with_reducible rfl
         rotate_left
         ·simp only [Act.put,e0_,e1_,e2_,i64_w,i32_w]
          rfl
         refine pure_ (i:=15) (N:=some 43) (v:=?_) (a':=?_) B15_ rfl rfl (any_of HT_.out (by kernel_rfl)) (fun _ _ _ h=>h) (Or.inl ⟨(by rfl),?_⟩) ?_ ?_
         rotate_left
         ·intro w'
          go_simp
          with_reducible rfl
         rotate_left
         ·simp only [Act.put,e0_,e1_,e2_,i64_w,i32_w]
          rfl
         refine take_ (i:=14) (N:=some 42) (v:=?_) (a':=?_) B16_ rfl rfl (take_ofW HT_.out HW_.out (by kernel_rfl)) (fun _ _ _ h=>h) (Or.inl ⟨(by rfl),?_⟩) hHeld ?_ ?_
         rotate_left
         ·rintro w' ⟨s0,s1,s2,s3,s4,s5⟩
          go_simp
          with_reducible rfl
         rotate_left
         ·simp only [Act.put,e0_,e1_,e2_,i64_w,i32_w]
          rfl
         refine take_ (i:=16) (N:=some 44) (v:=?_) (a':=?_) B17_ rfl rfl (take_ofW HT_.out HW_.out (by kernel_rfl)) (fun _ _ _ h=>h) (Or.inl ⟨(by rfl),?_⟩) hHeld ?_ ?_
         rotate_left
         ·rintro w' ⟨s0,s1,s2,s3,s4,s5⟩
          go_simp
          with_reducible rfl
         rotate_left
         ·simp only [Act.put,e0_,e1_,e2_,i64_w,i32_w]
          rfl
         refine pure_ (i:=17) (N:=some 45) (v:=?_) (a':=?_) B18_ rfl rfl (any_of HT_.out (by kernel_rfl)) (fun _ _ _ h=>h) (Or.inl ⟨(by rfl),?_⟩) ?_ ?_
         rotate_left
         ·intro w'
          go_simp
          with_reducible rfl
         rotate_left
         ·simp only [Act.put,e0_,e1_,e2_,i64_w,i32_w]
          rfl
         refine pure_ (i:=18) (N:=some 46) (v:=?_) (a':=?_) B19_ rfl rfl (any_of HT_.out (by kernel_rfl)) (fun _ _ _ h=>h) (Or.inl ⟨(by rfl),?_⟩) ?_ ?_
         rotate_left
         ·intro w'
          go_simp
          with_reducible rfl
         rotate_left
         ·simp only [Act.put,e0_,e1_,e2_,i64_w,i32_w]
          rfl
         refine pure_ (i:=19) (N:=some 47) (v:=?_) (a':=?_) B20_ rfl rfl (any_of HT_.out (by kernel_rfl)) (fun _ _ _ h=>h) (Or.inl ⟨(by rfl),?_⟩) ?_ ?_
         rotate_left
         ·intro w'
          go_simp
          with_reducible rfl
         rotate_left
         ·simp only [Act.put,e0_,e1_,e2_,i64_w,i32_w]
          rfl
         refine pure_ (i:=20) (N:=some 48) (v:=undef) (a':=?_) B21_ rfl rfl (any_of HT_.out (by kernel_rfl)) (fun _ _ _ h=>h) (Or.inr ⟨(by rfl),rfl⟩) ?_ ?_
         rotate_left
         ·simp only [Act.put,e0_,e1_,e2_,i64_w,i32_w]
          rfl
         refine pure_ (i:=21) (N:=some 49) (v:=undef) (a':=?_) B22_ rfl rfl (any_of HT_.out (by kernel_rfl)) (fun _ _ _ h=>h) (Or.inr ⟨(by rfl),rfl⟩) ?_ ?_
         rotate_left
         ·simp only [Act.put,e0_,e1_,e2_,i64_w,i32_w]
          rfl
         refine pure_ (i:=22) (N:=some 50) (v:=undef) (a':=?_) B23_ rfl rfl (any_of HT_.out (by kernel_rfl)) (fun _ _ _ h=>h) (Or.inr ⟨(by rfl),rfl⟩) ?_ ?_
         rotate_left
         ·simp only [Act.put,e0_,e1_,e2_,i64_w,i32_w]
          rfl
         refine pure_ (i:=23) (N:=some 51) (v:=undef) (a':=?_) B24_ rfl rfl (any_of HT_.out (by kernel_rfl)) (fun _ _ _ h=>h) (Or.inr ⟨(by rfl),rfl⟩) ?_ ?_
         rotate_left
         ·simp only [Act.put,e0_,e1_,e2_,i64_w,i32_w]
          rfl
         refine pure_ (i:=24) (N:=some 52) (v:=undef) (a':=?_) B25_ rfl rfl (any_of HT_.out (by kernel_rfl)) (fun _ _ _ h=>h) (Or.inr ⟨(by rfl),rfl⟩) ?_ ?_
         rotate_left
         ·simp only [Act.put,e0_,e1_,e2_,i64_w,i32_w]
          rfl
         refine pure_ (i:=25) (N:=some 53) (v:=?_) (a':=?_) B26_ rfl rfl (any_of HT_.out (by kernel_rfl)) (fun _ _ _ h=>h) (Or.inl ⟨(by rfl),?_⟩) ?_ ?_
         rotate_left
         ·intro w'
          go_simp
          with_reducible rfl
         rotate_left
         ·simp only [Act.put,e0_,e1_,e2_,i64_w,i32_w]
          rfl
         refine pure_ (i:=26) (N:=some 54) (v:=?_) (a':=?_) B27_ rfl rfl (any_of HT_.out (by kernel_rfl)) (fun _ _ _ h=>h) (Or.inl ⟨(by rfl),?_⟩) ?_ ?_
         rotate_left
         ·intro w'
          go_simp
          with_reducible rfl
         rotate_left
         ·simp only [Act.put,e0_,e1_,e2_,i64_w,i32_w]
          rfl
         refine pure_ (i:=27) (N:=some 55) (v:=undef) (a':=?_) B28_ rfl rfl (any_of HT_.out (by kernel_rfl)) (fun _ _ _ h=>h) (Or.inr ⟨(by rfl),rfl⟩) ?_ ?_
         rotate_left
         ·simp only [Act.put,e0_,e1_,e2_,i64_w,i32_w]
          rfl
         refine pure_ (i:=28) (N:=some 56) (v:=undef) (a':=?_) B29_ rfl rfl (any_of HT_.out (by kernel_rfl)) (fun _ _ _ h=>h) (Or.inr ⟨(by rfl),rfl⟩) ?_ ?_
         rotate_left
         ·simp only [Act.put,e0_,e1_,e2_,i64_w,i32_w]
          rfl
         refine pure_ (i:=29) (N:=some 57) (v:=undef) (a':=?_) B30_ rfl rfl (any_of HT_.out (by kernel_rfl)) (fun _ _ _ h=>h) (Or.inr ⟨(by rfl),rfl⟩) ?_ ?_
         rotate_left
         ·simp only [Act.put,e0_,e1_,e2_,i64_w,i32_w]
          rfl
         refine pure_ (i:=30) (N:=some 58) (v:=undef) (a':=?_) B31_ rfl rfl (any_of HT_.out (by kernel_rfl)) (fun _ _ _ h=>h) (Or.inr ⟨(by rfl),rfl⟩) ?_ ?_
         rotate_left
         ·simp only [Act.put,e0_,e1_,e2_,i64_w,i32_w]
          rfl
         refine pure_ (i:=31) (N:=some 59) (v:=undef) (a':=?_) B32_ rfl rfl (any_of HT_.out (by kernel_rfl)) (fun _ _ _ h=>h) (Or.inr ⟨(by rfl),rfl⟩) ?_ ?_
         rotate_left
         ·simp only [Act.put,e0_,e1_,e2_,i64_w,i32_w]
          rfl
         refine pure_ (i:=32) (N:=some 60) (v:=?_) (a':=?_) B33_ rfl rfl (any_of HT_.out (by kernel_rfl)) (fun _ _ _ h=>h) (Or.inl ⟨(by rfl),?_⟩) ?_ ?_
         rotate_left
         ·intro w'
          go_simp
          with_reducible rfl
         rotate_left
         ·simp only [Act.put,e0_,e1_,e2_,i64_w,i32_w]
          rfl
         refine pure_ (i:=33) (N:=some 61) (v:=?_) (a':=?_) B34_ rfl rfl (any_of HT_.out (by kernel_rfl)) (fun _ _ _ h=>h) (Or.inl ⟨(by rfl),?_⟩) ?_ ?_
         rotate_left
         ·intro w'
          go_simp
          with_reducible rfl
         rotate_left
         ·simp only [Act.put,e0_,e1_,e2_,i64_w,i32_w]
          rfl
         refine pure_ (i:=34) (N:=some 62) (v:=undef) (a':=?_) B35_ rfl rfl (any_of HT_.out (by kernel_rfl)) (fun _ _ _ h=>h) (Or.inr ⟨(by rfl),rfl⟩) ?_ ?_
         rotate_left
         ·simp only [Act.put,e0_,e1_,e2_,i64_w,i32_w]
          rfl
         refine pure_ (i:=35) (N:=some 63) (v:=undef) (a':=?_) B36_ rfl rfl (any_of HT_.out (by kernel_rfl)) (fun _ _ _ h=>h) (Or.inr ⟨(by rfl),rfl⟩) ?_ ?_
         rotate_left
         ·simp only [Act.put,e0_,e1_,e2_,i64_w,i32_w]
          rfl
         refine pure_ (i:=36) (N:=some 64) (v:=undef) (a':=?_) B37_ rfl rfl (any_of HT_.out (by kernel_rfl)) (fun _ _ _ h=>h) (Or.inr ⟨(by rfl),rfl⟩) ?_ ?_
         rotate_left
         ·simp only [Act.put,e0_,e1_,e2_,i64_w,i32_w]
          rfl
         refine pure_ (i:=37) (N:=some 65) (v:=undef) (a':=?_) B38_ rfl rfl (any_of HT_.out (by kernel_rfl)) (fun _ _ _ h=>h) (Or.inr ⟨(by rfl),rfl⟩) ?_ ?_
         rotate_left
         ·simp only [Act.put,e0_,e1_,e2_,i64_w,i32_w]
          rfl
         refine pure_ (i:=38) (N:=some 66) (v:=undef) (a':=?_) B39_ rfl rfl (any_of HT_.out (by kernel_rfl)) (fun _ _ _ h=>h) (Or.inr ⟨(by rfl),rfl⟩) ?_ ?_
         rotate_left
         ·simp only [Act.put,e0_,e1_,e2_,i64_w,i32_w]
          rfl
         refine pure_ (i:=39) (N:=some 67) (v:=?_) (a':=?_) B40_ rfl rfl (any_of HT_.out (by kernel_rfl)) (fun _ _ _ h=>h) (Or.inl ⟨(by rfl),?_⟩) ?_ ?_
         rotate_left
         ·intro w'
          go_simp
          with_reducible rfl
         rotate_left
         ·simp only [Act.put,e0_,e1_,e2_,i64_w,i32_w]
          rfl
         refine done_ (done_of HT_.out (by kernel_rfl)) ?_
         try go_wp2
         go_meet
         case rel=>exact ⟨_,(true),q15_,H',⟨q16_⟩,⟨q1_⟩,⟨q3_⟩,⟨q4_⟩,⟨q5_⟩,⟨q0_⟩⟩
        ·rw [if_neg c37] at H
         have c37b0 : (t105 == t109) = false:=by simpa using c37
         (try (have c37b1 : decide (t105 = t109) = false:=by simpa using c37))
         (try (have c37b2 : (t105 == t109) = false:=by simpa using c37))
         (try (have c37b3 : ¬ (t105 = t109):=by simpa using c37))
         clear c37
         replace H:=Option.bind_eq_some_iff.mp H
         obtain ⟨t113,A400,H⟩:=H
         replace H : ((dec_Dec_Zero.f (!a0_0) a0_1 a0_2).bind fun t114=>(if (t113 != t114) = true then (polyglotlaw02_DecSigns.j1 kj4 true a0_0 a0_1 a0_2 (!a0_0) a0_1 a0_2) else ((dec_Dec_Whole.f a0_0 a0_1 a0_2).bind fun t115=>((dec_Dec_Whole.f (!a0_0) a0_1 a0_2).bind fun t116=>(if t115.toList = t116.toList then ((dec_Dec_Part.f a0_0 a0_1 a0_2).bind fun t117=>((dec_Dec_Part.f (!a0_0) a0_1 a0_2).bind fun t118=>(polyglotlaw02_DecSigns.j1 kj4 (t117.toList != t118.toList) a0_0 a0_1 a0_2 (!a0_0) a0_1 a0_2))) else (polyglotlaw02_DecSigns.j1 kj4 true a0_0 a0_1 a0_2 (!a0_0) a0_1 a0_2)))))) = some r:=H
         have A40:=Aside0.mk A400
         clear A400
         replace H:=Option.bind_eq_some_iff.mp H
         obtain ⟨t114,A410,H⟩:=H
         replace H : (if (t113 != t114) = true then (polyglotlaw02_DecSigns.j1 kj4 true a0_0 a0_1 a0_2 (!a0_0) a0_1 a0_2) else ((dec_Dec_Whole.f a0_0 a0_1 a0_2).bind fun t115=>((dec_Dec_Whole.f (!a0_0) a0_1 a0_2).bind fun t116=>(if t115.toList = t116.toList then ((dec_Dec_Part.f a0_0 a0_1 a0_2).bind fun t117=>((dec_Dec_Part.f (!a0_0) a0_1 a0_2).bind fun t118=>(polyglotlaw02_DecSigns.j1 kj4 (t117.toList != t118.toList) a0_0 a0_1 a0_2 (!a0_0) a0_1 a0_2))) else (polyglotlaw02_DecSigns.j1 kj4 true a0_0 a0_1 a0_2 (!a0_0) a0_1 a0_2))))) = some r:=H
         have A41:=Aside0.mk A410
         clear A410
         by_cases c42 : (t113 != t114) = true
         ·rw [if_pos c42] at H
          have c42b0 : (t113 != t114) = true:=c42
          (try (have c42b1 : decide (t113 = t114) = false:=by simpa using c42))
          (try (have c42b2 : (t113 == t114) = false:=by simpa using c42))
          (try (have c42b3 : ¬ (t113 = t114):=by simpa using c42))
          clear c42
          have H':=Aside0.mk H
          clear H
          try go_wp2
          have n0_ : Aside0 ((((w30.setCell ⟨gb112,0,none⟩ (.bool t109)).setCell ⟨gb112,1,none⟩ (.string t110)).setCell ⟨gb112,2,none⟩ (.int .i64 t111)).heap[gb101]? = some (.cells #[.bool a0_0,.string a0_1,.int .i64 a0_2] 23 (0,0))):=⟨q7_⟩
          have n1_ : Aside0 ((((w30.setCell ⟨gb112,0,none⟩ (.bool t109)).setCell ⟨gb112,1,none⟩ (.string t110)).setCell ⟨gb112,2,none⟩ (.int .i64 t111)).heap[gb104]? = some (.cells #[.bool (!a0_0),.string a0_1,.int .i64 a0_2] 23 (0,0))):=⟨q8_⟩
          have n2_ : Aside0 ((((w30.setCell ⟨gb112,0,none⟩ (.bool t109)).setCell ⟨gb112,1,none⟩ (.string t110)).setCell ⟨gb112,2,none⟩ (.int .i64 t111)).heap[gb108]? = some (.cells #[.bool t105,.string t106,.int .i64 t107] 23 (0,0))):=⟨q9_⟩
          have n3_ : Aside0 ((((w30.setCell ⟨gb112,0,none⟩ (.bool t109)).setCell ⟨gb112,1,none⟩ (.string t110)).setCell ⟨gb112,2,none⟩ (.int .i64 t111)).heap[gb112]? = some (.cells #[.bool t109,.string t110,.int .i64 t111] 23 (0,0))):=⟨q6_⟩
          have n4_ : Aside0 (Below w.heap.size w (((w30.setCell ⟨gb112,0,none⟩ (.bool t109)).setCell ⟨gb112,1,none⟩ (.string t110)).setCell ⟨gb112,2,none⟩ (.int .i64 t111))):=⟨q0_⟩
          (try clear BK101)
          (try clear BK104)
          (try clear BK108)
          (try clear BK112)
          (try clear HB)
          generalize (((w30.setCell ⟨gb112,0,none⟩ (.bool t109)).setCell ⟨gb112,1,none⟩ (.string t110)).setCell ⟨gb112,2,none⟩ (.int .i64 t111)) = w43 at n0_ n1_ n2_ n3_ n4_ ⊢
          have BK101:=n0_
          have BK104:=n1_
          have BK108:=n2_
          have BK112:=n3_
          have HB:=n4_
          clear n0_ n1_ n2_ n3_ n4_
          replace BK101:=Aside0.mk (blk_drew BK101.out)
          replace BK104:=Aside0.mk (blk_drew BK104.out)
          replace BK108:=Aside0.mk (blk_drew BK108.out)
          replace BK112:=Aside0.mk (blk_drew BK112.out)
          replace HB:=Aside0.mk (below_drew1 HB.out)
          refine start_ (n:=40) (S:=fun w'=>w'.cell? ⟨gb108,0,none⟩ = some (.bool t105) ∧ w'.cell? ⟨gb108,1,none⟩ = some (.string t106) ∧ w'.cell? ⟨gb108,2,none⟩ = some (.int .i64 t107) ∧ w'.cell? ⟨gb112,0,none⟩ = some (.bool t109) ∧ w'.cell? ⟨gb112,1,none⟩ = some (.string t110) ∧ w'.cell? ⟨gb112,2,none⟩ = some (.int .i64 t111) ∧ w'.cell? ⟨gb101,0,none⟩ = some (.bool a0_0) ∧ w'.cell? ⟨gb101,1,none⟩ = some (.string a0_1) ∧ w'.cell? ⟨gb101,2,none⟩ = some (.int .i64 a0_2) ∧ w'.cell? ⟨gb104,0,none⟩ = some (.bool (!a0_0)) ∧ w'.cell? ⟨gb104,1,none⟩ = some (.string a0_1) ∧ w'.cell? ⟨gb104,2,none⟩ = some (.int .i64 a0_2)) (ds:=[]) B0_ (by kernel_rfl) rfl rfl ⟨(blk_cell BK108.out 0).trans rfl,(blk_cell BK108.out 1).trans rfl,(blk_cell BK108.out 2).trans rfl,(blk_cell BK112.out 0).trans rfl,(blk_cell BK112.out 1).trans rfl,(blk_cell BK112.out 2).trans rfl,(blk_cell BK101.out 0).trans rfl,(blk_cell BK101.out 1).trans rfl,(blk_cell BK101.out 2).trans rfl,(blk_cell BK104.out 0).trans rfl,(blk_cell BK104.out 1).trans rfl,(blk_cell BK104.out 2).trans rfl⟩ (fun hHeld=>?_);refine with_tabW polyglotlaw02_DecSigns.tab9 polyglotlaw02_DecSigns.bits9 (fun HT_ HW_=>?_)
          generalize w43.drew = w44 at BK101 BK104 BK108 BK112 HB hHeld ⊢
          refine pure_ (i:=0) (N:=some 28) (v:=?_) (a':=?_) B1_ rfl rfl (any_of HT_.out (by kernel_rfl)) (fun _ _ _ h=>h) (Or.inl ⟨(by rfl),?_⟩) ?_ ?_
          rotate_left
          ·intro w'
           go_simp
           with_reducible rfl
          rotate_left
          ·simp only [Act.put,e0_,e1_,e2_,i64_w,i32_w]
           rfl
          refine pure_ (i:=2) (N:=some 30) (v:=?_) (a':=?_) B2_ rfl rfl (any_of HT_.out (by kernel_rfl)) (fun _ _ _ h=>h) (Or.inl ⟨(by rfl),?_⟩) ?_ ?_
          rotate_left
          ·intro w'
           go_simp
           with_reducible rfl
          rotate_left
          ·simp only [Act.put,e0_,e1_,e2_,i64_w,i32_w]
           rfl
          refine take_ (i:=1) (N:=some 29) (v:=?_) (a':=?_) B3_ rfl rfl (take_ofW HT_.out HW_.out (by kernel_rfl)) (fun _ _ _ h=>h) (Or.inl ⟨(by rfl),?_⟩) hHeld ?_ ?_
          rotate_left
          ·rintro w' ⟨s0,s1,s2,s3,s4,s5,s6,s7,s8,s9,s10,s11⟩
           go_simp
           with_reducible rfl
          rotate_left
          ·simp only [Act.put,e0_,e1_,e2_,i64_w,i32_w]
           rfl
          refine take_ (i:=3) (N:=some 31) (v:=?_) (a':=?_) B4_ rfl rfl (take_ofW HT_.out HW_.out (by kernel_rfl)) (fun _ _ _ h=>h) (Or.inl ⟨(by rfl),?_⟩) hHeld ?_ ?_
          rotate_left
          ·rintro w' ⟨s0,s1,s2,s3,s4,s5,s6,s7,s8,s9,s10,s11⟩
           go_simp
           with_reducible rfl
          rotate_left
          ·simp only [Act.put,e0_,e1_,e2_,i64_w,i32_w]
           rfl
          refine pure_ (i:=4) (N:=some 32) (v:=?_) (a':=?_) B5_ rfl rfl (any_of HT_.out (by kernel_rfl)) (fun _ _ _ h=>h) (Or.inl ⟨(by rfl),?_⟩) ?_ ?_
          rotate_left
          ·intro w'
           go_simp
           with_reducible rfl
          rotate_left
          ·simp only [Act.put,e0_,e1_,e2_,i64_w,i32_w]
           rfl
          refine pure_ (i:=5) (N:=some 33) (v:=?_) (a':=?_) B6_ rfl rfl (any_of HT_.out (by kernel_rfl)) (fun _ _ _ h=>h) (Or.inl ⟨(by rfl),?_⟩) ?_ ?_
          rotate_left
          ·intro w'
           go_simp
           with_reducible rfl
          rotate_left
          ·simp only [Act.put,e0_,e1_,e2_,i64_w,i32_w]
           rfl
          refine pure_ (i:=6) (N:=some 34) (v:=?_) (a':=?_) B7_ rfl rfl (any_of HT_.out (by kernel_rfl)) (fun _ _ _ h=>h) (Or.inl ⟨(by rfl),?_⟩) ?_ ?_
          rotate_left
          ·intro w'
           go_simp
           with_reducible rfl
          rotate_left
          ·simp only [Act.put,e0_,e1_,e2_,i64_w,i32_w]
           rfl
          refine pure_ (i:=8) (N:=some 36) (v:=?_) (a':=?_) B8_ rfl rfl (any_of HT_.out (by kernel_rfl)) (fun _ _ _ h=>h) (Or.inl ⟨(by rfl),?_⟩) ?_ ?_
          rotate_left
          ·intro w'
           go_simp
           with_reducible rfl
          rotate_left
          ·simp only [Act.put,e0_,e1_,e2_,i64_w,i32_w]
           rfl
          refine take_ (i:=7) (N:=some 35) (v:=?_) (a':=?_) B9_ rfl rfl (take_ofW HT_.out HW_.out (by kernel_rfl)) (fun _ _ _ h=>h) (Or.inl ⟨(by rfl),?_⟩) hHeld ?_ ?_
          rotate_left
          ·rintro w' ⟨s0,s1,s2,s3,s4,s5,s6,s7,s8,s9,s10,s11⟩
           go_simp
           with_reducible rfl
          rotate_left
          ·simp only [Act.put,e0_,e1_,e2_,i64_w,i32_w]
           rfl
          refine take_ (i:=9) (N:=some 37) (v:=?_) (a':=?_) B10_ rfl rfl (take_ofW HT_.out HW_.out (by kernel_rfl)) (fun _ _ _ h=>h) (Or.inl ⟨(by rfl),?_⟩) hHeld ?_ ?_
          rotate_left
          ·rintro w' ⟨s0,s1,s2,s3,s4,s5,s6,s7,s8,s9,s10,s11⟩
           go_simp
           with_reducible rfl
          rotate_left
          ·simp only [Act.put,e0_,e1_,e2_,i64_w,i32_w]
           rfl
          refine pure_ (i:=10) (N:=some 38) (v:=?_) (a':=?_) B11_ rfl rfl (any_of HT_.out (by kernel_rfl)) (fun _ _ _ h=>h) (Or.inl ⟨(by rfl),?_⟩) ?_ ?_
          rotate_left
          ·intro w'
           go_simp
           with_reducible rfl
          rotate_left
          ·simp only [Act.put,e0_,e1_,e2_,i64_w,i32_w]
           rfl
          refine pure_ (i:=11) (N:=some 39) (v:=?_) (a':=?_) B12_ rfl rfl (any_of HT_.out (by kernel_rfl)) (fun _ _ _ h=>h) (Or.inl ⟨(by rfl),?_⟩) ?_ ?_
          rotate_left
          ·intro w'
           go_simp
           with_reducible rfl
          rotate_left
          ·simp only [Act.put,e0_,e1_,e2_,i64_w,i32_w]
           rfl
          refine pure_ (i:=12) (N:=some 40) (v:=?_) (a':=?_) B13_ rfl rfl (any_of HT_.out (by kernel_rfl)) (fun _ _ _ h=>h) (Or.inl ⟨(by rfl),?_⟩) ?_ ?_
          rotate_left
          ·intro w'
           go_simp
           with_reducible rfl
          rotate_left
          ·simp only [Act.put,e0_,e1_,e2_,i64_w,i32_w]
           rfl
          refine pure_ (i:=13) (N:=some 41) (v:=?_) (a':=?_) B14_ rfl rfl (any_of HT_.out (by kernel_rfl)) (fun _ _ _ h=>h) (Or.inl ⟨(by rfl),?_⟩) ?_ ?_
          rotate_left
          ·intro w'
           go_simp
           with_reducible rfl
          rotate_left
          ·simp only [Act.put,e0_,e1_,e2_,i64_w,i32_w]
           rfl
          refine pure_ (i:=15) (N:=some 43) (v:=?_) (a':=?_) B15_ rfl rfl (any_of HT_.out (by kernel_rfl)) (fun _ _ _ h=>h) (Or.inl ⟨(by rfl),?_⟩) ?_ ?_
          rotate_left
          ·intro w'
           go_simp
           with_reducible rfl
          rotate_left
          ·simp only [Act.put,e0_,e1_,e2_,i64_w,i32_w]
           rfl
          refine take_ (i:=14) (N:=some 42) (v:=?_) (a':=?_) B16_ rfl rfl (take_ofW HT_.out HW_.out (by kernel_rfl)) (fun _ _ _ h=>h) (Or.inl ⟨(by rfl),?_⟩) hHeld ?_ ?_
          rotate_left
          ·rintro w' ⟨s0,s1,s2,s3,s4,s5,s6,s7,s8,s9,s10,s11⟩
           go_simp
           with_reducible rfl
          rotate_left
          ·simp only [Act.put,e0_,e1_,e2_,i64_w,i32_w]
           rfl
          refine take_ (i:=16) (N:=some 44) (v:=?_) (a':=?_) B17_ rfl rfl (take_ofW HT_.out HW_.out (by kernel_rfl)) (fun _ _ _ h=>h) (Or.inl ⟨(by rfl),?_⟩) hHeld ?_ ?_
          rotate_left
          ·rintro w' ⟨s0,s1,s2,s3,s4,s5,s6,s7,s8,s9,s10,s11⟩
           go_simp
           with_reducible rfl
          rotate_left
          ·simp only [Act.put,e0_,e1_,e2_,i64_w,i32_w]
           rfl
          refine pure_ (i:=17) (N:=some 45) (v:=?_) (a':=?_) B18_ rfl rfl (any_of HT_.out (by kernel_rfl)) (fun _ _ _ h=>h) (Or.inl ⟨(by rfl),?_⟩) ?_ ?_
          rotate_left
          ·intro w'
           go_simp
           with_reducible rfl
          rotate_left
          ·simp only [Act.put,e0_,e1_,e2_,i64_w,i32_w]
           rfl
          refine pure_ (i:=18) (N:=some 46) (v:=?_) (a':=?_) B19_ rfl rfl (any_of HT_.out (by kernel_rfl)) (fun _ _ _ h=>h) (Or.inl ⟨(by rfl),?_⟩) ?_ ?_
          rotate_left
          ·intro w'
           go_simp
           with_reducible rfl
          rotate_left
          ·simp only [Act.put,e0_,e1_,e2_,i64_w,i32_w]
           rfl
          refine pure_ (i:=19) (N:=some 47) (v:=?_) (a':=?_) B20_ rfl rfl (any_of HT_.out (by kernel_rfl)) (fun _ _ _ h=>h) (Or.inl ⟨(by rfl),?_⟩) ?_ ?_
          rotate_left
          ·intro w'
           go_simp
           with_reducible rfl
          rotate_left
          ·simp only [Act.put,e0_,e1_,e2_,i64_w,i32_w]
           rfl
          refine take_ (i:=20) (N:=some 48) (v:=?_) (a':=?_) B21_ rfl rfl (take_ofW HT_.out HW_.out (by kernel_rfl)) (fun _ _ _ h=>h) (Or.inl ⟨(by rfl),?_⟩) hHeld ?_ ?_
          rotate_left
          ·rintro w' ⟨s0,s1,s2,s3,s4,s5,s6,s7,s8,s9,s10,s11⟩
           go_simp
           with_reducible rfl
          rotate_left
          ·simp only [Act.put,e0_,e1_,e2_,i64_w,i32_w]
           rfl
          refine take_ (i:=22) (N:=some 50) (v:=?_) (a':=?_) B41_ rfl rfl (take_ofW HT_.out HW_.out (by kernel_rfl)) (fun _ _ _ h=>h) (Or.inl ⟨(by rfl),?_⟩) hHeld ?_ ?_
          rotate_left
          ·rintro w' ⟨s0,s1,s2,s3,s4,s5,s6,s7,s8,s9,s10,s11⟩
           go_simp
           with_reducible rfl
          rotate_left
          ·simp only [Act.put,e0_,e1_,e2_,i64_w,i32_w]
           rfl
          refine one_ (i:=21) (N:=some 49) B23_ rfl rfl (one_of HT_.out (by kernel_rfl)) (by decide) (fun K hK=>?_)
          refine goes_ Tryd.func32 (by kernel_rfl) rfl #[.agg #[.bool a0_0,.string a0_1,.int .i64 a0_2]] (by rfl) rfl rfl q2_ ?_
          with_reducible refine (dec_Dec_Zero.calls a0_0 a0_1 a0_2 t113 _ A40.out).mono ?_
          rintro e w45 ⟨rfl,hb⟩
          refine ⟨_,rfl,?_⟩
          replace BK101:=Aside0.mk (blk_below (g:=gb101) (o:=.cells #[.bool a0_0,.string a0_1,.int .i64 a0_2] 23 (0,0)) q1_ hb)
          replace BK104:=Aside0.mk (blk_below (g:=gb104) (o:=.cells #[.bool (!a0_0),.string a0_1,.int .i64 a0_2] 23 (0,0)) q3_ hb)
          replace BK108:=Aside0.mk (blk_below (g:=gb108) (o:=.cells #[.bool t105,.string t106,.int .i64 t107] 23 (0,0)) q4_ hb)
          replace BK112:=Aside0.mk (blk_below (g:=gb112) (o:=.cells #[.bool t109,.string t110,.int .i64 t111] 23 (0,0)) q5_ hb)
          replace HB:=Aside0.mk (below_step q0_ hb)
          (try clear hb)
          (try clear hb2)
          (try clear hk)
          (try clear hi)
          refine hK.out _ _ ⟨(blk_cell BK108.out 0).trans rfl,(blk_cell BK108.out 1).trans rfl,(blk_cell BK108.out 2).trans rfl,(blk_cell BK112.out 0).trans rfl,(blk_cell BK112.out 1).trans rfl,(blk_cell BK112.out 2).trans rfl,(blk_cell BK101.out 0).trans rfl,(blk_cell BK101.out 1).trans rfl,(blk_cell BK101.out 2).trans rfl,(blk_cell BK104.out 0).trans rfl,(blk_cell BK104.out 1).trans rfl,(blk_cell BK104.out 2).trans rfl⟩ (fun hHeld=>?_)
          clear hK K
          refine norm_ (a':=?_) ?_ ?_
          rotate_left
          ·show Act.put _ (some 49) _ = _
           simp only [Act.put,e0_,e1_,e2_,i64_w,i32_w]
           rfl
          refine one_ (i:=23) (N:=some 51) B24_ rfl rfl (one_of HT_.out (by kernel_rfl)) (by decide) (fun K hK=>?_)
          refine goes_ Tryd.func32 (by kernel_rfl) rfl #[.agg #[.bool (!a0_0),.string a0_1,.int .i64 a0_2]] (by rfl) rfl rfl q2_ ?_
          with_reducible refine (dec_Dec_Zero.calls (!a0_0) a0_1 a0_2 t114 _ A41.out).mono ?_
          rintro e w46 ⟨rfl,hb⟩
          refine ⟨_,rfl,?_⟩
          replace BK101:=Aside0.mk (blk_below (g:=gb101) (o:=.cells #[.bool a0_0,.string a0_1,.int .i64 a0_2] 23 (0,0)) q1_ hb)
          replace BK104:=Aside0.mk (blk_below (g:=gb104) (o:=.cells #[.bool (!a0_0),.string a0_1,.int .i64 a0_2] 23 (0,0)) q3_ hb)
          replace BK108:=Aside0.mk (blk_below (g:=gb108) (o:=.cells #[.bool t105,.string t106,.int .i64 t107] 23 (0,0)) q4_ hb)
          replace BK112:=Aside0.mk (blk_below (g:=gb112) (o:=.cells #[.bool t109,.string t110,.int .i64 t111] 23 (0,0)) q5_ hb)
          replace HB:=Aside0.mk (below_step q0_ hb)
          (try clear hb)
          (try clear hb2)
          (try clear hk)
          (try clear hi)
          refine hK.out _ _ ⟨(blk_cell BK108.out 0).trans rfl,(blk_cell BK108.out 1).trans rfl,(blk_cell BK108.out 2).trans rfl,(blk_cell BK112.out 0).trans rfl,(blk_cell BK112.out 1).trans rfl,(blk_cell BK112.out 2).trans rfl,(blk_cell BK101.out 0).trans rfl,(blk_cell BK101.out 1).trans rfl,(blk_cell BK101.out 2).trans rfl,(blk_cell BK104.out 0).trans rfl,(blk_cell BK104.out 1).trans rfl,(blk_cell BK104.out 2).trans rfl⟩ (fun hHeld=>?_)
          clear hK K
          refine norm_ (a':=?_) ?_ ?_
          rotate_left
          ·show Act.put _ (some 51) _ = _
           simp only [Act.put,e0_,e1_,e2_,i64_w,i32_w]
           rfl
          refine pure_ (i:=24) (N:=some 52) (v:=?_) (a':=?_) B25_ rfl rfl (any_of HT_.out (by kernel_rfl)) (fun _ _ _ h=>h) (Or.inl ⟨(by rfl),?_⟩) ?_ ?_
          rotate_left
          ·intro w'
           go_simp
           with_reducible rfl
          rotate_left
          ·simp only [Act.put,e0_,e1_,e2_,i64_w,i32_w]
           rfl
          refine pure_ (i:=25) (N:=some 53) (v:=?_) (a':=?_) B26_ rfl rfl (any_of HT_.out (by kernel_rfl)) (fun _ _ _ h=>h) (Or.inl ⟨(by rfl),?_⟩) ?_ ?_
          rotate_left
          ·intro w'
           go_simp
           with_reducible rfl
          rotate_left
          ·simp only [Act.put,e0_,e1_,e2_,i64_w,i32_w]
           rfl
          refine pure_ (i:=26) (N:=some 54) (v:=?_) (a':=?_) B27_ rfl rfl (any_of HT_.out (by kernel_rfl)) (fun _ _ _ h=>h) (Or.inl ⟨(by rfl),?_⟩) ?_ ?_
          rotate_left
          ·intro w'
           go_simp
           with_reducible rfl
          rotate_left
          ·simp only [Act.put,e0_,e1_,e2_,i64_w,i32_w]
           rfl
          refine pure_ (i:=27) (N:=some 55) (v:=undef) (a':=?_) B28_ rfl rfl (any_of HT_.out (by kernel_rfl)) (fun _ _ _ h=>h) (Or.inr ⟨(by rfl),rfl⟩) ?_ ?_
          rotate_left
          ·simp only [Act.put,e0_,e1_,e2_,i64_w,i32_w]
           rfl
          refine pure_ (i:=28) (N:=some 56) (v:=undef) (a':=?_) B29_ rfl rfl (any_of HT_.out (by kernel_rfl)) (fun _ _ _ h=>h) (Or.inr ⟨(by rfl),rfl⟩) ?_ ?_
          rotate_left
          ·simp only [Act.put,e0_,e1_,e2_,i64_w,i32_w]
           rfl
          refine pure_ (i:=29) (N:=some 57) (v:=undef) (a':=?_) B30_ rfl rfl (any_of HT_.out (by kernel_rfl)) (fun _ _ _ h=>h) (Or.inr ⟨(by rfl),rfl⟩) ?_ ?_
          rotate_left
          ·simp only [Act.put,e0_,e1_,e2_,i64_w,i32_w]
           rfl
          refine pure_ (i:=30) (N:=some 58) (v:=undef) (a':=?_) B31_ rfl rfl (any_of HT_.out (by kernel_rfl)) (fun _ _ _ h=>h) (Or.inr ⟨(by rfl),rfl⟩) ?_ ?_
          rotate_left
          ·simp only [Act.put,e0_,e1_,e2_,i64_w,i32_w]
           rfl
          refine pure_ (i:=31) (N:=some 59) (v:=undef) (a':=?_) B32_ rfl rfl (any_of HT_.out (by kernel_rfl)) (fun _ _ _ h=>h) (Or.inr ⟨(by rfl),rfl⟩) ?_ ?_
          rotate_left
          ·simp only [Act.put,e0_,e1_,e2_,i64_w,i32_w]
           rfl
          refine pure_ (i:=32) (N:=some 60) (v:=?_) (a':=?_) B33_ rfl rfl (any_of HT_.out (by kernel_rfl)) (fun _ _ _ h=>h) (Or.inl ⟨(by rfl),?_⟩) ?_ ?_
          rotate_left
          ·intro w'
           go_simp
           with_reducible rfl
          rotate_left
          ·simp only [Act.put,e0_,e1_,e2_,i64_w,i32_w]
           rfl
          refine pure_ (i:=33) (N:=some 61) (v:=?_) (a':=?_) B34_ rfl rfl (any_of HT_.out (by kernel_rfl)) (fun _ _ _ h=>h) (Or.inl ⟨(by rfl),?_⟩) ?_ ?_
          rotate_left
          ·intro w'
           go_simp
           with_reducible rfl
          rotate_left
          ·simp only [Act.put,e0_,e1_,e2_,i64_w,i32_w]
           rfl
          refine pure_ (i:=34) (N:=some 62) (v:=undef) (a':=?_) B35_ rfl rfl (any_of HT_.out (by kernel_rfl)) (fun _ _ _ h=>h) (Or.inr ⟨(by rfl),rfl⟩) ?_ ?_
          rotate_left
          ·simp only [Act.put,e0_,e1_,e2_,i64_w,i32_w]
           rfl
          refine pure_ (i:=35) (N:=some 63) (v:=undef) (a':=?_) B36_ rfl rfl (any_of HT_.out (by kernel_rfl)) (fun _ _ _ h=>h) (Or.inr ⟨(by rfl),rfl⟩) ?_ ?_
          rotate_left
          ·simp only [Act.put,e0_,e1_,e2_,i64_w,i32_w]
           rfl
          refine pure_ (i:=36) (N:=some 64) (v:=undef) (a':=?_) B37_ rfl rfl (any_of HT_.out (by kernel_rfl)) (fun _ _ _ h=>h) (Or.inr ⟨(by rfl),rfl⟩) ?_ ?_
          rotate_left
          ·simp only [Act.put,e0_,e1_,e2_,i64_w,i32_w]
           rfl
          refine pure_ (i:=37) (N:=some 65) (v:=undef) (a':=?_) B38_ rfl rfl (any_of HT_.out (by kernel_rfl)) (fun _ _ _ h=>h) (Or.inr ⟨(by rfl),rfl⟩) ?_ ?_
          rotate_left
          ·simp only [Act.put,e0_,e1_,e2_,i64_w,i32_w]
           rfl
          refine pure_ (i:=38) (N:=some 66) (v:=undef) (a':=?_) B39_ rfl rfl (any_of HT_.out (by kernel_rfl)) (fun _ _ _ h=>h) (Or.inr ⟨(by rfl),rfl⟩) ?_ ?_
          rotate_left
          ·simp only [Act.put,e0_,e1_,e2_,i64_w,i32_w]
           rfl
          refine pure_ (i:=39) (N:=some 67) (v:=?_) (a':=?_) B40_ rfl rfl (any_of HT_.out (by kernel_rfl)) (fun _ _ _ h=>h) (Or.inl ⟨(by rfl),?_⟩) ?_ ?_
          rotate_left
          ·intro w'
           go_simp
           with_reducible rfl
          rotate_left
          ·simp only [Act.put,e0_,e1_,e2_,i64_w,i32_w]
           rfl
          refine done_ (done_of HT_.out (by kernel_rfl)) ?_
          try go_wp2
          go_meet
          case rel=>exact ⟨_,(true),q15_,H',⟨q16_⟩,⟨q1_⟩,⟨q3_⟩,⟨q4_⟩,⟨q5_⟩,⟨q0_⟩⟩
         ·rw [if_neg c42] at H
          have c42b0 : (t113 != t114) = false:=by simpa using c42
          (try (have c42b1 : decide (t113 = t114) = true:=by simpa using c42))
          (try (have c42b2 : (t113 == t114) = true:=by simpa using c42))
          clear c42
          replace H:=Option.bind_eq_some_iff.mp H
          obtain ⟨t115,A470,H⟩:=H
          replace H : ((dec_Dec_Whole.f (!a0_0) a0_1 a0_2).bind fun t116=>(if t115.toList = t116.toList then ((dec_Dec_Part.f a0_0 a0_1 a0_2).bind fun t117=>((dec_Dec_Part.f (!a0_0) a0_1 a0_2).bind fun t118=>(polyglotlaw02_DecSigns.j1 kj4 (t117.toList != t118.toList) a0_0 a0_1 a0_2 (!a0_0) a0_1 a0_2))) else (polyglotlaw02_DecSigns.j1 kj4 true a0_0 a0_1 a0_2 (!a0_0) a0_1 a0_2))) = some r:=H
          have A47:=Aside0.mk A470
          clear A470
          replace H:=Option.bind_eq_some_iff.mp H
          obtain ⟨t116,A480,H⟩:=H
          replace H : (if t115.toList = t116.toList then ((dec_Dec_Part.f a0_0 a0_1 a0_2).bind fun t117=>((dec_Dec_Part.f (!a0_0) a0_1 a0_2).bind fun t118=>(polyglotlaw02_DecSigns.j1 kj4 (t117.toList != t118.toList) a0_0 a0_1 a0_2 (!a0_0) a0_1 a0_2))) else (polyglotlaw02_DecSigns.j1 kj4 true a0_0 a0_1 a0_2 (!a0_0) a0_1 a0_2)) = some r:=H
          have A48:=Aside0.mk A480
          clear A480
          by_cases c49 : t115.toList = t116.toList
          ·rw [if_pos c49] at H
           have c49b0 : (t115.toList == t116.toList) = true:=beq_iff_eq.mpr c49
           have c49b1 : (t115.toList != t116.toList) = false:=bne_eq_false_iff_eq.mpr c49
           clear c49
           replace H:=Option.bind_eq_some_iff.mp H
           obtain ⟨t117,A500,H⟩:=H
           replace H : ((dec_Dec_Part.f (!a0_0) a0_1 a0_2).bind fun t118=>(polyglotlaw02_DecSigns.j1 kj4 (t117.toList != t118.toList) a0_0 a0_1 a0_2 (!a0_0) a0_1 a0_2)) = some r:=H
           have A50:=Aside0.mk A500
           clear A500
           replace H:=Option.bind_eq_some_iff.mp H
           obtain ⟨t118,A510,H⟩:=H
           replace H : (polyglotlaw02_DecSigns.j1 kj4 (t117.toList != t118.toList) a0_0 a0_1 a0_2 (!a0_0) a0_1 a0_2) = some r:=H
           have A51:=Aside0.mk A510
           clear A510
           have H':=Aside0.mk H
           clear H
           try go_wp2
           have n0_ : Aside0 ((((w30.setCell ⟨gb112,0,none⟩ (.bool t109)).setCell ⟨gb112,1,none⟩ (.string t110)).setCell ⟨gb112,2,none⟩ (.int .i64 t111)).heap[gb101]? = some (.cells #[.bool a0_0,.string a0_1,.int .i64 a0_2] 23 (0,0))):=⟨q7_⟩
           have n1_ : Aside0 ((((w30.setCell ⟨gb112,0,none⟩ (.bool t109)).setCell ⟨gb112,1,none⟩ (.string t110)).setCell ⟨gb112,2,none⟩ (.int .i64 t111)).heap[gb104]? = some (.cells #[.bool (!a0_0),.string a0_1,.int .i64 a0_2] 23 (0,0))):=⟨q8_⟩
           have n2_ : Aside0 ((((w30.setCell ⟨gb112,0,none⟩ (.bool t109)).setCell ⟨gb112,1,none⟩ (.string t110)).setCell ⟨gb112,2,none⟩ (.int .i64 t111)).heap[gb108]? = some (.cells #[.bool t105,.string t106,.int .i64 t107] 23 (0,0))):=⟨q9_⟩
           have n3_ : Aside0 ((((w30.setCell ⟨gb112,0,none⟩ (.bool t109)).setCell ⟨gb112,1,none⟩ (.string t110)).setCell ⟨gb112,2,none⟩ (.int .i64 t111)).heap[gb112]? = some (.cells #[.bool t109,.string t110,.int .i64 t111] 23 (0,0))):=⟨q6_⟩
           have n4_ : Aside0 (Below w.heap.size w (((w30.setCell ⟨gb112,0,none⟩ (.bool t109)).setCell ⟨gb112,1,none⟩ (.string t110)).setCell ⟨gb112,2,none⟩ (.int .i64 t111))):=⟨q0_⟩
           (try clear BK101)
           (try clear BK104)
           (try clear BK108)
           (try clear BK112)
           (try clear HB)
           generalize (((w30.setCell ⟨gb112,0,none⟩ (.bool t109)).setCell ⟨gb112,1,none⟩ (.string t110)).setCell ⟨gb112,2,none⟩ (.int .i64 t111)) = w52 at n0_ n1_ n2_ n3_ n4_ ⊢
           have BK101:=n0_
           have BK104:=n1_
           have BK108:=n2_
           have BK112:=n3_
           have HB:=n4_
           clear n0_ n1_ n2_ n3_ n4_
           replace BK101:=Aside0.mk (blk_drew BK101.out)
           replace BK104:=Aside0.mk (blk_drew BK104.out)
           replace BK108:=Aside0.mk (blk_drew BK108.out)
           replace BK112:=Aside0.mk (blk_drew BK112.out)
           replace HB:=Aside0.mk (below_drew1 HB.out)
           refine start_ (n:=40) (S:=fun w'=>w'.cell? ⟨gb108,0,none⟩ = some (.bool t105) ∧ w'.cell? ⟨gb108,1,none⟩ = some (.string t106) ∧ w'.cell? ⟨gb108,2,none⟩ = some (.int .i64 t107) ∧ w'.cell? ⟨gb112,0,none⟩ = some (.bool t109) ∧ w'.cell? ⟨gb112,1,none⟩ = some (.string t110) ∧ w'.cell? ⟨gb112,2,none⟩ = some (.int .i64 t111) ∧ w'.cell? ⟨gb101,0,none⟩ = some (.bool a0_0) ∧ w'.cell? ⟨gb101,1,none⟩ = some (.string a0_1) ∧ w'.cell? ⟨gb101,2,none⟩ = some (.int .i64 a0_2) ∧ w'.cell? ⟨gb104,0,none⟩ = some (.bool (!a0_0)) ∧ w'.cell? ⟨gb104,1,none⟩ = some (.string a0_1) ∧ w'.cell? ⟨gb104,2,none⟩ = some (.int .i64 a0_2)) (ds:=[]) B0_ (by kernel_rfl) rfl rfl ⟨(blk_cell BK108.out 0).trans rfl,(blk_cell BK108.out 1).trans rfl,(blk_cell BK108.out 2).trans rfl,(blk_cell BK112.out 0).trans rfl,(blk_cell BK112.out 1).trans rfl,(blk_cell BK112.out 2).trans rfl,(blk_cell BK101.out 0).trans rfl,(blk_cell BK101.out 1).trans rfl,(blk_cell BK101.out 2).trans rfl,(blk_cell BK104.out 0).trans rfl,(blk_cell BK104.out 1).trans rfl,(blk_cell BK104.out 2).trans rfl⟩ (fun hHeld=>?_);refine with_tabW polyglotlaw02_DecSigns.tab9 polyglotlaw02_DecSigns.bits9 (fun HT_ HW_=>?_)
           generalize w52.drew = w53 at BK101 BK104 BK108 BK112 HB hHeld ⊢
           refine pure_ (i:=0) (N:=some 28) (v:=?_) (a':=?_) B1_ rfl rfl (any_of HT_.out (by kernel_rfl)) (fun _ _ _ h=>h) (Or.inl ⟨(by rfl),?_⟩) ?_ ?_
           rotate_left
           ·intro w'
            go_simp
            with_reducible rfl
           rotate_left
           ·simp only [Act.put,e0_,e1_,e2_,i64_w,i32_w]
            rfl
           refine pure_ (i:=2) (N:=some 30) (v:=?_) (a':=?_) B2_ rfl rfl (any_of HT_.out (by kernel_rfl)) (fun _ _ _ h=>h) (Or.inl ⟨(by rfl),?_⟩) ?_ ?_
           rotate_left
           ·intro w'
            go_simp
            with_reducible rfl
           rotate_left
           ·simp only [Act.put,e0_,e1_,e2_,i64_w,i32_w]
            rfl
           refine take_ (i:=1) (N:=some 29) (v:=?_) (a':=?_) B3_ rfl rfl (take_ofW HT_.out HW_.out (by kernel_rfl)) (fun _ _ _ h=>h) (Or.inl ⟨(by rfl),?_⟩) hHeld ?_ ?_
           rotate_left
           ·rintro w' ⟨s0,s1,s2,s3,s4,s5,s6,s7,s8,s9,s10,s11⟩
            go_simp
            with_reducible rfl
           rotate_left
           ·simp only [Act.put,e0_,e1_,e2_,i64_w,i32_w]
            rfl
           refine take_ (i:=3) (N:=some 31) (v:=?_) (a':=?_) B4_ rfl rfl (take_ofW HT_.out HW_.out (by kernel_rfl)) (fun _ _ _ h=>h) (Or.inl ⟨(by rfl),?_⟩) hHeld ?_ ?_
           rotate_left
           ·rintro w' ⟨s0,s1,s2,s3,s4,s5,s6,s7,s8,s9,s10,s11⟩
            go_simp
            with_reducible rfl
           rotate_left
           ·simp only [Act.put,e0_,e1_,e2_,i64_w,i32_w]
            rfl
           refine pure_ (i:=4) (N:=some 32) (v:=?_) (a':=?_) B5_ rfl rfl (any_of HT_.out (by kernel_rfl)) (fun _ _ _ h=>h) (Or.inl ⟨(by rfl),?_⟩) ?_ ?_
           rotate_left
           ·intro w'
            go_simp
            with_reducible rfl
           rotate_left
           ·simp only [Act.put,e0_,e1_,e2_,i64_w,i32_w]
            rfl
           refine pure_ (i:=5) (N:=some 33) (v:=?_) (a':=?_) B6_ rfl rfl (any_of HT_.out (by kernel_rfl)) (fun _ _ _ h=>h) (Or.inl ⟨(by rfl),?_⟩) ?_ ?_
           rotate_left
           ·intro w'
            go_simp
            with_reducible rfl
           rotate_left
           ·simp only [Act.put,e0_,e1_,e2_,i64_w,i32_w]
            rfl
           refine pure_ (i:=6) (N:=some 34) (v:=?_) (a':=?_) B7_ rfl rfl (any_of HT_.out (by kernel_rfl)) (fun _ _ _ h=>h) (Or.inl ⟨(by rfl),?_⟩) ?_ ?_
           rotate_left
           ·intro w'
            go_simp
            with_reducible rfl
           rotate_left
           ·simp only [Act.put,e0_,e1_,e2_,i64_w,i32_w]
            rfl
           refine pure_ (i:=8) (N:=some 36) (v:=?_) (a':=?_) B8_ rfl rfl (any_of HT_.out (by kernel_rfl)) (fun _ _ _ h=>h) (Or.inl ⟨(by rfl),?_⟩) ?_ ?_
           rotate_left
           ·intro w'
            go_simp
            with_reducible rfl
           rotate_left
           ·simp only [Act.put,e0_,e1_,e2_,i64_w,i32_w]
            rfl
           refine take_ (i:=7) (N:=some 35) (v:=?_) (a':=?_) B9_ rfl rfl (take_ofW HT_.out HW_.out (by kernel_rfl)) (fun _ _ _ h=>h) (Or.inl ⟨(by rfl),?_⟩) hHeld ?_ ?_
           rotate_left
           ·rintro w' ⟨s0,s1,s2,s3,s4,s5,s6,s7,s8,s9,s10,s11⟩
            go_simp
            with_reducible rfl
           rotate_left
           ·simp only [Act.put,e0_,e1_,e2_,i64_w,i32_w]
            rfl
           refine take_ (i:=9) (N:=some 37) (v:=?_) (a':=?_) B10_ rfl rfl (take_ofW HT_.out HW_.out (by kernel_rfl)) (fun _ _ _ h=>h) (Or.inl ⟨(by rfl),?_⟩) hHeld ?_ ?_
           rotate_left
           ·rintro w' ⟨s0,s1,s2,s3,s4,s5,s6,s7,s8,s9,s10,s11⟩
            go_simp
            with_reducible rfl
           rotate_left
           ·simp only [Act.put,e0_,e1_,e2_,i64_w,i32_w]
            rfl
           refine pure_ (i:=10) (N:=some 38) (v:=?_) (a':=?_) B11_ rfl rfl (any_of HT_.out (by kernel_rfl)) (fun _ _ _ h=>h) (Or.inl ⟨(by rfl),?_⟩) ?_ ?_
           rotate_left
           ·intro w'
            go_simp
            with_reducible rfl
           rotate_left
           ·simp only [Act.put,e0_,e1_,e2_,i64_w,i32_w]
            rfl
           refine pure_ (i:=11) (N:=some 39) (v:=?_) (a':=?_) B12_ rfl rfl (any_of HT_.out (by kernel_rfl)) (fun _ _ _ h=>h) (Or.inl ⟨(by rfl),?_⟩) ?_ ?_
           rotate_left
           ·intro w'
            go_simp
            with_reducible rfl
           rotate_left
           ·simp only [Act.put,e0_,e1_,e2_,i64_w,i32_w]
            rfl
           refine pure_ (i:=12) (N:=some 40) (v:=?_) (a':=?_) B13_ rfl rfl (any_of HT_.out (by kernel_rfl)) (fun _ _ _ h=>h) (Or.inl ⟨(by rfl),?_⟩) ?_ ?_
           rotate_left
           ·intro w'
            go_simp
            with_reducible rfl
           rotate_left
           ·simp only [Act.put,e0_,e1_,e2_,i64_w,i32_w]
            rfl
           refine pure_ (i:=13) (N:=some 41) (v:=?_) (a':=?_) B14_ rfl rfl (any_of HT_.out (by kernel_rfl)) (fun _ _ _ h=>h) (Or.inl ⟨(by rfl),?_⟩) ?_ ?_
           rotate_left
           ·intro w'
            go_simp
            with_reducible rfl
           rotate_left
           ·simp only [Act.put,e0_,e1_,e2_,i64_w,i32_w]
            rfl
           refine pure_ (i:=15) (N:=some 43) (v:=?_) (a':=?_) B15_ rfl rfl (any_of HT_.out (by kernel_rfl)) (fun _ _ _ h=>h) (Or.inl ⟨(by rfl),?_⟩) ?_ ?_
           rotate_left
           ·intro w'
            go_simp
            with_reducible rfl
           rotate_left
           ·simp only [Act.put,e0_,e1_,e2_,i64_w,i32_w]
            rfl
           refine take_ (i:=14) (N:=some 42) (v:=?_) (a':=?_) B16_ rfl rfl (take_ofW HT_.out HW_.out (by kernel_rfl)) (fun _ _ _ h=>h) (Or.inl ⟨(by rfl),?_⟩) hHeld ?_ ?_
           rotate_left
           ·rintro w' ⟨s0,s1,s2,s3,s4,s5,s6,s7,s8,s9,s10,s11⟩
            go_simp
            with_reducible rfl
           rotate_left
           ·simp only [Act.put,e0_,e1_,e2_,i64_w,i32_w]
            rfl
           refine take_ (i:=16) (N:=some 44) (v:=?_) (a':=?_) B17_ rfl rfl (take_ofW HT_.out HW_.out (by kernel_rfl)) (fun _ _ _ h=>h) (Or.inl ⟨(by rfl),?_⟩) hHeld ?_ ?_
           rotate_left
           ·rintro w' ⟨s0,s1,s2,s3,s4,s5,s6,s7,s8,s9,s10,s11⟩
            go_simp
            with_reducible rfl
           rotate_left
           ·simp only [Act.put,e0_,e1_,e2_,i64_w,i32_w]
            rfl
           refine pure_ (i:=17) (N:=some 45) (v:=?_) (a':=?_) B18_ rfl rfl (any_of HT_.out (by kernel_rfl)) (fun _ _ _ h=>h) (Or.inl ⟨(by rfl),?_⟩) ?_ ?_
           rotate_left
           ·intro w'
            go_simp
            with_reducible rfl
           rotate_left
           ·simp only [Act.put,e0_,e1_,e2_,i64_w,i32_w]
            rfl
           refine pure_ (i:=18) (N:=some 46) (v:=?_) (a':=?_) B19_ rfl rfl (any_of HT_.out (by kernel_rfl)) (fun _ _ _ h=>h) (Or.inl ⟨(by rfl),?_⟩) ?_ ?_
           rotate_left
           ·intro w'
            go_simp
            with_reducible rfl
           rotate_left
           ·simp only [Act.put,e0_,e1_,e2_,i64_w,i32_w]
            rfl
           refine pure_ (i:=19) (N:=some 47) (v:=?_) (a':=?_) B20_ rfl rfl (any_of HT_.out (by kernel_rfl)) (fun _ _ _ h=>h) (Or.inl ⟨(by rfl),?_⟩) ?_ ?_
           rotate_left
           ·intro w'
            go_simp
            with_reducible rfl
           rotate_left
           ·simp only [Act.put,e0_,e1_,e2_,i64_w,i32_w]
            rfl
           refine take_ (i:=20) (N:=some 48) (v:=?_) (a':=?_) B21_ rfl rfl (take_ofW HT_.out HW_.out (by kernel_rfl)) (fun _ _ _ h=>h) (Or.inl ⟨(by rfl),?_⟩) hHeld ?_ ?_
           rotate_left
           ·rintro w' ⟨s0,s1,s2,s3,s4,s5,s6,s7,s8,s9,s10,s11⟩
            go_simp
            with_reducible rfl
           rotate_left
           ·simp only [Act.put,e0_,e1_,e2_,i64_w,i32_w]
            rfl
           refine take_ (i:=22) (N:=some 50) (v:=?_) (a':=?_) B41_ rfl rfl (take_ofW HT_.out HW_.out (by kernel_rfl)) (fun _ _ _ h=>h) (Or.inl ⟨(by rfl),?_⟩) hHeld ?_ ?_
           rotate_left
           ·rintro w' ⟨s0,s1,s2,s3,s4,s5,s6,s7,s8,s9,s10,s11⟩
            go_simp
            with_reducible rfl
           rotate_left
           ·simp only [Act.put,e0_,e1_,e2_,i64_w,i32_w]
            rfl
           refine one_ (i:=21) (N:=some 49) B23_ rfl rfl (one_of HT_.out (by kernel_rfl)) (by decide) (fun K hK=>?_)
           refine goes_ Tryd.func32 (by kernel_rfl) rfl #[.agg #[.bool a0_0,.string a0_1,.int .i64 a0_2]] (by rfl) rfl rfl q2_ ?_
           with_reducible refine (dec_Dec_Zero.calls a0_0 a0_1 a0_2 t113 _ A40.out).mono ?_
           rintro e w54 ⟨rfl,hb⟩
           refine ⟨_,rfl,?_⟩
           replace BK101:=Aside0.mk (blk_below (g:=gb101) (o:=.cells #[.bool a0_0,.string a0_1,.int .i64 a0_2] 23 (0,0)) q1_ hb)
           replace BK104:=Aside0.mk (blk_below (g:=gb104) (o:=.cells #[.bool (!a0_0),.string a0_1,.int .i64 a0_2] 23 (0,0)) q3_ hb)
           replace BK108:=Aside0.mk (blk_below (g:=gb108) (o:=.cells #[.bool t105,.string t106,.int .i64 t107] 23 (0,0)) q4_ hb)
           replace BK112:=Aside0.mk (blk_below (g:=gb112) (o:=.cells #[.bool t109,.string t110,.int .i64 t111] 23 (0,0)) q5_ hb)
           replace HB:=Aside0.mk (below_step q0_ hb)
           (try clear hb)
           (try clear hb2)
           (try clear hk)
           (try clear hi)
           refine hK.out _ _ ⟨(blk_cell BK108.out 0).trans rfl,(blk_cell BK108.out 1).trans rfl,(blk_cell BK108.out 2).trans rfl,(blk_cell BK112.out 0).trans rfl,(blk_cell BK112.out 1).trans rfl,(blk_cell BK112.out 2).trans rfl,(blk_cell BK101.out 0).trans rfl,(blk_cell BK101.out 1).trans rfl,(blk_cell BK101.out 2).trans rfl,(blk_cell BK104.out 0).trans rfl,(blk_cell BK104.out 1).trans rfl,(blk_cell BK104.out 2).trans rfl⟩ (fun hHeld=>?_)
           clear hK K
           refine norm_ (a':=?_) ?_ ?_
           rotate_left
           ·show Act.put _ (some 49) _ = _
            simp only [Act.put,e0_,e1_,e2_,i64_w,i32_w]
            rfl
           refine one_ (i:=23) (N:=some 51) B24_ rfl rfl (one_of HT_.out (by kernel_rfl)) (by decide) (fun K hK=>?_)
           refine goes_ Tryd.func32 (by kernel_rfl) rfl #[.agg #[.bool (!a0_0),.string a0_1,.int .i64 a0_2]] (by rfl) rfl rfl q2_ ?_
           with_reducible refine (dec_Dec_Zero.calls (!a0_0) a0_1 a0_2 t114 _ A41.out).mono ?_
           rintro e w55 ⟨rfl,hb⟩
           refine ⟨_,rfl,?_⟩
           replace BK101:=Aside0.mk (blk_below (g:=gb101) (o:=.cells #[.bool a0_0,.string a0_1,.int .i64 a0_2] 23 (0,0)) q1_ hb)
           replace BK104:=Aside0.mk (blk_below (g:=gb104) (o:=.cells #[.bool (!a0_0),.string a0_1,.int .i64 a0_2] 23 (0,0)) q3_ hb)
           replace BK108:=Aside0.mk (blk_below (g:=gb108) (o:=.cells #[.bool t105,.string t106,.int .i64 t107] 23 (0,0)) q4_ hb)
           replace BK112:=Aside0.mk (blk_below (g:=gb112) (o:=.cells #[.bool t109,.string t110,.int .i64 t111] 23 (0,0)) q5_ hb)
           replace HB:=Aside0.mk (below_step q0_ hb)
           (try clear hb)
           (try clear hb2)
           (try clear hk)
           (try clear hi)
           refine hK.out _ _ ⟨(blk_cell BK108.out 0).trans rfl,(blk_cell BK108.out 1).trans rfl,(blk_cell BK108.out 2).trans rfl,(blk_cell BK112.out 0).trans rfl,(blk_cell BK112.out 1).trans rfl,(blk_cell BK112.out 2).trans rfl,(blk_cell BK101.out 0).trans rfl,(blk_cell BK101.out 1).trans rfl,(blk_cell BK101.out 2).trans rfl,(blk_cell BK104.out 0).trans rfl,(blk_cell BK104.out 1).trans rfl,(blk_cell BK104.out 2).trans rfl⟩ (fun hHeld=>?_)
           clear hK K
           refine norm_ (a':=?_) ?_ ?_
           rotate_left
           ·show Act.put _ (some 51) _ = _
            simp only [Act.put,e0_,e1_,e2_,i64_w,i32_w]
            rfl
           refine pure_ (i:=24) (N:=some 52) (v:=?_) (a':=?_) B25_ rfl rfl (any_of HT_.out (by kernel_rfl)) (fun _ _ _ h=>h) (Or.inl ⟨(by rfl),?_⟩) ?_ ?_
           rotate_left
           ·intro w'
            go_simp
            with_reducible rfl
           rotate_left
           ·simp only [Act.put,e0_,e1_,e2_,i64_w,i32_w]
            rfl
           refine pure_ (i:=25) (N:=some 53) (v:=?_) (a':=?_) B26_ rfl rfl (any_of HT_.out (by kernel_rfl)) (fun _ _ _ h=>h) (Or.inl ⟨(by rfl),?_⟩) ?_ ?_
           rotate_left
           ·intro w'
            go_simp
            with_reducible rfl
           rotate_left
           ·simp only [Act.put,e0_,e1_,e2_,i64_w,i32_w]
            rfl
           refine pure_ (i:=26) (N:=some 54) (v:=?_) (a':=?_) B27_ rfl rfl (any_of HT_.out (by kernel_rfl)) (fun _ _ _ h=>h) (Or.inl ⟨(by rfl),?_⟩) ?_ ?_
           rotate_left
           ·intro w'
            go_simp
            with_reducible rfl
           rotate_left
           ·simp only [Act.put,e0_,e1_,e2_,i64_w,i32_w]
            rfl
           refine take_ (i:=27) (N:=some 55) (v:=?_) (a':=?_) B28_ rfl rfl (take_ofW HT_.out HW_.out (by kernel_rfl)) (fun _ _ _ h=>h) (Or.inl ⟨(by rfl),?_⟩) hHeld ?_ ?_
           rotate_left
           ·rintro w' ⟨s0,s1,s2,s3,s4,s5,s6,s7,s8,s9,s10,s11⟩
            go_simp
            with_reducible rfl
           rotate_left
           ·simp only [Act.put,e0_,e1_,e2_,i64_w,i32_w]
            rfl
           refine take_ (i:=29) (N:=some 57) (v:=?_) (a':=?_) B42_ rfl rfl (take_ofW HT_.out HW_.out (by kernel_rfl)) (fun _ _ _ h=>h) (Or.inl ⟨(by rfl),?_⟩) hHeld ?_ ?_
           rotate_left
           ·rintro w' ⟨s0,s1,s2,s3,s4,s5,s6,s7,s8,s9,s10,s11⟩
            go_simp
            with_reducible rfl
           rotate_left
           ·simp only [Act.put,e0_,e1_,e2_,i64_w,i32_w]
            rfl
           refine one_ (i:=28) (N:=some 56) B30_ rfl rfl (one_of HT_.out (by kernel_rfl)) (by decide) (fun K hK=>?_)
           refine goes_ Tryd.func30 (by kernel_rfl) rfl #[.agg #[.bool a0_0,.string a0_1,.int .i64 a0_2]] (by rfl) rfl rfl q2_ ?_
           with_reducible refine (dec_Dec_Whole.calls a0_0 a0_1 a0_2 t115 _ A47.out).mono ?_
           rintro e w56 ⟨rfl,hb⟩
           refine ⟨_,rfl,?_⟩
           replace BK101:=Aside0.mk (blk_below (g:=gb101) (o:=.cells #[.bool a0_0,.string a0_1,.int .i64 a0_2] 23 (0,0)) q1_ hb)
           replace BK104:=Aside0.mk (blk_below (g:=gb104) (o:=.cells #[.bool (!a0_0),.string a0_1,.int .i64 a0_2] 23 (0,0)) q3_ hb)
           replace BK108:=Aside0.mk (blk_below (g:=gb108) (o:=.cells #[.bool t105,.string t106,.int .i64 t107] 23 (0,0)) q4_ hb)
           replace BK112:=Aside0.mk (blk_below (g:=gb112) (o:=.cells #[.bool t109,.string t110,.int .i64 t111] 23 (0,0)) q5_ hb)
           replace HB:=Aside0.mk (below_step q0_ hb)
           (try clear hb)
           (try clear hb2)
           (try clear hk)
           (try clear hi)
           refine hK.out _ _ ⟨(blk_cell BK108.out 0).trans rfl,(blk_cell BK108.out 1).trans rfl,(blk_cell BK108.out 2).trans rfl,(blk_cell BK112.out 0).trans rfl,(blk_cell BK112.out 1).trans rfl,(blk_cell BK112.out 2).trans rfl,(blk_cell BK101.out 0).trans rfl,(blk_cell BK101.out 1).trans rfl,(blk_cell BK101.out 2).trans rfl,(blk_cell BK104.out 0).trans rfl,(blk_cell BK104.out 1).trans rfl,(blk_cell BK104.out 2).trans rfl⟩ (fun hHeld=>?_)
           clear hK K
           refine norm_ (a':=?_) ?_ ?_
           rotate_left
           ·show Act.put _ (some 56) _ = _
            simp only [Act.put,e0_,e1_,e2_,i64_w,i32_w]
            rfl
           refine one_ (i:=30) (N:=some 58) B31_ rfl rfl (one_of HT_.out (by kernel_rfl)) (by decide) (fun K hK=>?_)
           refine goes_ Tryd.func30 (by kernel_rfl) rfl #[.agg #[.bool (!a0_0),.string a0_1,.int .i64 a0_2]] (by rfl) rfl rfl q2_ ?_
           with_reducible refine (dec_Dec_Whole.calls (!a0_0) a0_1 a0_2 t116 _ A48.out).mono ?_
           rintro e w57 ⟨rfl,hb⟩
           refine ⟨_,rfl,?_⟩
           replace BK101:=Aside0.mk (blk_below (g:=gb101) (o:=.cells #[.bool a0_0,.string a0_1,.int .i64 a0_2] 23 (0,0)) q1_ hb)
           replace BK104:=Aside0.mk (blk_below (g:=gb104) (o:=.cells #[.bool (!a0_0),.string a0_1,.int .i64 a0_2] 23 (0,0)) q3_ hb)
           replace BK108:=Aside0.mk (blk_below (g:=gb108) (o:=.cells #[.bool t105,.string t106,.int .i64 t107] 23 (0,0)) q4_ hb)
           replace BK112:=Aside0.mk (blk_below (g:=gb112) (o:=.cells #[.bool t109,.string t110,.int .i64 t111] 23 (0,0)) q5_ hb)
           replace HB:=Aside0.mk (below_step q0_ hb)
           (try clear hb)
           (try clear hb2)
           (try clear hk)
           (try clear hi)
           refine hK.out _ _ ⟨(blk_cell BK108.out 0).trans rfl,(blk_cell BK108.out 1).trans rfl,(blk_cell BK108.out 2).trans rfl,(blk_cell BK112.out 0).trans rfl,(blk_cell BK112.out 1).trans rfl,(blk_cell BK112.out 2).trans rfl,(blk_cell BK101.out 0).trans rfl,(blk_cell BK101.out 1).trans rfl,(blk_cell BK101.out 2).trans rfl,(blk_cell BK104.out 0).trans rfl,(blk_cell BK104.out 1).trans rfl,(blk_cell BK104.out 2).trans rfl⟩ (fun hHeld=>?_)
           clear hK K
           refine norm_ (a':=?_) ?_ ?_
           rotate_left
           ·show Act.put _ (some 58) _ = _
            simp only [Act.put,e0_,e1_,e2_,i64_w,i32_w]
            rfl
           refine pure_ (i:=31) (N:=some 59) (v:=?_) (a':=?_) B32_ rfl rfl (any_of HT_.out (by kernel_rfl)) (fun _ _ _ h=>h) (Or.inl ⟨(by rfl),?_⟩) ?_ ?_
           rotate_left
           ·intro w'
            go_simp
            with_reducible rfl
           rotate_left
           ·simp only [Act.put,e0_,e1_,e2_,i64_w,i32_w]
            rfl
           refine pure_ (i:=32) (N:=some 60) (v:=?_) (a':=?_) B33_ rfl rfl (any_of HT_.out (by kernel_rfl)) (fun _ _ _ h=>h) (Or.inl ⟨(by rfl),?_⟩) ?_ ?_
           rotate_left
           ·intro w'
            go_simp
            with_reducible rfl
           rotate_left
           ·simp only [Act.put,e0_,e1_,e2_,i64_w,i32_w]
            rfl
           refine pure_ (i:=33) (N:=some 61) (v:=?_) (a':=?_) B34_ rfl rfl (any_of HT_.out (by kernel_rfl)) (fun _ _ _ h=>h) (Or.inl ⟨(by rfl),?_⟩) ?_ ?_
           rotate_left
           ·intro w'
            go_simp
            with_reducible rfl
           rotate_left
           ·simp only [Act.put,e0_,e1_,e2_,i64_w,i32_w]
            rfl
           refine take_ (i:=34) (N:=some 62) (v:=?_) (a':=?_) B35_ rfl rfl (take_ofW HT_.out HW_.out (by kernel_rfl)) (fun _ _ _ h=>h) (Or.inl ⟨(by rfl),?_⟩) hHeld ?_ ?_
           rotate_left
           ·rintro w' ⟨s0,s1,s2,s3,s4,s5,s6,s7,s8,s9,s10,s11⟩
            go_simp
            with_reducible rfl
           rotate_left
           ·simp only [Act.put,e0_,e1_,e2_,i64_w,i32_w]
            rfl
           refine take_ (i:=36) (N:=some 64) (v:=?_) (a':=?_) #[true,true,true,true,true,true,true,true,true,true,true,true,true,true,true,true,true,true,true,true,true,true,true,true,true,true,true,true,true,true,true,true,true,true,true,false,true,false,false,false] rfl rfl (take_ofW HT_.out HW_.out (by kernel_rfl)) (fun _ _ _ h=>h) (Or.inl ⟨(by rfl),?_⟩) hHeld ?_ ?_
           rotate_left
           ·rintro w' ⟨s0,s1,s2,s3,s4,s5,s6,s7,s8,s9,s10,s11⟩
            go_simp
            with_reducible rfl
           rotate_left
           ·simp only [Act.put,e0_,e1_,e2_,i64_w,i32_w]
            rfl
           refine one_ (i:=35) (N:=some 63) B37_ rfl rfl (one_of HT_.out (by kernel_rfl)) (by decide) (fun K hK=>?_)
           refine goes_ Tryd.func31 (by kernel_rfl) rfl #[.agg #[.bool a0_0,.string a0_1,.int .i64 a0_2]] (by rfl) rfl rfl q2_ ?_
           with_reducible refine (dec_Dec_Part.calls a0_0 a0_1 a0_2 t117 _ A50.out).mono ?_
           rintro e w58 ⟨rfl,hb⟩
           refine ⟨_,rfl,?_⟩
           replace BK101:=Aside0.mk (blk_below (g:=gb101) (o:=.cells #[.bool a0_0,.string a0_1,.int .i64 a0_2] 23 (0,0)) q1_ hb)
           replace BK104:=Aside0.mk (blk_below (g:=gb104) (o:=.cells #[.bool (!a0_0),.string a0_1,.int .i64 a0_2] 23 (0,0)) q3_ hb)
           replace BK108:=Aside0.mk (blk_below (g:=gb108) (o:=.cells #[.bool t105,.string t106,.int .i64 t107] 23 (0,0)) q4_ hb)
           replace BK112:=Aside0.mk (blk_below (g:=gb112) (o:=.cells #[.bool t109,.string t110,.int .i64 t111] 23 (0,0)) q5_ hb)
           replace HB:=Aside0.mk (below_step q0_ hb)
           (try clear hb)
           (try clear hb2)
           (try clear hk)
           (try clear hi)
           refine hK.out _ _ ⟨(blk_cell BK108.out 0).trans rfl,(blk_cell BK108.out 1).trans rfl,(blk_cell BK108.out 2).trans rfl,(blk_cell BK112.out 0).trans rfl,(blk_cell BK112.out 1).trans rfl,(blk_cell BK112.out 2).trans rfl,(blk_cell BK101.out 0).trans rfl,(blk_cell BK101.out 1).trans rfl,(blk_cell BK101.out 2).trans rfl,(blk_cell BK104.out 0).trans rfl,(blk_cell BK104.out 1).trans rfl,(blk_cell BK104.out 2).trans rfl⟩ (fun hHeld=>?_)
           clear hK K
           refine norm_ (a':=?_) ?_ ?_
           rotate_left
           ·show Act.put _ (some 63) _ = _
            simp only [Act.put,e0_,e1_,e2_,i64_w,i32_w]
            rfl
           refine one_ (i:=37) (N:=some 65) B38_ rfl rfl (one_of HT_.out (by kernel_rfl)) (by decide) (fun K hK=>?_)
           refine goes_ Tryd.func31 (by kernel_rfl) rfl #[.agg #[.bool (!a0_0),.string a0_1,.int .i64 a0_2]] (by rfl) rfl rfl q2_ ?_
           with_reducible refine (dec_Dec_Part.calls (!a0_0) a0_1 a0_2 t118 _ A51.out).mono ?_
           rintro e w59 ⟨rfl,hb⟩
           refine ⟨_,rfl,?_⟩
           replace BK101:=Aside0.mk (blk_below (g:=gb101) (o:=.cells #[.bool a0_0,.string a0_1,.int .i64 a0_2] 23 (0,0)) q1_ hb)
           replace BK104:=Aside0.mk (blk_below (g:=gb104) (o:=.cells #[.bool (!a0_0),.string a0_1,.int .i64 a0_2] 23 (0,0)) q3_ hb)
           replace BK108:=Aside0.mk (blk_below (g:=gb108) (o:=.cells #[.bool t105,.string t106,.int .i64 t107] 23 (0,0)) q4_ hb)
           replace BK112:=Aside0.mk (blk_below (g:=gb112) (o:=.cells #[.bool t109,.string t110,.int .i64 t111] 23 (0,0)) q5_ hb)
           replace HB:=Aside0.mk (below_step q0_ hb)
           (try clear hb)
           (try clear hb2)
           (try clear hk)
           (try clear hi)
           refine hK.out _ _ ⟨(blk_cell BK108.out 0).trans rfl,(blk_cell BK108.out 1).trans rfl,(blk_cell BK108.out 2).trans rfl,(blk_cell BK112.out 0).trans rfl,(blk_cell BK112.out 1).trans rfl,(blk_cell BK112.out 2).trans rfl,(blk_cell BK101.out 0).trans rfl,(blk_cell BK101.out 1).trans rfl,(blk_cell BK101.out 2).trans rfl,(blk_cell BK104.out 0).trans rfl,(blk_cell BK104.out 1).trans rfl,(blk_cell BK104.out 2).trans rfl⟩ (fun hHeld=>?_)
           clear hK K
           refine norm_ (a':=?_) ?_ ?_
           rotate_left
           ·show Act.put _ (some 65) _ = _
            simp only [Act.put,e0_,e1_,e2_,i64_w,i32_w]
            rfl
           refine pure_ (i:=38) (N:=some 66) (v:=?_) (a':=?_) B39_ rfl rfl (any_of HT_.out (by kernel_rfl)) (fun _ _ _ h=>h) (Or.inl ⟨(by rfl),?_⟩) ?_ ?_
           rotate_left
           ·intro w'
            go_simp
            with_reducible rfl
           rotate_left
           ·simp only [Act.put,e0_,e1_,e2_,i64_w,i32_w]
            rfl
           refine pure_ (i:=39) (N:=some 67) (v:=?_) (a':=?_) B40_ rfl rfl (any_of HT_.out (by kernel_rfl)) (fun _ _ _ h=>h) (Or.inl ⟨(by rfl),?_⟩) ?_ ?_
           rotate_left
           ·intro w'
            go_simp
            with_reducible rfl
           rotate_left
           ·simp only [Act.put,e0_,e1_,e2_,i64_w,i32_w]
            rfl
           refine done_ (done_of HT_.out (by kernel_rfl)) ?_
           try go_wp2
           go_meet
           case rel=>exact ⟨_,((t117.toList != t118.toList)),q15_,H',⟨q16_⟩,⟨q1_⟩,⟨q3_⟩,⟨q4_⟩,⟨q5_⟩,⟨q0_⟩⟩
          ·rw [if_neg c49] at H
           have c49b0 : (t115.toList == t116.toList) = false:=beq_eq_false_iff_ne.mpr c49
           have c49b1 : (t115.toList != t116.toList) = true:=bne_iff_ne.mpr c49
           have H':=Aside0.mk H
           clear H
           try go_wp2
           have n0_ : Aside0 ((((w30.setCell ⟨gb112,0,none⟩ (.bool t109)).setCell ⟨gb112,1,none⟩ (.string t110)).setCell ⟨gb112,2,none⟩ (.int .i64 t111)).heap[gb101]? = some (.cells #[.bool a0_0,.string a0_1,.int .i64 a0_2] 23 (0,0))):=⟨q7_⟩
           have n1_ : Aside0 ((((w30.setCell ⟨gb112,0,none⟩ (.bool t109)).setCell ⟨gb112,1,none⟩ (.string t110)).setCell ⟨gb112,2,none⟩ (.int .i64 t111)).heap[gb104]? = some (.cells #[.bool (!a0_0),.string a0_1,.int .i64 a0_2] 23 (0,0))):=⟨q8_⟩
           have n2_ : Aside0 ((((w30.setCell ⟨gb112,0,none⟩ (.bool t109)).setCell ⟨gb112,1,none⟩ (.string t110)).setCell ⟨gb112,2,none⟩ (.int .i64 t111)).heap[gb108]? = some (.cells #[.bool t105,.string t106,.int .i64 t107] 23 (0,0))):=⟨q9_⟩
           have n3_ : Aside0 ((((w30.setCell ⟨gb112,0,none⟩ (.bool t109)).setCell ⟨gb112,1,none⟩ (.string t110)).setCell ⟨gb112,2,none⟩ (.int .i64 t111)).heap[gb112]? = some (.cells #[.bool t109,.string t110,.int .i64 t111] 23 (0,0))):=⟨q6_⟩
           have n4_ : Aside0 (Below w.heap.size w (((w30.setCell ⟨gb112,0,none⟩ (.bool t109)).setCell ⟨gb112,1,none⟩ (.string t110)).setCell ⟨gb112,2,none⟩ (.int .i64 t111))):=⟨q0_⟩
           (try clear BK101)
           (try clear BK104)
           (try clear BK108)
           (try clear BK112)
           (try clear HB)
           generalize (((w30.setCell ⟨gb112,0,none⟩ (.bool t109)).setCell ⟨gb112,1,none⟩ (.string t110)).setCell ⟨gb112,2,none⟩ (.int .i64 t111)) = w60 at n0_ n1_ n2_ n3_ n4_ ⊢
           have BK101:=n0_
           have BK104:=n1_
           have BK108:=n2_
           have BK112:=n3_
           have HB:=n4_
           clear n0_ n1_ n2_ n3_ n4_
           replace BK101:=Aside0.mk (blk_drew BK101.out)
           replace BK104:=Aside0.mk (blk_drew BK104.out)
           replace BK108:=Aside0.mk (blk_drew BK108.out)
           replace BK112:=Aside0.mk (blk_drew BK112.out)
           replace HB:=Aside0.mk (below_drew1 HB.out)
           refine start_ (n:=40) (S:=fun w'=>w'.cell? ⟨gb108,0,none⟩ = some (.bool t105) ∧ w'.cell? ⟨gb108,1,none⟩ = some (.string t106) ∧ w'.cell? ⟨gb108,2,none⟩ = some (.int .i64 t107) ∧ w'.cell? ⟨gb112,0,none⟩ = some (.bool t109) ∧ w'.cell? ⟨gb112,1,none⟩ = some (.string t110) ∧ w'.cell? ⟨gb112,2,none⟩ = some (.int .i64 t111) ∧ w'.cell? ⟨gb101,0,none⟩ = some (.bool a0_0) ∧ w'.cell? ⟨gb101,1,none⟩ = some (.string a0_1) ∧ w'.cell? ⟨gb101,2,none⟩ = some (.int .i64 a0_2) ∧ w'.cell? ⟨gb104,0,none⟩ = some (.bool (!a0_0)) ∧ w'.cell? ⟨gb104,1,none⟩ = some (.string a0_1) ∧ w'.cell? ⟨gb104,2,none⟩ = some (.int .i64 a0_2)) (ds:=[]) B0_ (by kernel_rfl) rfl rfl ⟨(blk_cell BK108.out 0).trans rfl,(blk_cell BK108.out 1).trans rfl,(blk_cell BK108.out 2).trans rfl,(blk_cell BK112.out 0).trans rfl,(blk_cell BK112.out 1).trans rfl,(blk_cell BK112.out 2).trans rfl,(blk_cell BK101.out 0).trans rfl,(blk_cell BK101.out 1).trans rfl,(blk_cell BK101.out 2).trans rfl,(blk_cell BK104.out 0).trans rfl,(blk_cell BK104.out 1).trans rfl,(blk_cell BK104.out 2).trans rfl⟩ (fun hHeld=>?_);refine with_tabW polyglotlaw02_DecSigns.tab9 polyglotlaw02_DecSigns.bits9 (fun HT_ HW_=>?_)
           generalize w60.drew = w61 at BK101 BK104 BK108 BK112 HB hHeld ⊢
           refine pure_ (i:=0) (N:=some 28) (v:=?_) (a':=?_) B1_ rfl rfl (any_of HT_.out (by kernel_rfl)) (fun _ _ _ h=>h) (Or.inl ⟨(by rfl),?_⟩) ?_ ?_
           rotate_left
           ·intro w'
            go_simp
            with_reducible rfl
           rotate_left
           ·simp only [Act.put,e0_,e1_,e2_,i64_w,i32_w]
            rfl
           refine pure_ (i:=2) (N:=some 30) (v:=?_) (a':=?_) B2_ rfl rfl (any_of HT_.out (by kernel_rfl)) (fun _ _ _ h=>h) (Or.inl ⟨(by rfl),?_⟩) ?_ ?_
           rotate_left
           ·intro w'
            go_simp
            with_reducible rfl
           rotate_left
           ·simp only [Act.put,e0_,e1_,e2_,i64_w,i32_w]
            rfl
           refine take_ (i:=1) (N:=some 29) (v:=?_) (a':=?_) B3_ rfl rfl (take_ofW HT_.out HW_.out (by kernel_rfl)) (fun _ _ _ h=>h) (Or.inl ⟨(by rfl),?_⟩) hHeld ?_ ?_
           rotate_left
           ·rintro w' ⟨s0,s1,s2,s3,s4,s5,s6,s7,s8,s9,s10,s11⟩
            go_simp
            with_reducible rfl
           rotate_left
           ·simp only [Act.put,e0_,e1_,e2_,i64_w,i32_w]
            rfl
           refine take_ (i:=3) (N:=some 31) (v:=?_) (a':=?_) B4_ rfl rfl (take_ofW HT_.out HW_.out (by kernel_rfl)) (fun _ _ _ h=>h) (Or.inl ⟨(by rfl),?_⟩) hHeld ?_ ?_
           rotate_left
           ·rintro w' ⟨s0,s1,s2,s3,s4,s5,s6,s7,s8,s9,s10,s11⟩
            go_simp
            with_reducible rfl
           rotate_left
           ·simp only [Act.put,e0_,e1_,e2_,i64_w,i32_w]
            rfl
           refine pure_ (i:=4) (N:=some 32) (v:=?_) (a':=?_) B5_ rfl rfl (any_of HT_.out (by kernel_rfl)) (fun _ _ _ h=>h) (Or.inl ⟨(by rfl),?_⟩) ?_ ?_
           rotate_left
           ·intro w'
            go_simp
            with_reducible rfl
           rotate_left
           ·simp only [Act.put,e0_,e1_,e2_,i64_w,i32_w]
            rfl
           refine pure_ (i:=5) (N:=some 33) (v:=?_) (a':=?_) B6_ rfl rfl (any_of HT_.out (by kernel_rfl)) (fun _ _ _ h=>h) (Or.inl ⟨(by rfl),?_⟩) ?_ ?_
           rotate_left
           ·intro w'
            go_simp
            with_reducible rfl
           rotate_left
           ·simp only [Act.put,e0_,e1_,e2_,i64_w,i32_w]
            rfl
           refine pure_ (i:=6) (N:=some 34) (v:=?_) (a':=?_) B7_ rfl rfl (any_of HT_.out (by kernel_rfl)) (fun _ _ _ h=>h) (Or.inl ⟨(by rfl),?_⟩) ?_ ?_
           rotate_left
           ·intro w'
            go_simp
            with_reducible rfl
           rotate_left
           ·simp only [Act.put,e0_,e1_,e2_,i64_w,i32_w]
            rfl
           refine pure_ (i:=8) (N:=some 36) (v:=?_) (a':=?_) B8_ rfl rfl (any_of HT_.out (by kernel_rfl)) (fun _ _ _ h=>h) (Or.inl ⟨(by rfl),?_⟩) ?_ ?_
           rotate_left
           ·intro w'
            go_simp
            with_reducible rfl
           rotate_left
           ·simp only [Act.put,e0_,e1_,e2_,i64_w,i32_w]
            rfl
           refine take_ (i:=7) (N:=some 35) (v:=?_) (a':=?_) B9_ rfl rfl (take_ofW HT_.out HW_.out (by kernel_rfl)) (fun _ _ _ h=>h) (Or.inl ⟨(by rfl),?_⟩) hHeld ?_ ?_
           rotate_left
           ·rintro w' ⟨s0,s1,s2,s3,s4,s5,s6,s7,s8,s9,s10,s11⟩
            go_simp
            with_reducible rfl
           rotate_left
           ·simp only [Act.put,e0_,e1_,e2_,i64_w,i32_w]
            rfl
           refine take_ (i:=9) (N:=some 37) (v:=?_) (a':=?_) B10_ rfl rfl (take_ofW HT_.out HW_.out (by kernel_rfl)) (fun _ _ _ h=>h) (Or.inl ⟨(by rfl),?_⟩) hHeld ?_ ?_
           rotate_left
           ·rintro w' ⟨s0,s1,s2,s3,s4,s5,s6,s7,s8,s9,s10,s11⟩
            go_simp
            with_reducible rfl
           rotate_left
           ·simp only [Act.put,e0_,e1_,e2_,i64_w,i32_w]
            rfl
           refine pure_ (i:=10) (N:=some 38) (v:=?_) (a':=?_) B11_ rfl rfl (any_of HT_.out (by kernel_rfl)) (fun _ _ _ h=>h) (Or.inl ⟨(by rfl),?_⟩) ?_ ?_
           rotate_left
           ·intro w'
            go_simp
            with_reducible rfl
           rotate_left
           ·simp only [Act.put,e0_,e1_,e2_,i64_w,i32_w]
            rfl
           refine pure_ (i:=11) (N:=some 39) (v:=?_) (a':=?_) B12_ rfl rfl (any_of HT_.out (by kernel_rfl)) (fun _ _ _ h=>h) (Or.inl ⟨(by rfl),?_⟩) ?_ ?_
           rotate_left
           ·intro w'
            go_simp
            with_reducible rfl
           rotate_left
           ·simp only [Act.put,e0_,e1_,e2_,i64_w,i32_w]
            rfl
           refine pure_ (i:=12) (N:=some 40) (v:=?_) (a':=?_) B13_ rfl rfl (any_of HT_.out (by kernel_rfl)) (fun _ _ _ h=>h) (Or.inl ⟨(by rfl),?_⟩) ?_ ?_
           rotate_left
           ·intro w'
            go_simp
            with_reducible rfl
           rotate_left
           ·simp only [Act.put,e0_,e1_,e2_,i64_w,i32_w]
            rfl
           refine pure_ (i:=13) (N:=some 41) (v:=?_) (a':=?_) B14_ rfl rfl (any_of HT_.out (by kernel_rfl)) (fun _ _ _ h=>h) (Or.inl ⟨(by rfl),?_⟩) ?_ ?_
           rotate_left
           ·intro w'
            go_simp
            with_reducible rfl
           rotate_left
           ·simp only [Act.put,e0_,e1_,e2_,i64_w,i32_w]
            rfl
           refine pure_ (i:=15) (N:=some 43) (v:=?_) (a':=?_) B15_ rfl rfl (any_of HT_.out (by kernel_rfl)) (fun _ _ _ h=>h) (Or.inl ⟨(by rfl),?_⟩) ?_ ?_
           rotate_left
           ·intro w'
            go_simp
            with_reducible rfl
           rotate_left
           ·simp only [Act.put,e0_,e1_,e2_,i64_w,i32_w]
            rfl
           refine take_ (i:=14) (N:=some 42) (v:=?_) (a':=?_) B16_ rfl rfl (take_ofW HT_.out HW_.out (by kernel_rfl)) (fun _ _ _ h=>h) (Or.inl ⟨(by rfl),?_⟩) hHeld ?_ ?_
           rotate_left
           ·rintro w' ⟨s0,s1,s2,s3,s4,s5,s6,s7,s8,s9,s10,s11⟩
            go_simp
            with_reducible rfl
           rotate_left
           ·simp only [Act.put,e0_,e1_,e2_,i64_w,i32_w]
            rfl
           refine take_ (i:=16) (N:=some 44) (v:=?_) (a':=?_) B17_ rfl rfl (take_ofW HT_.out HW_.out (by kernel_rfl)) (fun _ _ _ h=>h) (Or.inl ⟨(by rfl),?_⟩) hHeld ?_ ?_
           rotate_left
           ·rintro w' ⟨s0,s1,s2,s3,s4,s5,s6,s7,s8,s9,s10,s11⟩
            go_simp
            with_reducible rfl
           rotate_left
           ·simp only [Act.put,e0_,e1_,e2_,i64_w,i32_w]
            rfl
           refine pure_ (i:=17) (N:=some 45) (v:=?_) (a':=?_) B18_ rfl rfl (any_of HT_.out (by kernel_rfl)) (fun _ _ _ h=>h) (Or.inl ⟨(by rfl),?_⟩) ?_ ?_
           rotate_left
           ·intro w'
            go_simp
            with_reducible rfl
           rotate_left
           ·simp only [Act.put,e0_,e1_,e2_,i64_w,i32_w]
            rfl
           refine pure_ (i:=18) (N:=some 46) (v:=?_) (a':=?_) B19_ rfl rfl (any_of HT_.out (by kernel_rfl)) (fun _ _ _ h=>h) (Or.inl ⟨(by rfl),?_⟩) ?_ ?_
           rotate_left
           ·intro w'
            go_simp
            with_reducible rfl
           rotate_left
           ·simp only [Act.put,e0_,e1_,e2_,i64_w,i32_w]
            rfl
           refine pure_ (i:=19) (N:=some 47) (v:=?_) (a':=?_) B20_ rfl rfl (any_of HT_.out (by kernel_rfl)) (fun _ _ _ h=>h) (Or.inl ⟨(by rfl),?_⟩) ?_ ?_
           rotate_left
           ·intro w'
            go_simp
            with_reducible rfl
           rotate_left
           ·simp only [Act.put,e0_,e1_,e2_,i64_w,i32_w]
            rfl
           refine take_ (i:=20) (N:=some 48) (v:=?_) (a':=?_) B21_ rfl rfl (take_ofW HT_.out HW_.out (by kernel_rfl)) (fun _ _ _ h=>h) (Or.inl ⟨(by rfl),?_⟩) hHeld ?_ ?_
           rotate_left
           ·rintro w' ⟨s0,s1,s2,s3,s4,s5,s6,s7,s8,s9,s10,s11⟩
            go_simp
            with_reducible rfl
           rotate_left
           ·simp only [Act.put,e0_,e1_,e2_,i64_w,i32_w]
            rfl
           refine take_ (i:=22) (N:=some 50) (v:=?_) (a':=?_) B41_ rfl rfl (take_ofW HT_.out HW_.out (by kernel_rfl)) (fun _ _ _ h=>h) (Or.inl ⟨(by rfl),?_⟩) hHeld ?_ ?_
           rotate_left
           ·rintro w' ⟨s0,s1,s2,s3,s4,s5,s6,s7,s8,s9,s10,s11⟩
            go_simp
            with_reducible rfl
           rotate_left
           ·simp only [Act.put,e0_,e1_,e2_,i64_w,i32_w]
            rfl
           refine one_ (i:=21) (N:=some 49) B23_ rfl rfl (one_of HT_.out (by kernel_rfl)) (by decide) (fun K hK=>?_)
           refine goes_ Tryd.func32 (by kernel_rfl) rfl #[.agg #[.bool a0_0,.string a0_1,.int .i64 a0_2]] (by rfl) rfl rfl q2_ ?_
           with_reducible refine (dec_Dec_Zero.calls a0_0 a0_1 a0_2 t113 _ A40.out).mono ?_
           rintro e w62 ⟨rfl,hb⟩
           refine ⟨_,rfl,?_⟩
           replace BK101:=Aside0.mk (blk_below (g:=gb101) (o:=.cells #[.bool a0_0,.string a0_1,.int .i64 a0_2] 23 (0,0)) q1_ hb)
           replace BK104:=Aside0.mk (blk_below (g:=gb104) (o:=.cells #[.bool (!a0_0),.string a0_1,.int .i64 a0_2] 23 (0,0)) q3_ hb)
           replace BK108:=Aside0.mk (blk_below (g:=gb108) (o:=.cells #[.bool t105,.string t106,.int .i64 t107] 23 (0,0)) q4_ hb)
           replace BK112:=Aside0.mk (blk_below (g:=gb112) (o:=.cells #[.bool t109,.string t110,.int .i64 t111] 23 (0,0)) q5_ hb)
           replace HB:=Aside0.mk (below_step q0_ hb)
           (try clear hb)
           (try clear hb2)
           (try clear hk)
           (try clear hi)
           refine hK.out _ _ ⟨(blk_cell BK108.out 0).trans rfl,(blk_cell BK108.out 1).trans rfl,(blk_cell BK108.out 2).trans rfl,(blk_cell BK112.out 0).trans rfl,(blk_cell BK112.out 1).trans rfl,(blk_cell BK112.out 2).trans rfl,(blk_cell BK101.out 0).trans rfl,(blk_cell BK101.out 1).trans rfl,(blk_cell BK101.out 2).trans rfl,(blk_cell BK104.out 0).trans rfl,(blk_cell BK104.out 1).trans rfl,(blk_cell BK104.out 2).trans rfl⟩ (fun hHeld=>?_)
           clear hK K
           refine norm_ (a':=?_) ?_ ?_
           rotate_left
           ·show Act.put _ (some 49) _ = _
            simp only [Act.put,e0_,e1_,e2_,i64_w,i32_w]
            rfl
           refine one_ (i:=23) (N:=some 51) B24_ rfl rfl (one_of HT_.out (by kernel_rfl)) (by decide) (fun K hK=>?_)
           refine goes_ Tryd.func32 (by kernel_rfl) rfl #[.agg #[.bool (!a0_0),.string a0_1,.int .i64 a0_2]] (by rfl) rfl rfl q2_ ?_
           with_reducible refine (dec_Dec_Zero.calls (!a0_0) a0_1 a0_2 t114 _ A41.out).mono ?_
           rintro e w63 ⟨rfl,hb⟩
           refine ⟨_,rfl,?_⟩
           replace BK101:=Aside0.mk (blk_below (g:=gb101) (o:=.cells #[.bool a0_0,.string a0_1,.int .i64 a0_2] 23 (0,0)) q1_ hb)
           replace BK104:=Aside0.mk (blk_below (g:=gb104) (o:=.cells #[.bool (!a0_0),.string a0_1,.int .i64 a0_2] 23 (0,0)) q3_ hb)
           replace BK108:=Aside0.mk (blk_below (g:=gb108) (o:=.cells #[.bool t105,.string t106,.int .i64 t107] 23 (0,0)) q4_ hb)
           replace BK112:=Aside0.mk (blk_below (g:=gb112) (o:=.cells #[.bool t109,.string t110,.int .i64 t111] 23 (0,0)) q5_ hb)
           replace HB:=Aside0.mk (below_step q0_ hb)
           (try clear hb)
           (try clear hb2)
           (try clear hk)
           (try clear hi)
           refine hK.out _ _ ⟨(blk_cell BK108.out 0).trans rfl,(blk_cell BK108.out 1).trans rfl,(blk_cell BK108.out 2).trans rfl,(blk_cell BK112.out 0).trans rfl,(blk_cell BK112.out 1).trans rfl,(blk_cell BK112.out 2).trans rfl,(blk_cell BK101.out 0).trans rfl,(blk_cell BK101.out 1).trans rfl,(blk_cell BK101.out 2).trans rfl,(blk_cell BK104.out 0).trans rfl,(blk_cell BK104.out 1).trans rfl,(blk_cell BK104.out 2).trans rfl⟩ (fun hHeld=>?_)
           clear hK K
           refine norm_ (a':=?_) ?_ ?_
           rotate_left
           ·show Act.put _ (some 51) _ = _
            simp only [Act.put,e0_,e1_,e2_,i64_w,i32_w]
            rfl
           refine pure_ (i:=24) (N:=some 52) (v:=?_) (a':=?_) B25_ rfl rfl (any_of HT_.out (by kernel_rfl)) (fun _ _ _ h=>h) (Or.inl ⟨(by rfl),?_⟩) ?_ ?_
           rotate_left
           ·intro w'
            go_simp
            with_reducible rfl
           rotate_left
           ·simp only [Act.put,e0_,e1_,e2_,i64_w,i32_w]
            rfl
           refine pure_ (i:=25) (N:=some 53) (v:=?_) (a':=?_) B26_ rfl rfl (any_of HT_.out (by kernel_rfl)) (fun _ _ _ h=>h) (Or.inl ⟨(by rfl),?_⟩) ?_ ?_
           rotate_left
           ·intro w'
            go_simp
            with_reducible rfl
           rotate_left
           ·simp only [Act.put,e0_,e1_,e2_,i64_w,i32_w]
            rfl
           refine pure_ (i:=26) (N:=some 54) (v:=?_) (a':=?_) B27_ rfl rfl (any_of HT_.out (by kernel_rfl)) (fun _ _ _ h=>h) (Or.inl ⟨(by rfl),?_⟩) ?_ ?_
           rotate_left
           ·intro w'
            go_simp
            with_reducible rfl
           rotate_left
           ·simp only [Act.put,e0_,e1_,e2_,i64_w,i32_w]
            rfl
           refine take_ (i:=27) (N:=some 55) (v:=?_) (a':=?_) B28_ rfl rfl (take_ofW HT_.out HW_.out (by kernel_rfl)) (fun _ _ _ h=>h) (Or.inl ⟨(by rfl),?_⟩) hHeld ?_ ?_
           rotate_left
           ·rintro w' ⟨s0,s1,s2,s3,s4,s5,s6,s7,s8,s9,s10,s11⟩
            go_simp
            with_reducible rfl
           rotate_left
           ·simp only [Act.put,e0_,e1_,e2_,i64_w,i32_w]
            rfl
           refine take_ (i:=29) (N:=some 57) (v:=?_) (a':=?_) B42_ rfl rfl (take_ofW HT_.out HW_.out (by kernel_rfl)) (fun _ _ _ h=>h) (Or.inl ⟨(by rfl),?_⟩) hHeld ?_ ?_
           rotate_left
           ·rintro w' ⟨s0,s1,s2,s3,s4,s5,s6,s7,s8,s9,s10,s11⟩
            go_simp
            with_reducible rfl
           rotate_left
           ·simp only [Act.put,e0_,e1_,e2_,i64_w,i32_w]
            rfl
           refine one_ (i:=28) (N:=some 56) B30_ rfl rfl (one_of HT_.out (by kernel_rfl)) (by decide) (fun K hK=>?_)
           refine goes_ Tryd.func30 (by kernel_rfl) rfl #[.agg #[.bool a0_0,.string a0_1,.int .i64 a0_2]] (by rfl) rfl rfl q2_ ?_
           with_reducible refine (dec_Dec_Whole.calls a0_0 a0_1 a0_2 t115 _ A47.out).mono ?_
           rintro e w64 ⟨rfl,hb⟩
           refine ⟨_,rfl,?_⟩
           replace BK101:=Aside0.mk (blk_below (g:=gb101) (o:=.cells #[.bool a0_0,.string a0_1,.int .i64 a0_2] 23 (0,0)) q1_ hb)
           replace BK104:=Aside0.mk (blk_below (g:=gb104) (o:=.cells #[.bool (!a0_0),.string a0_1,.int .i64 a0_2] 23 (0,0)) q3_ hb)
           replace BK108:=Aside0.mk (blk_below (g:=gb108) (o:=.cells #[.bool t105,.string t106,.int .i64 t107] 23 (0,0)) q4_ hb)
           replace BK112:=Aside0.mk (blk_below (g:=gb112) (o:=.cells #[.bool t109,.string t110,.int .i64 t111] 23 (0,0)) q5_ hb)
           replace HB:=Aside0.mk (below_step q0_ hb)
           (try clear hb)
           (try clear hb2)
           (try clear hk)
           (try clear hi)
           refine hK.out _ _ ⟨(blk_cell BK108.out 0).trans rfl,(blk_cell BK108.out 1).trans rfl,(blk_cell BK108.out 2).trans rfl,(blk_cell BK112.out 0).trans rfl,(blk_cell BK112.out 1).trans rfl,(blk_cell BK112.out 2).trans rfl,(blk_cell BK101.out 0).trans rfl,(blk_cell BK101.out 1).trans rfl,(blk_cell BK101.out 2).trans rfl,(blk_cell BK104.out 0).trans rfl,(blk_cell BK104.out 1).trans rfl,(blk_cell BK104.out 2).trans rfl⟩ (fun hHeld=>?_)
           clear hK K
           refine norm_ (a':=?_) ?_ ?_
           rotate_left
           ·show Act.put _ (some 56) _ = _
            simp only [Act.put,e0_,e1_,e2_,i64_w,i32_w]
            rfl
           refine one_ (i:=30) (N:=some 58) B31_ rfl rfl (one_of HT_.out (by kernel_rfl)) (by decide) (fun K hK=>?_)
           refine goes_ Tryd.func30 (by kernel_rfl) rfl #[.agg #[.bool (!a0_0),.string a0_1,.int .i64 a0_2]] (by rfl) rfl rfl q2_ ?_
           with_reducible refine (dec_Dec_Whole.calls (!a0_0) a0_1 a0_2 t116 _ A48.out).mono ?_
           rintro e w65 ⟨rfl,hb⟩
           refine ⟨_,rfl,?_⟩
           replace BK101:=Aside0.mk (blk_below (g:=gb101) (o:=.cells #[.bool a0_0,.string a0_1,.int .i64 a0_2] 23 (0,0)) q1_ hb)
           replace BK104:=Aside0.mk (blk_below (g:=gb104) (o:=.cells #[.bool (!a0_0),.string a0_1,.int .i64 a0_2] 23 (0,0)) q3_ hb)
           replace BK108:=Aside0.mk (blk_below (g:=gb108) (o:=.cells #[.bool t105,.string t106,.int .i64 t107] 23 (0,0)) q4_ hb)
           replace BK112:=Aside0.mk (blk_below (g:=gb112) (o:=.cells #[.bool t109,.string t110,.int .i64 t111] 23 (0,0)) q5_ hb)
           replace HB:=Aside0.mk (below_step q0_ hb)
           (try clear hb)
           (try clear hb2)
           (try clear hk)
           (try clear hi)
           refine hK.out _ _ ⟨(blk_cell BK108.out 0).trans rfl,(blk_cell BK108.out 1).trans rfl,(blk_cell BK108.out 2).trans rfl,(blk_cell BK112.out 0).trans rfl,(blk_cell BK112.out 1).trans rfl,(blk_cell BK112.out 2).trans rfl,(blk_cell BK101.out 0).trans rfl,(blk_cell BK101.out 1).trans rfl,(blk_cell BK101.out 2).trans rfl,(blk_cell BK104.out 0).trans rfl,(blk_cell BK104.out 1).trans rfl,(blk_cell BK104.out 2).trans rfl⟩ (fun hHeld=>?_)
           clear hK K
           refine norm_ (a':=?_) ?_ ?_
           rotate_left
           ·show Act.put _ (some 58) _ = _
            simp only [Act.put,e0_,e1_,e2_,i64_w,i32_w]
            rfl
           refine pure_ (i:=31) (N:=some 59) (v:=?_) (a':=?_) B32_ rfl rfl (any_of HT_.out (by kernel_rfl)) (fun _ _ _ h=>h) (Or.inl ⟨(by rfl),?_⟩) ?_ ?_
           rotate_left
           ·intro w'
            go_simp
            with_reducible rfl
           rotate_left
           ·simp only [Act.put,e0_,e1_,e2_,i64_w,i32_w]
            rfl
           refine pure_ (i:=32) (N:=some 60) (v:=?_) (a':=?_) B33_ rfl rfl (any_of HT_.out (by kernel_rfl)) (fun _ _ _ h=>h) (Or.inl ⟨(by rfl),?_⟩) ?_ ?_
           rotate_left
           ·intro w'
            go_simp
            with_reducible rfl
           rotate_left
           ·simp only [Act.put,e0_,e1_,e2_,i64_w,i32_w]
            rfl
           refine pure_ (i:=33) (N:=some 61) (v:=?_) (a':=?_) B34_ rfl rfl (any_of HT_.out (by kernel_rfl)) (fun _ _ _ h=>h) (Or.inl ⟨(by rfl),?_⟩) ?_ ?_
           rotate_left
           ·intro w'
            go_simp
            with_reducible rfl
           rotate_left
           ·simp only [Act.put,e0_,e1_,e2_,i64_w,i32_w]
            rfl
           refine pure_ (i:=34) (N:=some 62) (v:=undef) (a':=?_) B35_ rfl rfl (any_of HT_.out (by kernel_rfl)) (fun _ _ _ h=>h) (Or.inr ⟨(by rfl),rfl⟩) ?_ ?_
           rotate_left
           ·simp only [Act.put,e0_,e1_,e2_,i64_w,i32_w]
            rfl
           refine pure_ (i:=35) (N:=some 63) (v:=undef) (a':=?_) B36_ rfl rfl (any_of HT_.out (by kernel_rfl)) (fun _ _ _ h=>h) (Or.inr ⟨(by rfl),rfl⟩) ?_ ?_
           rotate_left
           ·simp only [Act.put,e0_,e1_,e2_,i64_w,i32_w]
            rfl
           refine pure_ (i:=36) (N:=some 64) (v:=undef) (a':=?_) B37_ rfl rfl (any_of HT_.out (by kernel_rfl)) (fun _ _ _ h=>h) (Or.inr ⟨(by rfl),rfl⟩) ?_ ?_
           rotate_left
           ·simp only [Act.put,e0_,e1_,e2_,i64_w,i32_w]
            rfl
           refine pure_ (i:=37) (N:=some 65) (v:=undef) (a':=?_) B38_ rfl rfl (any_of HT_.out (by kernel_rfl)) (fun _ _ _ h=>h) (Or.inr ⟨(by rfl),rfl⟩) ?_ ?_
           rotate_left
           ·simp only [Act.put,e0_,e1_,e2_,i64_w,i32_w]
            rfl
           refine pure_ (i:=38) (N:=some 66) (v:=undef) (a':=?_) B39_ rfl rfl (any_of HT_.out (by kernel_rfl)) (fun _ _ _ h=>h) (Or.inr ⟨(by rfl),rfl⟩) ?_ ?_
           rotate_left
           ·simp only [Act.put,e0_,e1_,e2_,i64_w,i32_w]
            rfl
           refine pure_ (i:=39) (N:=some 67) (v:=?_) (a':=?_) B40_ rfl rfl (any_of HT_.out (by kernel_rfl)) (fun _ _ _ h=>h) (Or.inl ⟨(by rfl),?_⟩) ?_ ?_
           rotate_left
           ·intro w'
            go_simp
            with_reducible rfl
           rotate_left
           ·simp only [Act.put,e0_,e1_,e2_,i64_w,i32_w]
            rfl
           refine done_ (done_of HT_.out (by kernel_rfl)) ?_
           try go_wp2
           go_meet
           case rel=>exact ⟨_,(true),q15_,H',⟨q16_⟩,⟨q1_⟩,⟨q3_⟩,⟨q4_⟩,⟨q5_⟩,⟨q0_⟩⟩
       ·rw [if_neg c36] at H
        have c36b0 : (t107 == t111) = false:=beq_eq_false_iff_ne.mpr c36
        have c36b1 : (t107 != t111) = true:=bne_iff_ne.mpr c36
        have H':=Aside0.mk H
        clear H
        try go_wp2
        have n0_ : Aside0 ((((w30.setCell ⟨gb112,0,none⟩ (.bool t109)).setCell ⟨gb112,1,none⟩ (.string t110)).setCell ⟨gb112,2,none⟩ (.int .i64 t111)).heap[gb101]? = some (.cells #[.bool a0_0,.string a0_1,.int .i64 a0_2] 23 (0,0))):=⟨q7_⟩
        have n1_ : Aside0 ((((w30.setCell ⟨gb112,0,none⟩ (.bool t109)).setCell ⟨gb112,1,none⟩ (.string t110)).setCell ⟨gb112,2,none⟩ (.int .i64 t111)).heap[gb104]? = some (.cells #[.bool (!a0_0),.string a0_1,.int .i64 a0_2] 23 (0,0))):=⟨q8_⟩
        have n2_ : Aside0 ((((w30.setCell ⟨gb112,0,none⟩ (.bool t109)).setCell ⟨gb112,1,none⟩ (.string t110)).setCell ⟨gb112,2,none⟩ (.int .i64 t111)).heap[gb108]? = some (.cells #[.bool t105,.string t106,.int .i64 t107] 23 (0,0))):=⟨q9_⟩
        have n3_ : Aside0 ((((w30.setCell ⟨gb112,0,none⟩ (.bool t109)).setCell ⟨gb112,1,none⟩ (.string t110)).setCell ⟨gb112,2,none⟩ (.int .i64 t111)).heap[gb112]? = some (.cells #[.bool t109,.string t110,.int .i64 t111] 23 (0,0))):=⟨q6_⟩
        have n4_ : Aside0 (Below w.heap.size w (((w30.setCell ⟨gb112,0,none⟩ (.bool t109)).setCell ⟨gb112,1,none⟩ (.string t110)).setCell ⟨gb112,2,none⟩ (.int .i64 t111))):=⟨q0_⟩
        (try clear BK101)
        (try clear BK104)
        (try clear BK108)
        (try clear BK112)
        (try clear HB)
        generalize (((w30.setCell ⟨gb112,0,none⟩ (.bool t109)).setCell ⟨gb112,1,none⟩ (.string t110)).setCell ⟨gb112,2,none⟩ (.int .i64 t111)) = w66 at n0_ n1_ n2_ n3_ n4_ ⊢
        have BK101:=n0_
        have BK104:=n1_
        have BK108:=n2_
        have BK112:=n3_
        have HB:=n4_
        clear n0_ n1_ n2_ n3_ n4_
        replace BK101:=Aside0.mk (blk_drew BK101.out)
        replace BK104:=Aside0.mk (blk_drew BK104.out)
        replace BK108:=Aside0.mk (blk_drew BK108.out)
        replace BK112:=Aside0.mk (blk_drew BK112.out)
        replace HB:=Aside0.mk (below_drew1 HB.out)
        refine start_ (n:=40) (S:=fun w'=>w'.cell? ⟨gb108,0,none⟩ = some (.bool t105) ∧ w'.cell? ⟨gb108,1,none⟩ = some (.string t106) ∧ w'.cell? ⟨gb108,2,none⟩ = some (.int .i64 t107) ∧ w'.cell? ⟨gb112,0,none⟩ = some (.bool t109) ∧ w'.cell? ⟨gb112,1,none⟩ = some (.string t110) ∧ w'.cell? ⟨gb112,2,none⟩ = some (.int .i64 t111)) (ds:=[]) B0_ (by kernel_rfl) rfl rfl ⟨(blk_cell BK108.out 0).trans rfl,(blk_cell BK108.out 1).trans rfl,(blk_cell BK108.out 2).trans rfl,(blk_cell BK112.out 0).trans rfl,(blk_cell BK112.out 1).trans rfl,(blk_cell BK112.out 2).trans rfl⟩ (fun hHeld=>?_);refine with_tabW polyglotlaw02_DecSigns.tab9 polyglotlaw02_DecSigns.bits9 (fun HT_ HW_=>?_)
        generalize w66.drew = w67 at BK101 BK104 BK108 BK112 HB hHeld ⊢
        refine pure_ (i:=0) (N:=some 28) (v:=?_) (a':=?_) B1_ rfl rfl (any_of HT_.out (by kernel_rfl)) (fun _ _ _ h=>h) (Or.inl ⟨(by rfl),?_⟩) ?_ ?_
        rotate_left
        ·intro w'
         go_simp
         with_reducible rfl
        rotate_left
        ·simp only [Act.put,e0_,e1_,e2_,i64_w,i32_w]
         rfl
        refine pure_ (i:=2) (N:=some 30) (v:=?_) (a':=?_) B2_ rfl rfl (any_of HT_.out (by kernel_rfl)) (fun _ _ _ h=>h) (Or.inl ⟨(by rfl),?_⟩) ?_ ?_
        rotate_left
        ·intro w'
         go_simp
         with_reducible rfl
        rotate_left
        ·simp only [Act.put,e0_,e1_,e2_,i64_w,i32_w]
         rfl
        refine take_ (i:=1) (N:=some 29) (v:=?_) (a':=?_) B3_ rfl rfl (take_ofW HT_.out HW_.out (by kernel_rfl)) (fun _ _ _ h=>h) (Or.inl ⟨(by rfl),?_⟩) hHeld ?_ ?_
        rotate_left
        ·rintro w' ⟨s0,s1,s2,s3,s4,s5⟩
         go_simp
         with_reducible rfl
        rotate_left
        ·simp only [Act.put,e0_,e1_,e2_,i64_w,i32_w]
         rfl
        refine take_ (i:=3) (N:=some 31) (v:=?_) (a':=?_) B4_ rfl rfl (take_ofW HT_.out HW_.out (by kernel_rfl)) (fun _ _ _ h=>h) (Or.inl ⟨(by rfl),?_⟩) hHeld ?_ ?_
        rotate_left
        ·rintro w' ⟨s0,s1,s2,s3,s4,s5⟩
         go_simp
         with_reducible rfl
        rotate_left
        ·simp only [Act.put,e0_,e1_,e2_,i64_w,i32_w]
         rfl
        refine pure_ (i:=4) (N:=some 32) (v:=?_) (a':=?_) B5_ rfl rfl (any_of HT_.out (by kernel_rfl)) (fun _ _ _ h=>h) (Or.inl ⟨(by rfl),?_⟩) ?_ ?_
        rotate_left
        ·intro w'
         go_simp
         with_reducible rfl
        rotate_left
        ·simp only [Act.put,e0_,e1_,e2_,i64_w,i32_w]
         rfl
        refine pure_ (i:=5) (N:=some 33) (v:=?_) (a':=?_) B6_ rfl rfl (any_of HT_.out (by kernel_rfl)) (fun _ _ _ h=>h) (Or.inl ⟨(by rfl),?_⟩) ?_ ?_
        rotate_left
        ·intro w'
         go_simp
         with_reducible rfl
        rotate_left
        ·simp only [Act.put,e0_,e1_,e2_,i64_w,i32_w]
         rfl
        refine pure_ (i:=6) (N:=some 34) (v:=?_) (a':=?_) B7_ rfl rfl (any_of HT_.out (by kernel_rfl)) (fun _ _ _ h=>h) (Or.inl ⟨(by rfl),?_⟩) ?_ ?_
        rotate_left
        ·intro w'
         go_simp
         with_reducible rfl
        rotate_left
        ·simp only [Act.put,e0_,e1_,e2_,i64_w,i32_w]
         rfl
        refine pure_ (i:=8) (N:=some 36) (v:=?_) (a':=?_) B8_ rfl rfl (any_of HT_.out (by kernel_rfl)) (fun _ _ _ h=>h) (Or.inl ⟨(by rfl),?_⟩) ?_ ?_
        rotate_left
        ·intro w'
         go_simp
         with_reducible rfl
        rotate_left
        ·simp only [Act.put,e0_,e1_,e2_,i64_w,i32_w]
         rfl
        refine take_ (i:=7) (N:=some 35) (v:=?_) (a':=?_) B9_ rfl rfl (take_ofW HT_.out HW_.out (by kernel_rfl)) (fun _ _ _ h=>h) (Or.inl ⟨(by rfl),?_⟩) hHeld ?_ ?_
        rotate_left
        ·rintro w' ⟨s0,s1,s2,s3,s4,s5⟩
         go_simp
         with_reducible rfl
        rotate_left
        ·simp only [Act.put,e0_,e1_,e2_,i64_w,i32_w]
         rfl
        refine take_ (i:=9) (N:=some 37) (v:=?_) (a':=?_) B10_ rfl rfl (take_ofW HT_.out HW_.out (by kernel_rfl)) (fun _ _ _ h=>h) (Or.inl ⟨(by rfl),?_⟩) hHeld ?_ ?_
        rotate_left
        ·rintro w' ⟨s0,s1,s2,s3,s4,s5⟩
         go_simp
         with_reducible rfl
        rotate_left
        ·simp only [Act.put,e0_,e1_,e2_,i64_w,i32_w]
         rfl
        refine pure_ (i:=10) (N:=some 38) (v:=?_) (a':=?_) B11_ rfl rfl (any_of HT_.out (by kernel_rfl)) (fun _ _ _ h=>h) (Or.inl ⟨(by rfl),?_⟩) ?_ ?_
        rotate_left
        ·intro w'
         go_simp
         with_reducible rfl
        rotate_left
        ·simp only [Act.put,e0_,e1_,e2_,i64_w,i32_w]
         rfl
        refine pure_ (i:=11) (N:=some 39) (v:=?_) (a':=?_) B12_ rfl rfl (any_of HT_.out (by kernel_rfl)) (fun _ _ _ h=>h) (Or.inl ⟨(by rfl),?_⟩) ?_ ?_
        rotate_left
        ·intro w'
         go_simp
         with_reducible rfl
        rotate_left
        ·simp only [Act.put,e0_,e1_,e2_,i64_w,i32_w]
         rfl
        refine pure_ (i:=12) (N:=some 40) (v:=?_) (a':=?_) B13_ rfl rfl (any_of HT_.out (by kernel_rfl)) (fun _ _ _ h=>h) (Or.inl ⟨(by rfl),?_⟩) ?_ ?_
        rotate_left
        ·intro w'
         go_simp
         with_reducible rfl
        rotate_left
        ·simp only [Act.put,e0_,e1_,e2_,i64_w,i32_w]
         rfl
        refine pure_ (i:=13) (N:=some 41) (v:=undef) (a':=?_) B14_ rfl rfl (any_of HT_.out (by kernel_rfl)) (fun _ _ _ h=>h) (Or.inr ⟨(by rfl),rfl⟩) ?_ ?_
        rotate_left
        ·simp only [Act.put,e0_,e1_,e2_,i64_w,i32_w]
         rfl
        refine pure_ (i:=14) (N:=some 42) (v:=undef) (a':=?_) B43_ rfl rfl (any_of HT_.out (by kernel_rfl)) (fun _ _ _ h=>h) (Or.inr ⟨(by rfl),rfl⟩) ?_ ?_
        rotate_left
        ·simp only [Act.put,e0_,e1_,e2_,i64_w,i32_w]
         rfl
        refine pure_ (i:=15) (N:=some 43) (v:=undef) (a':=?_) B16_ rfl rfl (any_of HT_.out (by kernel_rfl)) (fun _ _ _ h=>h) (Or.inr ⟨(by rfl),rfl⟩) ?_ ?_
        rotate_left
        ·simp only [Act.put,e0_,e1_,e2_,i64_w,i32_w]
         rfl
        refine pure_ (i:=16) (N:=some 44) (v:=undef) (a':=?_) B17_ rfl rfl (any_of HT_.out (by kernel_rfl)) (fun _ _ _ h=>h) (Or.inr ⟨(by rfl),rfl⟩) ?_ ?_
        rotate_left
        ·simp only [Act.put,e0_,e1_,e2_,i64_w,i32_w]
         rfl
        refine pure_ (i:=17) (N:=some 45) (v:=undef) (a':=?_) B18_ rfl rfl (any_of HT_.out (by kernel_rfl)) (fun _ _ _ h=>h) (Or.inr ⟨(by rfl),rfl⟩) ?_ ?_
        rotate_left
        ·simp only [Act.put,e0_,e1_,e2_,i64_w,i32_w]
         rfl
        refine pure_ (i:=18) (N:=some 46) (v:=?_) (a':=?_) B19_ rfl rfl (any_of HT_.out (by kernel_rfl)) (fun _ _ _ h=>h) (Or.inl ⟨(by rfl),?_⟩) ?_ ?_
        rotate_left
        ·intro w'
         go_simp
         with_reducible rfl
        rotate_left
        ·simp only [Act.put,e0_,e1_,e2_,i64_w,i32_w]
         rfl
        refine pure_ (i:=19) (N:=some 47) (v:=?_) (a':=?_) B20_ rfl rfl (any_of HT_.out (by kernel_rfl)) (fun _ _ _ h=>h) (Or.inl ⟨(by rfl),?_⟩) ?_ ?_
        rotate_left
        ·intro w'
         go_simp
         with_reducible rfl
        rotate_left
        ·simp only [Act.put,e0_,e1_,e2_,i64_w,i32_w]
         rfl
        refine pure_ (i:=20) (N:=some 48) (v:=undef) (a':=?_) B21_ rfl rfl (any_of HT_.out (by kernel_rfl)) (fun _ _ _ h=>h) (Or.inr ⟨(by rfl),rfl⟩) ?_ ?_
        rotate_left
        ·simp only [Act.put,e0_,e1_,e2_,i64_w,i32_w]
         rfl
        refine pure_ (i:=21) (N:=some 49) (v:=undef) (a':=?_) B22_ rfl rfl (any_of HT_.out (by kernel_rfl)) (fun _ _ _ h=>h) (Or.inr ⟨(by rfl),rfl⟩) ?_ ?_
        rotate_left
        ·simp only [Act.put,e0_,e1_,e2_,i64_w,i32_w]
         rfl
        refine pure_ (i:=22) (N:=some 50) (v:=undef) (a':=?_) B23_ rfl rfl (any_of HT_.out (by kernel_rfl)) (fun _ _ _ h=>h) (Or.inr ⟨(by rfl),rfl⟩) ?_ ?_
        rotate_left
        ·simp only [Act.put,e0_,e1_,e2_,i64_w,i32_w]
         rfl
        refine pure_ (i:=23) (N:=some 51) (v:=undef) (a':=?_) B24_ rfl rfl (any_of HT_.out (by kernel_rfl)) (fun _ _ _ h=>h) (Or.inr ⟨(by rfl),rfl⟩) ?_ ?_
        rotate_left
        ·simp only [Act.put,e0_,e1_,e2_,i64_w,i32_w]
         rfl
        refine pure_ (i:=24) (N:=some 52) (v:=undef) (a':=?_) B25_ rfl rfl (any_of HT_.out (by kernel_rfl)) (fun _ _ _ h=>h) (Or.inr ⟨(by rfl),rfl⟩) ?_ ?_
        rotate_left
        ·simp only [Act.put,e0_,e1_,e2_,i64_w,i32_w]
         rfl
        refine pure_ (i:=25) (N:=some 53) (v:=?_) (a':=?_) B26_ rfl rfl (any_of HT_.out (by kernel_rfl)) (fun _ _ _ h=>h) (Or.inl ⟨(by rfl),?_⟩) ?_ ?_
        rotate_left
        ·intro w'
         go_simp
         with_reducible rfl
        rotate_left
        ·simp only [Act.put,e0_,e1_,e2_,i64_w,i32_w]
         rfl
        refine pure_ (i:=26) (N:=some 54) (v:=?_) (a':=?_) B27_ rfl rfl (any_of HT_.out (by kernel_rfl)) (fun _ _ _ h=>h) (Or.inl ⟨(by rfl),?_⟩) ?_ ?_
        rotate_left
        ·intro w'
         go_simp
         with_reducible rfl
        rotate_left
        ·simp only [Act.put,e0_,e1_,e2_,i64_w,i32_w]
         rfl
        refine pure_ (i:=27) (N:=some 55) (v:=undef) (a':=?_) B28_ rfl rfl (any_of HT_.out (by kernel_rfl)) (fun _ _ _ h=>h) (Or.inr ⟨(by rfl),rfl⟩) ?_ ?_
        rotate_left
        ·simp only [Act.put,e0_,e1_,e2_,i64_w,i32_w]
         rfl
        refine pure_ (i:=28) (N:=some 56) (v:=undef) (a':=?_) B29_ rfl rfl (any_of HT_.out (by kernel_rfl)) (fun _ _ _ h=>h) (Or.inr ⟨(by rfl),rfl⟩) ?_ ?_
        rotate_left
        ·simp only [Act.put,e0_,e1_,e2_,i64_w,i32_w]
         rfl
        refine pure_ (i:=29) (N:=some 57) (v:=undef) (a':=?_) B30_ rfl rfl (any_of HT_.out (by kernel_rfl)) (fun _ _ _ h=>h) (Or.inr ⟨(by rfl),rfl⟩) ?_ ?_
        rotate_left
        ·simp only [Act.put,e0_,e1_,e2_,i64_w,i32_w]
         rfl
        refine pure_ (i:=30) (N:=some 58) (v:=undef) (a':=?_) B31_ rfl rfl (any_of HT_.out (by kernel_rfl)) (fun _ _ _ h=>h) (Or.inr ⟨(by rfl),rfl⟩) ?_ ?_
        rotate_left
        ·simp only [Act.put,e0_,e1_,e2_,i64_w,i32_w]
         rfl
        refine pure_ (i:=31) (N:=some 59) (v:=undef) (a':=?_) B32_ rfl rfl (any_of HT_.out (by kernel_rfl)) (fun _ _ _ h=>h) (Or.inr ⟨(by rfl),rfl⟩) ?_ ?_
        rotate_left
        ·simp only [Act.put,e0_,e1_,e2_,i64_w,i32_w]
         rfl
        refine pure_ (i:=32) (N:=some 60) (v:=?_) (a':=?_) B33_ rfl rfl (any_of HT_.out (by kernel_rfl)) (fun _ _ _ h=>h) (Or.inl ⟨(by rfl),?_⟩) ?_ ?_
        rotate_left
        ·intro w'
         go_simp
         with_reducible rfl
        rotate_left
        ·simp only [Act.put,e0_,e1_,e2_,i64_w,i32_w]
         rfl
        refine pure_ (i:=33) (N:=some 61) (v:=?_) (a':=?_) B34_ rfl rfl (any_of HT_.out (by kernel_rfl)) (fun _ _ _ h=>h) (Or.inl ⟨(by rfl),?_⟩) ?_ ?_
        rotate_left
        ·intro w'
         go_simp
         with_reducible rfl
        rotate_left
        ·simp only [Act.put,e0_,e1_,e2_,i64_w,i32_w]
         rfl
        refine pure_ (i:=34) (N:=some 62) (v:=undef) (a':=?_) B35_ rfl rfl (any_of HT_.out (by kernel_rfl)) (fun _ _ _ h=>h) (Or.inr ⟨(by rfl),rfl⟩) ?_ ?_
        rotate_left
        ·simp only [Act.put,e0_,e1_,e2_,i64_w,i32_w]
         rfl
        refine pure_ (i:=35) (N:=some 63) (v:=undef) (a':=?_) B36_ rfl rfl (any_of HT_.out (by kernel_rfl)) (fun _ _ _ h=>h) (Or.inr ⟨(by rfl),rfl⟩) ?_ ?_
        rotate_left
        ·simp only [Act.put,e0_,e1_,e2_,i64_w,i32_w]
         rfl
        refine pure_ (i:=36) (N:=some 64) (v:=undef) (a':=?_) B37_ rfl rfl (any_of HT_.out (by kernel_rfl)) (fun _ _ _ h=>h) (Or.inr ⟨(by rfl),rfl⟩) ?_ ?_
        rotate_left
        ·simp only [Act.put,e0_,e1_,e2_,i64_w,i32_w]
         rfl
        refine pure_ (i:=37) (N:=some 65) (v:=undef) (a':=?_) B38_ rfl rfl (any_of HT_.out (by kernel_rfl)) (fun _ _ _ h=>h) (Or.inr ⟨(by rfl),rfl⟩) ?_ ?_
        rotate_left
        ·simp only [Act.put,e0_,e1_,e2_,i64_w,i32_w]
         rfl
        refine pure_ (i:=38) (N:=some 66) (v:=undef) (a':=?_) B39_ rfl rfl (any_of HT_.out (by kernel_rfl)) (fun _ _ _ h=>h) (Or.inr ⟨(by rfl),rfl⟩) ?_ ?_
        rotate_left
        ·simp only [Act.put,e0_,e1_,e2_,i64_w,i32_w]
         rfl
        refine pure_ (i:=39) (N:=some 67) (v:=?_) (a':=?_) B40_ rfl rfl (any_of HT_.out (by kernel_rfl)) (fun _ _ _ h=>h) (Or.inl ⟨(by rfl),?_⟩) ?_ ?_
        rotate_left
        ·intro w'
         go_simp
         with_reducible rfl
        rotate_left
        ·simp only [Act.put,e0_,e1_,e2_,i64_w,i32_w]
         rfl
        refine done_ (done_of HT_.out (by kernel_rfl)) ?_
        try go_wp2
        go_meet
        case rel=>exact ⟨_,(true),q15_,H',⟨q16_⟩,⟨q1_⟩,⟨q3_⟩,⟨q4_⟩,⟨q5_⟩,⟨q0_⟩⟩
      ·rw [if_neg c35] at H
       have c35b0 : (t106.toList == t110.toList) = false:=beq_eq_false_iff_ne.mpr c35
       have c35b1 : (t106.toList != t110.toList) = true:=bne_iff_ne.mpr c35
       (first | rw [c35b0] | (simp only [i64_w,i32_w];rw [c35b0]) | skip)
       have H':=Aside0.mk H
       clear H
       try go_wp2
       have n0_ : Aside0 ((((w30.setCell ⟨gb112,0,none⟩ (.bool t109)).setCell ⟨gb112,1,none⟩ (.string t110)).setCell ⟨gb112,2,none⟩ (.int .i64 t111)).heap[gb101]? = some (.cells #[.bool a0_0,.string a0_1,.int .i64 a0_2] 23 (0,0))):=⟨q7_⟩
       have n1_ : Aside0 ((((w30.setCell ⟨gb112,0,none⟩ (.bool t109)).setCell ⟨gb112,1,none⟩ (.string t110)).setCell ⟨gb112,2,none⟩ (.int .i64 t111)).heap[gb104]? = some (.cells #[.bool (!a0_0),.string a0_1,.int .i64 a0_2] 23 (0,0))):=⟨q8_⟩
       have n2_ : Aside0 ((((w30.setCell ⟨gb112,0,none⟩ (.bool t109)).setCell ⟨gb112,1,none⟩ (.string t110)).setCell ⟨gb112,2,none⟩ (.int .i64 t111)).heap[gb108]? = some (.cells #[.bool t105,.string t106,.int .i64 t107] 23 (0,0))):=⟨q9_⟩
       have n3_ : Aside0 ((((w30.setCell ⟨gb112,0,none⟩ (.bool t109)).setCell ⟨gb112,1,none⟩ (.string t110)).setCell ⟨gb112,2,none⟩ (.int .i64 t111)).heap[gb112]? = some (.cells #[.bool t109,.string t110,.int .i64 t111] 23 (0,0))):=⟨q6_⟩
       have n4_ : Aside0 (Below w.heap.size w (((w30.setCell ⟨gb112,0,none⟩ (.bool t109)).setCell ⟨gb112,1,none⟩ (.string t110)).setCell ⟨gb112,2,none⟩ (.int .i64 t111))):=⟨q0_⟩
       (try clear BK101)
       (try clear BK104)
       (try clear BK108)
       (try clear BK112)
       (try clear HB)
       generalize (((w30.setCell ⟨gb112,0,none⟩ (.bool t109)).setCell ⟨gb112,1,none⟩ (.string t110)).setCell ⟨gb112,2,none⟩ (.int .i64 t111)) = w68 at n0_ n1_ n2_ n3_ n4_ ⊢
       have BK101:=n0_
       have BK104:=n1_
       have BK108:=n2_
       have BK112:=n3_
       have HB:=n4_
       clear n0_ n1_ n2_ n3_ n4_
       replace BK101:=Aside0.mk (blk_drew BK101.out)
       replace BK104:=Aside0.mk (blk_drew BK104.out)
       replace BK108:=Aside0.mk (blk_drew BK108.out)
       replace BK112:=Aside0.mk (blk_drew BK112.out)
       replace HB:=Aside0.mk (below_drew1 HB.out)
       refine start_ (n:=40) (S:=fun w'=>w'.cell? ⟨gb108,0,none⟩ = some (.bool t105) ∧ w'.cell? ⟨gb108,1,none⟩ = some (.string t106) ∧ w'.cell? ⟨gb108,2,none⟩ = some (.int .i64 t107) ∧ w'.cell? ⟨gb112,0,none⟩ = some (.bool t109) ∧ w'.cell? ⟨gb112,1,none⟩ = some (.string t110) ∧ w'.cell? ⟨gb112,2,none⟩ = some (.int .i64 t111)) (ds:=[]) B0_ (by kernel_rfl) rfl rfl ⟨(blk_cell BK108.out 0).trans rfl,(blk_cell BK108.out 1).trans rfl,(blk_cell BK108.out 2).trans rfl,(blk_cell BK112.out 0).trans rfl,(blk_cell BK112.out 1).trans rfl,(blk_cell BK112.out 2).trans rfl⟩ (fun hHeld=>?_);refine with_tabW polyglotlaw02_DecSigns.tab9 polyglotlaw02_DecSigns.bits9 (fun HT_ HW_=>?_)
       generalize w68.drew = w69 at BK101 BK104 BK108 BK112 HB hHeld ⊢
       refine pure_ (i:=0) (N:=some 28) (v:=?_) (a':=?_) B1_ rfl rfl (any_of HT_.out (by kernel_rfl)) (fun _ _ _ h=>h) (Or.inl ⟨(by rfl),?_⟩) ?_ ?_
       rotate_left
       ·intro w'
        go_simp
        with_reducible rfl
       rotate_left
       ·simp only [Act.put,e0_,e1_,e2_,i64_w,i32_w]
        rfl
       refine pure_ (i:=2) (N:=some 30) (v:=?_) (a':=?_) B2_ rfl rfl (any_of HT_.out (by kernel_rfl)) (fun _ _ _ h=>h) (Or.inl ⟨(by rfl),?_⟩) ?_ ?_
       rotate_left
       ·intro w'
        go_simp
        with_reducible rfl
       rotate_left
       ·simp only [Act.put,e0_,e1_,e2_,i64_w,i32_w]
        rfl
       refine take_ (i:=1) (N:=some 29) (v:=?_) (a':=?_) B3_ rfl rfl (take_ofW HT_.out HW_.out (by kernel_rfl)) (fun _ _ _ h=>h) (Or.inl ⟨(by rfl),?_⟩) hHeld ?_ ?_
       rotate_left
       ·rintro w' ⟨s0,s1,s2,s3,s4,s5⟩
        go_simp
        with_reducible rfl
       rotate_left
       ·simp only [Act.put,e0_,e1_,e2_,i64_w,i32_w]
        rfl
       refine take_ (i:=3) (N:=some 31) (v:=?_) (a':=?_) B4_ rfl rfl (take_ofW HT_.out HW_.out (by kernel_rfl)) (fun _ _ _ h=>h) (Or.inl ⟨(by rfl),?_⟩) hHeld ?_ ?_
       rotate_left
       ·rintro w' ⟨s0,s1,s2,s3,s4,s5⟩
        go_simp
        with_reducible rfl
       rotate_left
       ·simp only [Act.put,e0_,e1_,e2_,i64_w,i32_w]
        rfl
       refine pure_ (i:=4) (N:=some 32) (v:=?_) (a':=?_) B5_ rfl rfl (any_of HT_.out (by kernel_rfl)) (fun _ _ _ h=>h) (Or.inl ⟨(by rfl),?_⟩) ?_ ?_
       rotate_left
       ·intro w'
        go_simp
        with_reducible rfl
       rotate_left
       ·simp only [Act.put,e0_,e1_,e2_,i64_w,i32_w]
        rfl
       refine pure_ (i:=5) (N:=some 33) (v:=?_) (a':=?_) B6_ rfl rfl (any_of HT_.out (by kernel_rfl)) (fun _ _ _ h=>h) (Or.inl ⟨(by rfl),?_⟩) ?_ ?_
       rotate_left
       ·intro w'
        go_simp
        with_reducible rfl
       rotate_left
       ·simp only [Act.put,e0_,e1_,e2_,i64_w,i32_w]
        rfl
       refine pure_ (i:=6) (N:=some 34) (v:=undef) (a':=?_) B7_ rfl rfl (any_of HT_.out (by kernel_rfl)) (fun _ _ _ h=>h) (Or.inr ⟨(by rfl),rfl⟩) ?_ ?_
       rotate_left
       ·simp only [Act.put,e0_,e1_,e2_,i64_w,i32_w]
        rfl
       refine pure_ (i:=7) (N:=some 35) (v:=undef) (a':=?_) #[true,true,true,true,true,true,true,true,false,false,false,false,false,false,false,false,false,false,false,false,false,false,false,false,false,false,false,false,false,false,false,false,false,false,false,false,false,false,false,false] rfl rfl (any_of HT_.out (by kernel_rfl)) (fun _ _ _ h=>h) (Or.inr ⟨(by rfl),rfl⟩) ?_ ?_
       rotate_left
       ·simp only [Act.put,e0_,e1_,e2_,i64_w,i32_w]
        rfl
       refine pure_ (i:=8) (N:=some 36) (v:=undef) (a':=?_) B9_ rfl rfl (any_of HT_.out (by kernel_rfl)) (fun _ _ _ h=>h) (Or.inr ⟨(by rfl),rfl⟩) ?_ ?_
       rotate_left
       ·simp only [Act.put,e0_,e1_,e2_,i64_w,i32_w]
        rfl
       refine pure_ (i:=9) (N:=some 37) (v:=undef) (a':=?_) B10_ rfl rfl (any_of HT_.out (by kernel_rfl)) (fun _ _ _ h=>h) (Or.inr ⟨(by rfl),rfl⟩) ?_ ?_
       rotate_left
       ·simp only [Act.put,e0_,e1_,e2_,i64_w,i32_w]
        rfl
       refine pure_ (i:=10) (N:=some 38) (v:=undef) (a':=?_) B11_ rfl rfl (any_of HT_.out (by kernel_rfl)) (fun _ _ _ h=>h) (Or.inr ⟨(by rfl),rfl⟩) ?_ ?_
       rotate_left
       ·simp only [Act.put,e0_,e1_,e2_,i64_w,i32_w]
        rfl
       refine pure_ (i:=11) (N:=some 39) (v:=?_) (a':=?_) B12_ rfl rfl (any_of HT_.out (by kernel_rfl)) (fun _ _ _ h=>h) (Or.inl ⟨(by rfl),?_⟩) ?_ ?_
       rotate_left
       ·intro w'
        go_simp
        with_reducible rfl
       rotate_left
       ·simp only [Act.put,e0_,e1_,e2_,i64_w,i32_w]
        rfl
       refine pure_ (i:=12) (N:=some 40) (v:=?_) (a':=?_) B13_ rfl rfl (any_of HT_.out (by kernel_rfl)) (fun _ _ _ h=>h) (Or.inl ⟨(by rfl),?_⟩) ?_ ?_
       rotate_left
       ·intro w'
        go_simp
        with_reducible rfl
       rotate_left
       ·simp only [Act.put,e0_,e1_,e2_,i64_w,i32_w]
        rfl
       refine pure_ (i:=13) (N:=some 41) (v:=undef) (a':=?_) B14_ rfl rfl (any_of HT_.out (by kernel_rfl)) (fun _ _ _ h=>h) (Or.inr ⟨(by rfl),rfl⟩) ?_ ?_
       rotate_left
       ·simp only [Act.put,e0_,e1_,e2_,i64_w,i32_w]
        rfl
       refine pure_ (i:=14) (N:=some 42) (v:=undef) (a':=?_) B43_ rfl rfl (any_of HT_.out (by kernel_rfl)) (fun _ _ _ h=>h) (Or.inr ⟨(by rfl),rfl⟩) ?_ ?_
       rotate_left
       ·simp only [Act.put,e0_,e1_,e2_,i64_w,i32_w]
        rfl
       refine pure_ (i:=15) (N:=some 43) (v:=undef) (a':=?_) B16_ rfl rfl (any_of HT_.out (by kernel_rfl)) (fun _ _ _ h=>h) (Or.inr ⟨(by rfl),rfl⟩) ?_ ?_
       rotate_left
       ·simp only [Act.put,e0_,e1_,e2_,i64_w,i32_w]
        rfl
       refine pure_ (i:=16) (N:=some 44) (v:=undef) (a':=?_) B17_ rfl rfl (any_of HT_.out (by kernel_rfl)) (fun _ _ _ h=>h) (Or.inr ⟨(by rfl),rfl⟩) ?_ ?_
       rotate_left
       ·simp only [Act.put,e0_,e1_,e2_,i64_w,i32_w]
        rfl
       refine pure_ (i:=17) (N:=some 45) (v:=undef) (a':=?_) B18_ rfl rfl (any_of HT_.out (by kernel_rfl)) (fun _ _ _ h=>h) (Or.inr ⟨(by rfl),rfl⟩) ?_ ?_
       rotate_left
       ·simp only [Act.put,e0_,e1_,e2_,i64_w,i32_w]
        rfl
       refine pure_ (i:=18) (N:=some 46) (v:=?_) (a':=?_) B19_ rfl rfl (any_of HT_.out (by kernel_rfl)) (fun _ _ _ h=>h) (Or.inl ⟨(by rfl),?_⟩) ?_ ?_
       rotate_left
       ·intro w'
        go_simp
        with_reducible rfl
       rotate_left
       ·simp only [Act.put,e0_,e1_,e2_,i64_w,i32_w]
        rfl
       refine pure_ (i:=19) (N:=some 47) (v:=?_) (a':=?_) B20_ rfl rfl (any_of HT_.out (by kernel_rfl)) (fun _ _ _ h=>h) (Or.inl ⟨(by rfl),?_⟩) ?_ ?_
       rotate_left
       ·intro w'
        go_simp
        with_reducible rfl
       rotate_left
       ·simp only [Act.put,e0_,e1_,e2_,i64_w,i32_w]
        rfl
       refine pure_ (i:=20) (N:=some 48) (v:=undef) (a':=?_) B21_ rfl rfl (any_of HT_.out (by kernel_rfl)) (fun _ _ _ h=>h) (Or.inr ⟨(by rfl),rfl⟩) ?_ ?_
       rotate_left
       ·simp only [Act.put,e0_,e1_,e2_,i64_w,i32_w]
        rfl
       refine pure_ (i:=21) (N:=some 49) (v:=undef) (a':=?_) B22_ rfl rfl (any_of HT_.out (by kernel_rfl)) (fun _ _ _ h=>h) (Or.inr ⟨(by rfl),rfl⟩) ?_ ?_
       rotate_left
       ·simp only [Act.put,e0_,e1_,e2_,i64_w,i32_w]
        rfl
       refine pure_ (i:=22) (N:=some 50) (v:=undef) (a':=?_) B23_ rfl rfl (any_of HT_.out (by kernel_rfl)) (fun _ _ _ h=>h) (Or.inr ⟨(by rfl),rfl⟩) ?_ ?_
       rotate_left
       ·simp only [Act.put,e0_,e1_,e2_,i64_w,i32_w]
        rfl
       refine pure_ (i:=23) (N:=some 51) (v:=undef) (a':=?_) B24_ rfl rfl (any_of HT_.out (by kernel_rfl)) (fun _ _ _ h=>h) (Or.inr ⟨(by rfl),rfl⟩) ?_ ?_
       rotate_left
       ·simp only [Act.put,e0_,e1_,e2_,i64_w,i32_w]
        rfl
       refine pure_ (i:=24) (N:=some 52) (v:=undef) (a':=?_) B25_ rfl rfl (any_of HT_.out (by kernel_rfl)) (fun _ _ _ h=>h) (Or.inr ⟨(by rfl),rfl⟩) ?_ ?_
       rotate_left
       ·simp only [Act.put,e0_,e1_,e2_,i64_w,i32_w]
        rfl
       refine pure_ (i:=25) (N:=some 53) (v:=?_) (a':=?_) B26_ rfl rfl (any_of HT_.out (by kernel_rfl)) (fun _ _ _ h=>h) (Or.inl ⟨(by rfl),?_⟩) ?_ ?_
       rotate_left
       ·intro w'
        go_simp
        with_reducible rfl
       rotate_left
       ·simp only [Act.put,e0_,e1_,e2_,i64_w,i32_w]
        rfl
       refine pure_ (i:=26) (N:=some 54) (v:=?_) (a':=?_) B27_ rfl rfl (any_of HT_.out (by kernel_rfl)) (fun _ _ _ h=>h) (Or.inl ⟨(by rfl),?_⟩) ?_ ?_
       rotate_left
       ·intro w'
        go_simp
        with_reducible rfl
       rotate_left
       ·simp only [Act.put,e0_,e1_,e2_,i64_w,i32_w]
        rfl
       refine pure_ (i:=27) (N:=some 55) (v:=undef) (a':=?_) B28_ rfl rfl (any_of HT_.out (by kernel_rfl)) (fun _ _ _ h=>h) (Or.inr ⟨(by rfl),rfl⟩) ?_ ?_
       rotate_left
       ·simp only [Act.put,e0_,e1_,e2_,i64_w,i32_w]
        rfl
       refine pure_ (i:=28) (N:=some 56) (v:=undef) (a':=?_) B29_ rfl rfl (any_of HT_.out (by kernel_rfl)) (fun _ _ _ h=>h) (Or.inr ⟨(by rfl),rfl⟩) ?_ ?_
       rotate_left
       ·simp only [Act.put,e0_,e1_,e2_,i64_w,i32_w]
        rfl
       refine pure_ (i:=29) (N:=some 57) (v:=undef) (a':=?_) B30_ rfl rfl (any_of HT_.out (by kernel_rfl)) (fun _ _ _ h=>h) (Or.inr ⟨(by rfl),rfl⟩) ?_ ?_
       rotate_left
       ·simp only [Act.put,e0_,e1_,e2_,i64_w,i32_w]
        rfl
       refine pure_ (i:=30) (N:=some 58) (v:=undef) (a':=?_) B31_ rfl rfl (any_of HT_.out (by kernel_rfl)) (fun _ _ _ h=>h) (Or.inr ⟨(by rfl),rfl⟩) ?_ ?_
       rotate_left
       ·simp only [Act.put,e0_,e1_,e2_,i64_w,i32_w]
        rfl
       refine pure_ (i:=31) (N:=some 59) (v:=undef) (a':=?_) B32_ rfl rfl (any_of HT_.out (by kernel_rfl)) (fun _ _ _ h=>h) (Or.inr ⟨(by rfl),rfl⟩) ?_ ?_
       rotate_left
       ·simp only [Act.put,e0_,e1_,e2_,i64_w,i32_w]
        rfl
       refine pure_ (i:=32) (N:=some 60) (v:=?_) (a':=?_) B33_ rfl rfl (any_of HT_.out (by kernel_rfl)) (fun _ _ _ h=>h) (Or.inl ⟨(by rfl),?_⟩) ?_ ?_
       rotate_left
       ·intro w'
        go_simp
        with_reducible rfl
       rotate_left
       ·simp only [Act.put,e0_,e1_,e2_,i64_w,i32_w]
        rfl
       refine pure_ (i:=33) (N:=some 61) (v:=?_) (a':=?_) B34_ rfl rfl (any_of HT_.out (by kernel_rfl)) (fun _ _ _ h=>h) (Or.inl ⟨(by rfl),?_⟩) ?_ ?_
       rotate_left
       ·intro w'
        go_simp
        with_reducible rfl
       rotate_left
       ·simp only [Act.put,e0_,e1_,e2_,i64_w,i32_w]
        rfl
       refine pure_ (i:=34) (N:=some 62) (v:=undef) (a':=?_) B35_ rfl rfl (any_of HT_.out (by kernel_rfl)) (fun _ _ _ h=>h) (Or.inr ⟨(by rfl),rfl⟩) ?_ ?_
       rotate_left
       ·simp only [Act.put,e0_,e1_,e2_,i64_w,i32_w]
        rfl
       refine pure_ (i:=35) (N:=some 63) (v:=undef) (a':=?_) B36_ rfl rfl (any_of HT_.out (by kernel_rfl)) (fun _ _ _ h=>h) (Or.inr ⟨(by rfl),rfl⟩) ?_ ?_
       rotate_left
       ·simp only [Act.put,e0_,e1_,e2_,i64_w,i32_w]
        rfl
       refine pure_ (i:=36) (N:=some 64) (v:=undef) (a':=?_) B37_ rfl rfl (any_of HT_.out (by kernel_rfl)) (fun _ _ _ h=>h) (Or.inr ⟨(by rfl),rfl⟩) ?_ ?_
       rotate_left
       ·simp only [Act.put,e0_,e1_,e2_,i64_w,i32_w]
        rfl
       refine pure_ (i:=37) (N:=some 65) (v:=undef) (a':=?_) B38_ rfl rfl (any_of HT_.out (by kernel_rfl)) (fun _ _ _ h=>h) (Or.inr ⟨(by rfl),rfl⟩) ?_ ?_
       rotate_left
       ·simp only [Act.put,e0_,e1_,e2_,i64_w,i32_w]
        rfl
       refine pure_ (i:=38) (N:=some 66) (v:=undef) (a':=?_) B39_ rfl rfl (any_of HT_.out (by kernel_rfl)) (fun _ _ _ h=>h) (Or.inr ⟨(by rfl),rfl⟩) ?_ ?_
       rotate_left
       ·simp only [Act.put,e0_,e1_,e2_,i64_w,i32_w]
        rfl
       refine pure_ (i:=39) (N:=some 67) (v:=?_) (a':=?_) B40_ rfl rfl (any_of HT_.out (by kernel_rfl)) (fun _ _ _ h=>h) (Or.inl ⟨(by rfl),?_⟩) ?_ ?_
       rotate_left
       ·intro w'
        go_simp
        with_reducible rfl
       rotate_left
       ·simp only [Act.put,e0_,e1_,e2_,i64_w,i32_w]
        rfl
       refine done_ (done_of HT_.out (by kernel_rfl)) ?_
       try go_wp2
       go_meet
       case rel=>exact ⟨_,(true),q15_,H',⟨q16_⟩,⟨q1_⟩,⟨q3_⟩,⟨q4_⟩,⟨q5_⟩,⟨q0_⟩⟩
     case rest =>
      clear HC17
      try clear p2
      try clear c3
      try clear c35
      try clear c35b0
      try clear c35b1
      try clear c36
      try clear c36b0
      try clear c36b1
      obtain ⟨kq,x67_16,rfl,HA,HJ16,BK101,BK104,BK108,BK112,HB⟩:=hcut
      cases kq with
      | zero=>exact absurd HA.out (by simp [polyglotlaw02_DecSigns.j1])
      | succ kj16 =>
       have H:=HA.out
       clear HA
       simp only [polyglotlaw02_DecSigns.j1] at H
       by_cases c70 : x67_16 = true
       ·subst c70
        have H1 : (some false) = some r:=by rw [if_pos rfl] at H;exact H
        clear H
        have H:=H1
        clear H1
        obtain rfl:=Option.some.inj H
        go_wp2
        go_ret
        exact ⟨q11_,q0_⟩
       ·replace c70:=Bool.eq_false_iff.mpr c70
        subst c70
        have H1 : ((dec_Dec_Zero.f a0_0 a0_1 a0_2).bind fun t119=>(if t119 = true then ((dec_Dec_Compare.f kj16 a0_0 a0_1 a0_2 (!a0_0) a0_1 a0_2).bind fun t120=>(if t120 = 0 then (some true) else ((dec_Dec_Zero.f a0_0 a0_1 a0_2).bind fun t121=>(if t121 = true then (some false) else ((dec_Dec_Compare.f kj16 a0_0 a0_1 a0_2 (!a0_0) a0_1 a0_2).bind fun t122=>((dec_Dec_Compare.f kj16 (!a0_0) a0_1 a0_2 a0_0 a0_1 a0_2).bind fun t123=>(if t122 = (wrap64 (-t123)) then ((dec_Dec_Compare.f kj16 a0_0 a0_1 a0_2 (!a0_0) a0_1 a0_2).bind fun t124=>(some (t124 != 0))) else (some false)))))))) else ((dec_Dec_Zero.f a0_0 a0_1 a0_2).bind fun t125=>(if t125 = true then (some false) else ((dec_Dec_Compare.f kj16 a0_0 a0_1 a0_2 (!a0_0) a0_1 a0_2).bind fun t126=>((dec_Dec_Compare.f kj16 (!a0_0) a0_1 a0_2 a0_0 a0_1 a0_2).bind fun t127=>(if t126 = (wrap64 (-t127)) then ((dec_Dec_Compare.f kj16 a0_0 a0_1 a0_2 (!a0_0) a0_1 a0_2).bind fun t128=>(some (t128 != 0))) else (some false)))))))) = some r:=by rw [if_neg (show ¬ (false = true) by decide)] at H;exact H
        clear H
        have H:=H1
        clear H1
        replace H:=Option.bind_eq_some_iff.mp H
        obtain ⟨t119,A710,H⟩:=H
        replace H : (if t119 = true then ((dec_Dec_Compare.f kj16 a0_0 a0_1 a0_2 (!a0_0) a0_1 a0_2).bind fun t120=>(if t120 = 0 then (some true) else ((dec_Dec_Zero.f a0_0 a0_1 a0_2).bind fun t121=>(if t121 = true then (some false) else ((dec_Dec_Compare.f kj16 a0_0 a0_1 a0_2 (!a0_0) a0_1 a0_2).bind fun t122=>((dec_Dec_Compare.f kj16 (!a0_0) a0_1 a0_2 a0_0 a0_1 a0_2).bind fun t123=>(if t122 = (wrap64 (-t123)) then ((dec_Dec_Compare.f kj16 a0_0 a0_1 a0_2 (!a0_0) a0_1 a0_2).bind fun t124=>(some (t124 != 0))) else (some false)))))))) else ((dec_Dec_Zero.f a0_0 a0_1 a0_2).bind fun t125=>(if t125 = true then (some false) else ((dec_Dec_Compare.f kj16 a0_0 a0_1 a0_2 (!a0_0) a0_1 a0_2).bind fun t126=>((dec_Dec_Compare.f kj16 (!a0_0) a0_1 a0_2 a0_0 a0_1 a0_2).bind fun t127=>(if t126 = (wrap64 (-t127)) then ((dec_Dec_Compare.f kj16 a0_0 a0_1 a0_2 (!a0_0) a0_1 a0_2).bind fun t128=>(some (t128 != 0))) else (some false))))))) = some r:=H
        have A71:=Aside0.mk A710
        clear A710
        by_cases c72 : t119 = true
        ·subst c72
         have H1 : ((dec_Dec_Compare.f kj16 a0_0 a0_1 a0_2 (!a0_0) a0_1 a0_2).bind fun t120=>(if t120 = 0 then (some true) else ((dec_Dec_Zero.f a0_0 a0_1 a0_2).bind fun t121=>(if t121 = true then (some false) else ((dec_Dec_Compare.f kj16 a0_0 a0_1 a0_2 (!a0_0) a0_1 a0_2).bind fun t122=>((dec_Dec_Compare.f kj16 (!a0_0) a0_1 a0_2 a0_0 a0_1 a0_2).bind fun t123=>(if t122 = (wrap64 (-t123)) then ((dec_Dec_Compare.f kj16 a0_0 a0_1 a0_2 (!a0_0) a0_1 a0_2).bind fun t124=>(some (t124 != 0))) else (some false)))))))) = some r:=by rw [if_pos rfl] at H;exact H
         clear H
         have H:=H1
         clear H1
         replace H:=Option.bind_eq_some_iff.mp H
         obtain ⟨t120,A730,H⟩:=H
         replace H : (if t120 = 0 then (some true) else ((dec_Dec_Zero.f a0_0 a0_1 a0_2).bind fun t121=>(if t121 = true then (some false) else ((dec_Dec_Compare.f kj16 a0_0 a0_1 a0_2 (!a0_0) a0_1 a0_2).bind fun t122=>((dec_Dec_Compare.f kj16 (!a0_0) a0_1 a0_2 a0_0 a0_1 a0_2).bind fun t123=>(if t122 = (wrap64 (-t123)) then ((dec_Dec_Compare.f kj16 a0_0 a0_1 a0_2 (!a0_0) a0_1 a0_2).bind fun t124=>(some (t124 != 0))) else (some false))))))) = some r:=H
         have A73:=Aside0.mk A730
         clear A730
         by_cases c74 : t120 = 0
         ·rw [if_pos c74] at H
          have c74b0 : (t120 == 0) = true:=beq_iff_eq.mpr c74
          have c74b1 : (t120 != 0) = false:=bne_eq_false_iff_eq.mpr c74
          clear c74
          obtain rfl:=Option.some.inj H
          try go_wp2
          replace BK101:=Aside0.mk (blk_drew BK101.out)
          replace BK104:=Aside0.mk (blk_drew BK104.out)
          replace BK108:=Aside0.mk (blk_drew BK108.out)
          replace BK112:=Aside0.mk (blk_drew BK112.out)
          replace HB:=Aside0.mk (below_drew1 HB.out)
          refine start_ (n:=30) (S:=fun w'=>w'.cell? ⟨gb101,0,none⟩ = some (.bool a0_0) ∧ w'.cell? ⟨gb101,1,none⟩ = some (.string a0_1) ∧ w'.cell? ⟨gb101,2,none⟩ = some (.int .i64 a0_2) ∧ w'.cell? ⟨gb104,0,none⟩ = some (.bool (!a0_0)) ∧ w'.cell? ⟨gb104,1,none⟩ = some (.string a0_1) ∧ w'.cell? ⟨gb104,2,none⟩ = some (.int .i64 a0_2)) (ds:=[]) B44_ (by kernel_rfl) rfl rfl ⟨(blk_cell BK101.out 0).trans rfl,(blk_cell BK101.out 1).trans rfl,(blk_cell BK101.out 2).trans rfl,(blk_cell BK104.out 0).trans rfl,(blk_cell BK104.out 1).trans rfl,(blk_cell BK104.out 2).trans rfl⟩ (fun hHeld=>?_);refine with_tabW polyglotlaw02_DecSigns.tab11 polyglotlaw02_DecSigns.bits11 (fun HT_ HW_=>?_)
          generalize wc.drew = w75 at BK101 BK104 BK108 BK112 HB hHeld ⊢
          refine take_ (i:=0) (N:=some 68) (v:=?_) (a':=?_) B45_ rfl rfl (take_ofW HT_.out HW_.out (by kernel_rfl)) (fun _ _ _ h=>h) (Or.inl ⟨(by rfl),?_⟩) hHeld ?_ ?_
          rotate_left
          ·rintro w' ⟨s0,s1,s2,s3,s4,s5⟩
           go_simp
           with_reducible rfl
          rotate_left
          ·simp only [Act.put,e0_,e1_,e2_,i64_w,i32_w]
           rfl
          refine one_ (i:=1) (N:=some 69) B46_ rfl rfl (one_of HT_.out (by kernel_rfl)) (by decide) (fun K hK=>?_)
          refine goes_ Tryd.func32 (by kernel_rfl) rfl #[.agg #[.bool a0_0,.string a0_1,.int .i64 a0_2]] (by rfl) rfl rfl q2_ ?_
          with_reducible refine (dec_Dec_Zero.calls a0_0 a0_1 a0_2 true _ A71.out).mono ?_
          rintro e w76 ⟨rfl,hb⟩
          refine ⟨_,rfl,?_⟩
          replace BK101:=Aside0.mk (blk_below (g:=gb101) (o:=.cells #[.bool a0_0,.string a0_1,.int .i64 a0_2] 23 (0,0)) q1_ hb)
          replace BK104:=Aside0.mk (blk_below (g:=gb104) (o:=.cells #[.bool (!a0_0),.string a0_1,.int .i64 a0_2] 23 (0,0)) q3_ hb)
          replace BK108:=Aside0.mk (blk_below (g:=gb108) (o:=.cells #[.bool t105,.string t106,.int .i64 t107] 23 (0,0)) q4_ hb)
          replace BK112:=Aside0.mk (blk_below (g:=gb112) (o:=.cells #[.bool t109,.string t110,.int .i64 t111] 23 (0,0)) q5_ hb)
          replace HB:=Aside0.mk (below_step q0_ hb)
          (try clear hb)
          (try clear hb2)
          (try clear hk)
          (try clear hi)
          refine hK.out _ _ ⟨(blk_cell BK101.out 0).trans rfl,(blk_cell BK101.out 1).trans rfl,(blk_cell BK101.out 2).trans rfl,(blk_cell BK104.out 0).trans rfl,(blk_cell BK104.out 1).trans rfl,(blk_cell BK104.out 2).trans rfl⟩ (fun hHeld=>?_)
          clear hK K
          refine norm_ (a':=?_) ?_ ?_
          rotate_left
          ·show Act.put _ (some 69) _ = _
           simp only [Act.put,e0_,e1_,e2_,i64_w,i32_w]
           rfl
          refine pure_ (i:=2) (N:=some 70) (v:=?_) (a':=?_) B47_ rfl rfl (any_of HT_.out (by kernel_rfl)) (fun _ _ _ h=>h) (Or.inl ⟨(by rfl),?_⟩) ?_ ?_
          rotate_left
          ·intro w'
           go_simp
           with_reducible rfl
          rotate_left
          ·simp only [Act.put,e0_,e1_,e2_,i64_w,i32_w]
           rfl
          refine take_ (i:=3) (N:=some 71) (v:=?_) (a':=?_) B48_ rfl rfl (take_ofW HT_.out HW_.out (by kernel_rfl)) (fun _ _ _ h=>h) (Or.inl ⟨(by rfl),?_⟩) hHeld ?_ ?_
          rotate_left
          ·rintro w' ⟨s0,s1,s2,s3,s4,s5⟩
           go_simp
           with_reducible rfl
          rotate_left
          ·simp only [Act.put,e0_,e1_,e2_,i64_w,i32_w]
           rfl
          refine take_ (i:=4) (N:=some 72) (v:=?_) (a':=?_) B49_ rfl rfl (take_ofW HT_.out HW_.out (by kernel_rfl)) (fun _ _ _ h=>h) (Or.inl ⟨(by rfl),?_⟩) hHeld ?_ ?_
          rotate_left
          ·rintro w' ⟨s0,s1,s2,s3,s4,s5⟩
           go_simp
           with_reducible rfl
          rotate_left
          ·simp only [Act.put,e0_,e1_,e2_,i64_w,i32_w]
           rfl
          refine one_ (i:=5) (N:=some 73) B50_ rfl rfl (one_of HT_.out (by kernel_rfl)) (by decide) (fun K hK=>?_)
          refine goes_ Tryd.func48 (by kernel_rfl) rfl #[.agg #[.bool a0_0,.string a0_1,.int .i64 a0_2],.agg #[.bool (!a0_0),.string a0_1,.int .i64 a0_2]] (by rfl) rfl rfl q2_ ?_
          with_reducible refine (dec_Dec_Compare.calls kj16 a0_0 a0_1 a0_2 (!a0_0) a0_1 a0_2 t120 _ A73.out).mono ?_
          rintro e w77 ⟨rfl,hb⟩
          refine ⟨_,rfl,?_⟩
          replace BK101:=Aside0.mk (blk_below (g:=gb101) (o:=.cells #[.bool a0_0,.string a0_1,.int .i64 a0_2] 23 (0,0)) q1_ hb)
          replace BK104:=Aside0.mk (blk_below (g:=gb104) (o:=.cells #[.bool (!a0_0),.string a0_1,.int .i64 a0_2] 23 (0,0)) q3_ hb)
          replace BK108:=Aside0.mk (blk_below (g:=gb108) (o:=.cells #[.bool t105,.string t106,.int .i64 t107] 23 (0,0)) q4_ hb)
          replace BK112:=Aside0.mk (blk_below (g:=gb112) (o:=.cells #[.bool t109,.string t110,.int .i64 t111] 23 (0,0)) q5_ hb)
          replace HB:=Aside0.mk (below_step q0_ hb)
          (try clear hb)
          (try clear hb2)
          (try clear hk)
          (try clear hi)
          refine hK.out _ _ ⟨(blk_cell BK101.out 0).trans rfl,(blk_cell BK101.out 1).trans rfl,(blk_cell BK101.out 2).trans rfl,(blk_cell BK104.out 0).trans rfl,(blk_cell BK104.out 1).trans rfl,(blk_cell BK104.out 2).trans rfl⟩ (fun hHeld=>?_)
          clear hK K
          refine norm_ (a':=?_) ?_ ?_
          rotate_left
          ·show Act.put _ (some 73) _ = _
           simp only [Act.put,e0_,e1_,e2_,i64_w,i32_w]
           rfl
          refine pure_ (i:=6) (N:=some 74) (v:=?_) (a':=?_) B51_ rfl rfl (any_of HT_.out (by kernel_rfl)) (fun _ _ _ h=>h) (Or.inl ⟨(by rfl),?_⟩) ?_ ?_
          rotate_left
          ·intro w'
           go_simp
           with_reducible rfl
          rotate_left
          ·simp only [Act.put,e0_,e1_,e2_,i64_w,i32_w]
           rfl
          refine pure_ (i:=7) (N:=some 75) (v:=?_) (a':=?_) B52_ rfl rfl (any_of HT_.out (by kernel_rfl)) (fun _ _ _ h=>h) (Or.inl ⟨(by rfl),?_⟩) ?_ ?_
          rotate_left
          ·intro w'
           go_simp
           with_reducible rfl
          rotate_left
          ·simp only [Act.put,e0_,e1_,e2_,i64_w,i32_w]
           rfl
          refine pure_ (i:=8) (N:=some 76) (v:=?_) (a':=?_) B53_ rfl rfl (any_of HT_.out (by kernel_rfl)) (fun _ _ _ h=>h) (Or.inl ⟨(by rfl),?_⟩) ?_ ?_
          rotate_left
          ·intro w'
           go_simp
           with_reducible rfl
          rotate_left
          ·simp only [Act.put,e0_,e1_,e2_,i64_w,i32_w]
           rfl
          refine pure_ (i:=9) (N:=some 77) (v:=undef) (a':=?_) B54_ rfl rfl (any_of HT_.out (by kernel_rfl)) (fun _ _ _ h=>h) (Or.inr ⟨(by rfl),rfl⟩) ?_ ?_
          rotate_left
          ·simp only [Act.put,e0_,e1_,e2_,i64_w,i32_w]
           rfl
          refine pure_ (i:=10) (N:=some 78) (v:=undef) (a':=?_) B55_ rfl rfl (any_of HT_.out (by kernel_rfl)) (fun _ _ _ h=>h) (Or.inr ⟨(by rfl),rfl⟩) ?_ ?_
          rotate_left
          ·simp only [Act.put,e0_,e1_,e2_,i64_w,i32_w]
           rfl
          refine pure_ (i:=11) (N:=some 79) (v:=undef) (a':=?_) B56_ rfl rfl (any_of HT_.out (by kernel_rfl)) (fun _ _ _ h=>h) (Or.inr ⟨(by rfl),rfl⟩) ?_ ?_
          rotate_left
          ·simp only [Act.put,e0_,e1_,e2_,i64_w,i32_w]
           rfl
          refine pure_ (i:=12) (N:=some 80) (v:=undef) (a':=?_) B57_ rfl rfl (any_of HT_.out (by kernel_rfl)) (fun _ _ _ h=>h) (Or.inr ⟨(by rfl),rfl⟩) ?_ ?_
          rotate_left
          ·simp only [Act.put,e0_,e1_,e2_,i64_w,i32_w]
           rfl
          refine pure_ (i:=13) (N:=some 81) (v:=undef) (a':=?_) B58_ rfl rfl (any_of HT_.out (by kernel_rfl)) (fun _ _ _ h=>h) (Or.inr ⟨(by rfl),rfl⟩) ?_ ?_
          rotate_left
          ·simp only [Act.put,e0_,e1_,e2_,i64_w,i32_w]
           rfl
          refine pure_ (i:=14) (N:=some 82) (v:=undef) (a':=?_) B59_ rfl rfl (any_of HT_.out (by kernel_rfl)) (fun _ _ _ h=>h) (Or.inr ⟨(by rfl),rfl⟩) ?_ ?_
          rotate_left
          ·simp only [Act.put,e0_,e1_,e2_,i64_w,i32_w]
           rfl
          refine pure_ (i:=15) (N:=some 83) (v:=undef) (a':=?_) B60_ rfl rfl (any_of HT_.out (by kernel_rfl)) (fun _ _ _ h=>h) (Or.inr ⟨(by rfl),rfl⟩) ?_ ?_
          rotate_left
          ·simp only [Act.put,e0_,e1_,e2_,i64_w,i32_w]
           rfl
          refine pure_ (i:=16) (N:=some 84) (v:=undef) (a':=?_) B61_ rfl rfl (any_of HT_.out (by kernel_rfl)) (fun _ _ _ h=>h) (Or.inr ⟨(by rfl),rfl⟩) ?_ ?_
          rotate_left
          ·simp only [Act.put,e0_,e1_,e2_,i64_w,i32_w]
           rfl
          refine pure_ (i:=17) (N:=some 85) (v:=undef) (a':=?_) B62_ rfl rfl (any_of HT_.out (by kernel_rfl)) (fun _ _ _ h=>h) (Or.inr ⟨(by rfl),rfl⟩) ?_ ?_
          rotate_left
          ·simp only [Act.put,e0_,e1_,e2_,i64_w,i32_w]
           rfl
          refine pure_ (i:=18) (N:=some 86) (v:=undef) (a':=?_) B63_ rfl rfl (any_of HT_.out (by kernel_rfl)) (fun _ _ _ h=>h) (Or.inr ⟨(by rfl),rfl⟩) ?_ ?_
          rotate_left
          ·simp only [Act.put,e0_,e1_,e2_,i64_w,i32_w]
           rfl
          refine pure_ (i:=19) (N:=some 87) (v:=undef) (a':=?_) B64_ rfl rfl (any_of HT_.out (by kernel_rfl)) (fun _ _ _ h=>h) (Or.inr ⟨(by rfl),rfl⟩) ?_ ?_
          rotate_left
          ·simp only [Act.put,e0_,e1_,e2_,i64_w,i32_w]
           rfl
          refine pure_ (i:=20) (N:=some 88) (v:=undef) (a':=?_) B65_ rfl rfl (any_of HT_.out (by kernel_rfl)) (fun _ _ _ h=>h) (Or.inr ⟨(by rfl),rfl⟩) ?_ ?_
          rotate_left
          ·simp only [Act.put,e0_,e1_,e2_,i64_w,i32_w]
           rfl
          refine pure_ (i:=21) (N:=some 89) (v:=undef) (a':=?_) B66_ rfl rfl (any_of HT_.out (by kernel_rfl)) (fun _ _ _ h=>h) (Or.inr ⟨(by rfl),rfl⟩) ?_ ?_
          rotate_left
          ·simp only [Act.put,e0_,e1_,e2_,i64_w,i32_w]
           rfl
          refine pure_ (i:=22) (N:=some 90) (v:=undef) (a':=?_) B67_ rfl rfl (any_of HT_.out (by kernel_rfl)) (fun _ _ _ h=>h) (Or.inr ⟨(by rfl),rfl⟩) ?_ ?_
          rotate_left
          ·simp only [Act.put,e0_,e1_,e2_,i64_w,i32_w]
           rfl
          refine pure_ (i:=23) (N:=some 91) (v:=undef) (a':=?_) B68_ rfl rfl (any_of HT_.out (by kernel_rfl)) (fun _ _ _ h=>h) (Or.inr ⟨(by rfl),rfl⟩) ?_ ?_
          rotate_left
          ·simp only [Act.put,e0_,e1_,e2_,i64_w,i32_w]
           rfl
          refine pure_ (i:=24) (N:=some 92) (v:=undef) (a':=?_) B69_ rfl rfl (any_of HT_.out (by kernel_rfl)) (fun _ _ _ h=>h) (Or.inr ⟨(by rfl),rfl⟩) ?_ ?_
          rotate_left
          ·simp only [Act.put,e0_,e1_,e2_,i64_w,i32_w]
           rfl
          refine pure_ (i:=25) (N:=some 93) (v:=undef) (a':=?_) B70_ rfl rfl (any_of HT_.out (by kernel_rfl)) (fun _ _ _ h=>h) (Or.inr ⟨(by rfl),rfl⟩) ?_ ?_
          rotate_left
          ·simp only [Act.put,e0_,e1_,e2_,i64_w,i32_w]
           rfl
          refine pure_ (i:=26) (N:=some 94) (v:=undef) (a':=?_) B71_ rfl rfl (any_of HT_.out (by kernel_rfl)) (fun _ _ _ h=>h) (Or.inr ⟨(by rfl),rfl⟩) ?_ ?_
          rotate_left
          ·simp only [Act.put,e0_,e1_,e2_,i64_w,i32_w]
           rfl
          refine pure_ (i:=27) (N:=some 95) (v:=undef) (a':=?_) B72_ rfl rfl (any_of HT_.out (by kernel_rfl)) (fun _ _ _ h=>h) (Or.inr ⟨(by rfl),rfl⟩) ?_ ?_
          rotate_left
          ·simp only [Act.put,e0_,e1_,e2_,i64_w,i32_w]
           rfl
          refine pure_ (i:=28) (N:=some 96) (v:=?_) (a':=?_) B73_ rfl rfl (any_of HT_.out (by kernel_rfl)) (fun _ _ _ h=>h) (Or.inl ⟨(by rfl),?_⟩) ?_ ?_
          rotate_left
          ·intro w'
           go_simp
           with_reducible rfl
          rotate_left
          ·simp only [Act.put,e0_,e1_,e2_,i64_w,i32_w]
           rfl
          refine pure_ (i:=29) (N:=some 4) (v:=?_) (a':=?_) B74_ rfl rfl (any_of HT_.out (by kernel_rfl)) (fun _ _ _ h=>h) (Or.inl ⟨(by rfl),?_⟩) ?_ ?_
          rotate_left
          ·intro w'
           go_simp
           with_reducible rfl
          rotate_left
          ·simp only [Act.put,e0_,e1_,e2_,i64_w,i32_w]
           rfl
          refine done_ (done_of HT_.out (by kernel_rfl)) ?_
          try go_wp2
          go_ret
          exact ⟨q11_,q0_⟩
         ·rw [if_neg c74] at H
          have c74b0 : (t120 == 0) = false:=beq_eq_false_iff_ne.mpr c74
          have c74b1 : (t120 != 0) = true:=bne_iff_ne.mpr c74
          replace H:=Option.bind_eq_some_iff.mp H
          obtain ⟨t121,A780,H⟩:=H
          replace H : (if t121 = true then (some false) else ((dec_Dec_Compare.f kj16 a0_0 a0_1 a0_2 (!a0_0) a0_1 a0_2).bind fun t122=>((dec_Dec_Compare.f kj16 (!a0_0) a0_1 a0_2 a0_0 a0_1 a0_2).bind fun t123=>(if t122 = (wrap64 (-t123)) then ((dec_Dec_Compare.f kj16 a0_0 a0_1 a0_2 (!a0_0) a0_1 a0_2).bind fun t124=>(some (t124 != 0))) else (some false))))) = some r:=H
          have A78:=Aside0.mk A780
          clear A780
          by_cases c79 : t121 = true
          ·subst c79
           have H1 : (some false) = some r:=by rw [if_pos rfl] at H;exact H
           clear H
           have H:=H1
           clear H1
           obtain rfl:=Option.some.inj H
           try go_wp2
           replace BK101:=Aside0.mk (blk_drew BK101.out)
           replace BK104:=Aside0.mk (blk_drew BK104.out)
           replace BK108:=Aside0.mk (blk_drew BK108.out)
           replace BK112:=Aside0.mk (blk_drew BK112.out)
           replace HB:=Aside0.mk (below_drew1 HB.out)
           refine start_ (n:=30) (S:=fun w'=>w'.cell? ⟨gb101,0,none⟩ = some (.bool a0_0) ∧ w'.cell? ⟨gb101,1,none⟩ = some (.string a0_1) ∧ w'.cell? ⟨gb101,2,none⟩ = some (.int .i64 a0_2) ∧ w'.cell? ⟨gb104,0,none⟩ = some (.bool (!a0_0)) ∧ w'.cell? ⟨gb104,1,none⟩ = some (.string a0_1) ∧ w'.cell? ⟨gb104,2,none⟩ = some (.int .i64 a0_2)) (ds:=[]) B44_ (by kernel_rfl) rfl rfl ⟨(blk_cell BK101.out 0).trans rfl,(blk_cell BK101.out 1).trans rfl,(blk_cell BK101.out 2).trans rfl,(blk_cell BK104.out 0).trans rfl,(blk_cell BK104.out 1).trans rfl,(blk_cell BK104.out 2).trans rfl⟩ (fun hHeld=>?_);refine with_tabW polyglotlaw02_DecSigns.tab11 polyglotlaw02_DecSigns.bits11 (fun HT_ HW_=>?_)
           generalize wc.drew = w80 at BK101 BK104 BK108 BK112 HB hHeld ⊢
           refine take_ (i:=0) (N:=some 68) (v:=?_) (a':=?_) B45_ rfl rfl (take_ofW HT_.out HW_.out (by kernel_rfl)) (fun _ _ _ h=>h) (Or.inl ⟨(by rfl),?_⟩) hHeld ?_ ?_
           rotate_left
           ·rintro w' ⟨s0,s1,s2,s3,s4,s5⟩
            go_simp
            with_reducible rfl
           rotate_left
           ·simp only [Act.put,e0_,e1_,e2_,i64_w,i32_w]
            rfl
           refine one_ (i:=1) (N:=some 69) B46_ rfl rfl (one_of HT_.out (by kernel_rfl)) (by decide) (fun K hK=>?_)
           refine goes_ Tryd.func32 (by kernel_rfl) rfl #[.agg #[.bool a0_0,.string a0_1,.int .i64 a0_2]] (by rfl) rfl rfl q2_ ?_
           with_reducible refine (dec_Dec_Zero.calls a0_0 a0_1 a0_2 true _ A71.out).mono ?_
           rintro e w81 ⟨rfl,hb⟩
           refine ⟨_,rfl,?_⟩
           replace BK101:=Aside0.mk (blk_below (g:=gb101) (o:=.cells #[.bool a0_0,.string a0_1,.int .i64 a0_2] 23 (0,0)) q1_ hb)
           replace BK104:=Aside0.mk (blk_below (g:=gb104) (o:=.cells #[.bool (!a0_0),.string a0_1,.int .i64 a0_2] 23 (0,0)) q3_ hb)
           replace BK108:=Aside0.mk (blk_below (g:=gb108) (o:=.cells #[.bool t105,.string t106,.int .i64 t107] 23 (0,0)) q4_ hb)
           replace BK112:=Aside0.mk (blk_below (g:=gb112) (o:=.cells #[.bool t109,.string t110,.int .i64 t111] 23 (0,0)) q5_ hb)
           replace HB:=Aside0.mk (below_step q0_ hb)
           (try clear hb)
           (try clear hb2)
           (try clear hk)
           (try clear hi)
           refine hK.out _ _ ⟨(blk_cell BK101.out 0).trans rfl,(blk_cell BK101.out 1).trans rfl,(blk_cell BK101.out 2).trans rfl,(blk_cell BK104.out 0).trans rfl,(blk_cell BK104.out 1).trans rfl,(blk_cell BK104.out 2).trans rfl⟩ (fun hHeld=>?_)
           clear hK K
           refine norm_ (a':=?_) ?_ ?_
           rotate_left
           ·show Act.put _ (some 69) _ = _
            simp only [Act.put,e0_,e1_,e2_,i64_w,i32_w]
            rfl
           refine pure_ (i:=2) (N:=some 70) (v:=?_) (a':=?_) B47_ rfl rfl (any_of HT_.out (by kernel_rfl)) (fun _ _ _ h=>h) (Or.inl ⟨(by rfl),?_⟩) ?_ ?_
           rotate_left
           ·intro w'
            go_simp
            with_reducible rfl
           rotate_left
           ·simp only [Act.put,e0_,e1_,e2_,i64_w,i32_w]
            rfl
           refine take_ (i:=3) (N:=some 71) (v:=?_) (a':=?_) B48_ rfl rfl (take_ofW HT_.out HW_.out (by kernel_rfl)) (fun _ _ _ h=>h) (Or.inl ⟨(by rfl),?_⟩) hHeld ?_ ?_
           rotate_left
           ·rintro w' ⟨s0,s1,s2,s3,s4,s5⟩
            go_simp
            with_reducible rfl
           rotate_left
           ·simp only [Act.put,e0_,e1_,e2_,i64_w,i32_w]
            rfl
           refine take_ (i:=4) (N:=some 72) (v:=?_) (a':=?_) B49_ rfl rfl (take_ofW HT_.out HW_.out (by kernel_rfl)) (fun _ _ _ h=>h) (Or.inl ⟨(by rfl),?_⟩) hHeld ?_ ?_
           rotate_left
           ·rintro w' ⟨s0,s1,s2,s3,s4,s5⟩
            go_simp
            with_reducible rfl
           rotate_left
           ·simp only [Act.put,e0_,e1_,e2_,i64_w,i32_w]
            rfl
           refine one_ (i:=5) (N:=some 73) B50_ rfl rfl (one_of HT_.out (by kernel_rfl)) (by decide) (fun K hK=>?_)
           refine goes_ Tryd.func48 (by kernel_rfl) rfl #[.agg #[.bool a0_0,.string a0_1,.int .i64 a0_2],.agg #[.bool (!a0_0),.string a0_1,.int .i64 a0_2]] (by rfl) rfl rfl q2_ ?_
           with_reducible refine (dec_Dec_Compare.calls kj16 a0_0 a0_1 a0_2 (!a0_0) a0_1 a0_2 t120 _ A73.out).mono ?_
           rintro e w82 ⟨rfl,hb⟩
           refine ⟨_,rfl,?_⟩
           replace BK101:=Aside0.mk (blk_below (g:=gb101) (o:=.cells #[.bool a0_0,.string a0_1,.int .i64 a0_2] 23 (0,0)) q1_ hb)
           replace BK104:=Aside0.mk (blk_below (g:=gb104) (o:=.cells #[.bool (!a0_0),.string a0_1,.int .i64 a0_2] 23 (0,0)) q3_ hb)
           replace BK108:=Aside0.mk (blk_below (g:=gb108) (o:=.cells #[.bool t105,.string t106,.int .i64 t107] 23 (0,0)) q4_ hb)
           replace BK112:=Aside0.mk (blk_below (g:=gb112) (o:=.cells #[.bool t109,.string t110,.int .i64 t111] 23 (0,0)) q5_ hb)
           replace HB:=Aside0.mk (below_step q0_ hb)
           (try clear hb)
           (try clear hb2)
           (try clear hk)
           (try clear hi)
           refine hK.out _ _ ⟨(blk_cell BK101.out 0).trans rfl,(blk_cell BK101.out 1).trans rfl,(blk_cell BK101.out 2).trans rfl,(blk_cell BK104.out 0).trans rfl,(blk_cell BK104.out 1).trans rfl,(blk_cell BK104.out 2).trans rfl⟩ (fun hHeld=>?_)
           clear hK K
           refine norm_ (a':=?_) ?_ ?_
           rotate_left
           ·show Act.put _ (some 73) _ = _
            simp only [Act.put,e0_,e1_,e2_,i64_w,i32_w]
            rfl
           refine pure_ (i:=6) (N:=some 74) (v:=?_) (a':=?_) B51_ rfl rfl (any_of HT_.out (by kernel_rfl)) (fun _ _ _ h=>h) (Or.inl ⟨(by rfl),?_⟩) ?_ ?_
           rotate_left
           ·intro w'
            go_simp
            with_reducible rfl
           rotate_left
           ·simp only [Act.put,e0_,e1_,e2_,i64_w,i32_w]
            rfl
           refine pure_ (i:=7) (N:=some 75) (v:=?_) (a':=?_) B52_ rfl rfl (any_of HT_.out (by kernel_rfl)) (fun _ _ _ h=>h) (Or.inl ⟨(by rfl),?_⟩) ?_ ?_
           rotate_left
           ·intro w'
            go_simp
            with_reducible rfl
           rotate_left
           ·simp only [Act.put,e0_,e1_,e2_,i64_w,i32_w]
            rfl
           refine pure_ (i:=8) (N:=some 76) (v:=?_) (a':=?_) B53_ rfl rfl (any_of HT_.out (by kernel_rfl)) (fun _ _ _ h=>h) (Or.inl ⟨(by rfl),?_⟩) ?_ ?_
           rotate_left
           ·intro w'
            go_simp
            with_reducible rfl
           rotate_left
           ·simp only [Act.put,e0_,e1_,e2_,i64_w,i32_w]
            rfl
           refine take_ (i:=9) (N:=some 77) (v:=?_) (a':=?_) B54_ rfl rfl (take_ofW HT_.out HW_.out (by kernel_rfl)) (fun _ _ _ h=>h) (Or.inl ⟨(by rfl),?_⟩) hHeld ?_ ?_
           rotate_left
           ·rintro w' ⟨s0,s1,s2,s3,s4,s5⟩
            go_simp
            with_reducible rfl
           rotate_left
           ·simp only [Act.put,e0_,e1_,e2_,i64_w,i32_w]
            rfl
           refine one_ (i:=10) (N:=some 78) B55_ rfl rfl (one_of HT_.out (by kernel_rfl)) (by decide) (fun K hK=>?_)
           refine goes_ Tryd.func32 (by kernel_rfl) rfl #[.agg #[.bool a0_0,.string a0_1,.int .i64 a0_2]] (by rfl) rfl rfl q2_ ?_
           with_reducible refine (dec_Dec_Zero.calls a0_0 a0_1 a0_2 true _ A78.out).mono ?_
           rintro e w83 ⟨rfl,hb⟩
           refine ⟨_,rfl,?_⟩
           replace BK101:=Aside0.mk (blk_below (g:=gb101) (o:=.cells #[.bool a0_0,.string a0_1,.int .i64 a0_2] 23 (0,0)) q1_ hb)
           replace BK104:=Aside0.mk (blk_below (g:=gb104) (o:=.cells #[.bool (!a0_0),.string a0_1,.int .i64 a0_2] 23 (0,0)) q3_ hb)
           replace BK108:=Aside0.mk (blk_below (g:=gb108) (o:=.cells #[.bool t105,.string t106,.int .i64 t107] 23 (0,0)) q4_ hb)
           replace BK112:=Aside0.mk (blk_below (g:=gb112) (o:=.cells #[.bool t109,.string t110,.int .i64 t111] 23 (0,0)) q5_ hb)
           replace HB:=Aside0.mk (below_step q0_ hb)
           (try clear hb)
           (try clear hb2)
           (try clear hk)
           (try clear hi)
           refine hK.out _ _ ⟨(blk_cell BK101.out 0).trans rfl,(blk_cell BK101.out 1).trans rfl,(blk_cell BK101.out 2).trans rfl,(blk_cell BK104.out 0).trans rfl,(blk_cell BK104.out 1).trans rfl,(blk_cell BK104.out 2).trans rfl⟩ (fun hHeld=>?_)
           clear hK K
           refine norm_ (a':=?_) ?_ ?_
           rotate_left
           ·show Act.put _ (some 78) _ = _
            simp only [Act.put,e0_,e1_,e2_,i64_w,i32_w]
            rfl
           refine pure_ (i:=11) (N:=some 79) (v:=?_) (a':=?_) B56_ rfl rfl (any_of HT_.out (by kernel_rfl)) (fun _ _ _ h=>h) (Or.inl ⟨(by rfl),?_⟩) ?_ ?_
           rotate_left
           ·intro w'
            go_simp
            with_reducible rfl
           rotate_left
           ·simp only [Act.put,e0_,e1_,e2_,i64_w,i32_w]
            rfl
           refine pure_ (i:=12) (N:=some 80) (v:=?_) (a':=?_) B57_ rfl rfl (any_of HT_.out (by kernel_rfl)) (fun _ _ _ h=>h) (Or.inl ⟨(by rfl),?_⟩) ?_ ?_
           rotate_left
           ·intro w'
            go_simp
            with_reducible rfl
           rotate_left
           ·simp only [Act.put,e0_,e1_,e2_,i64_w,i32_w]
            rfl
           refine pure_ (i:=13) (N:=some 81) (v:=undef) (a':=?_) B58_ rfl rfl (any_of HT_.out (by kernel_rfl)) (fun _ _ _ h=>h) (Or.inr ⟨(by rfl),rfl⟩) ?_ ?_
           rotate_left
           ·simp only [Act.put,e0_,e1_,e2_,i64_w,i32_w]
            rfl
           refine pure_ (i:=14) (N:=some 82) (v:=undef) (a':=?_) B59_ rfl rfl (any_of HT_.out (by kernel_rfl)) (fun _ _ _ h=>h) (Or.inr ⟨(by rfl),rfl⟩) ?_ ?_
           rotate_left
           ·simp only [Act.put,e0_,e1_,e2_,i64_w,i32_w]
            rfl
           refine pure_ (i:=15) (N:=some 83) (v:=undef) (a':=?_) B60_ rfl rfl (any_of HT_.out (by kernel_rfl)) (fun _ _ _ h=>h) (Or.inr ⟨(by rfl),rfl⟩) ?_ ?_
           rotate_left
           ·simp only [Act.put,e0_,e1_,e2_,i64_w,i32_w]
            rfl
           refine pure_ (i:=16) (N:=some 84) (v:=undef) (a':=?_) B61_ rfl rfl (any_of HT_.out (by kernel_rfl)) (fun _ _ _ h=>h) (Or.inr ⟨(by rfl),rfl⟩) ?_ ?_
           rotate_left
           ·simp only [Act.put,e0_,e1_,e2_,i64_w,i32_w]
            rfl
           refine pure_ (i:=17) (N:=some 85) (v:=undef) (a':=?_) B62_ rfl rfl (any_of HT_.out (by kernel_rfl)) (fun _ _ _ h=>h) (Or.inr ⟨(by rfl),rfl⟩) ?_ ?_
           rotate_left
           ·simp only [Act.put,e0_,e1_,e2_,i64_w,i32_w]
            rfl
           refine pure_ (i:=18) (N:=some 86) (v:=undef) (a':=?_) B63_ rfl rfl (any_of HT_.out (by kernel_rfl)) (fun _ _ _ h=>h) (Or.inr ⟨(by rfl),rfl⟩) ?_ ?_
           rotate_left
           ·simp only [Act.put,e0_,e1_,e2_,i64_w,i32_w]
            rfl
           refine pure_ (i:=19) (N:=some 87) (v:=undef) (a':=?_) B64_ rfl rfl (any_of HT_.out (by kernel_rfl)) (fun _ _ _ h=>h) (Or.inr ⟨(by rfl),rfl⟩) ?_ ?_
           rotate_left
           ·simp only [Act.put,e0_,e1_,e2_,i64_w,i32_w]
            rfl
           refine pure_ (i:=20) (N:=some 88) (v:=undef) (a':=?_) B65_ rfl rfl (any_of HT_.out (by kernel_rfl)) (fun _ _ _ h=>h) (Or.inr ⟨(by rfl),rfl⟩) ?_ ?_
           rotate_left
           ·simp only [Act.put,e0_,e1_,e2_,i64_w,i32_w]
            rfl
           refine pure_ (i:=21) (N:=some 89) (v:=?_) (a':=?_) B66_ rfl rfl (any_of HT_.out (by kernel_rfl)) (fun _ _ _ h=>h) (Or.inl ⟨(by rfl),?_⟩) ?_ ?_
           rotate_left
           ·intro w'
            go_simp
            with_reducible rfl
           rotate_left
           ·simp only [Act.put,e0_,e1_,e2_,i64_w,i32_w]
            rfl
           refine pure_ (i:=22) (N:=some 90) (v:=?_) (a':=?_) B67_ rfl rfl (any_of HT_.out (by kernel_rfl)) (fun _ _ _ h=>h) (Or.inl ⟨(by rfl),?_⟩) ?_ ?_
           rotate_left
           ·intro w'
            go_simp
            with_reducible rfl
           rotate_left
           ·simp only [Act.put,e0_,e1_,e2_,i64_w,i32_w]
            rfl
           refine pure_ (i:=23) (N:=some 91) (v:=undef) (a':=?_) B68_ rfl rfl (any_of HT_.out (by kernel_rfl)) (fun _ _ _ h=>h) (Or.inr ⟨(by rfl),rfl⟩) ?_ ?_
           rotate_left
           ·simp only [Act.put,e0_,e1_,e2_,i64_w,i32_w]
            rfl
           refine pure_ (i:=24) (N:=some 92) (v:=undef) (a':=?_) B69_ rfl rfl (any_of HT_.out (by kernel_rfl)) (fun _ _ _ h=>h) (Or.inr ⟨(by rfl),rfl⟩) ?_ ?_
           rotate_left
           ·simp only [Act.put,e0_,e1_,e2_,i64_w,i32_w]
            rfl
           refine pure_ (i:=25) (N:=some 93) (v:=undef) (a':=?_) B70_ rfl rfl (any_of HT_.out (by kernel_rfl)) (fun _ _ _ h=>h) (Or.inr ⟨(by rfl),rfl⟩) ?_ ?_
           rotate_left
           ·simp only [Act.put,e0_,e1_,e2_,i64_w,i32_w]
            rfl
           refine pure_ (i:=26) (N:=some 94) (v:=undef) (a':=?_) B71_ rfl rfl (any_of HT_.out (by kernel_rfl)) (fun _ _ _ h=>h) (Or.inr ⟨(by rfl),rfl⟩) ?_ ?_
           rotate_left
           ·simp only [Act.put,e0_,e1_,e2_,i64_w,i32_w]
            rfl
           refine pure_ (i:=27) (N:=some 95) (v:=?_) (a':=?_) B72_ rfl rfl (any_of HT_.out (by kernel_rfl)) (fun _ _ _ h=>h) (Or.inl ⟨(by rfl),?_⟩) ?_ ?_
           rotate_left
           ·intro w'
            go_simp
            with_reducible rfl
           rotate_left
           ·simp only [Act.put,e0_,e1_,e2_,i64_w,i32_w]
            rfl
           refine pure_ (i:=28) (N:=some 96) (v:=?_) (a':=?_) B73_ rfl rfl (any_of HT_.out (by kernel_rfl)) (fun _ _ _ h=>h) (Or.inl ⟨(by rfl),?_⟩) ?_ ?_
           rotate_left
           ·intro w'
            go_simp
            with_reducible rfl
           rotate_left
           ·simp only [Act.put,e0_,e1_,e2_,i64_w,i32_w]
            rfl
           refine pure_ (i:=29) (N:=some 4) (v:=?_) (a':=?_) B74_ rfl rfl (any_of HT_.out (by kernel_rfl)) (fun _ _ _ h=>h) (Or.inl ⟨(by rfl),?_⟩) ?_ ?_
           rotate_left
           ·intro w'
            go_simp
            with_reducible rfl
           rotate_left
           ·simp only [Act.put,e0_,e1_,e2_,i64_w,i32_w]
            rfl
           refine done_ (done_of HT_.out (by kernel_rfl)) ?_
           try go_wp2
           go_ret
           exact ⟨q11_,q0_⟩
          ·replace c79:=Bool.eq_false_iff.mpr c79
           subst c79
           have H1 : ((dec_Dec_Compare.f kj16 a0_0 a0_1 a0_2 (!a0_0) a0_1 a0_2).bind fun t122=>((dec_Dec_Compare.f kj16 (!a0_0) a0_1 a0_2 a0_0 a0_1 a0_2).bind fun t123=>(if t122 = (wrap64 (-t123)) then ((dec_Dec_Compare.f kj16 a0_0 a0_1 a0_2 (!a0_0) a0_1 a0_2).bind fun t124=>(some (t124 != 0))) else (some false)))) = some r:=by rw [if_neg (show ¬ (false = true) by decide)] at H;exact H
           clear H
           have H:=H1
           clear H1
           replace H:=Option.bind_eq_some_iff.mp H
           obtain ⟨t122,A840,H⟩:=H
           replace H : ((dec_Dec_Compare.f kj16 (!a0_0) a0_1 a0_2 a0_0 a0_1 a0_2).bind fun t123=>(if t122 = (wrap64 (-t123)) then ((dec_Dec_Compare.f kj16 a0_0 a0_1 a0_2 (!a0_0) a0_1 a0_2).bind fun t124=>(some (t124 != 0))) else (some false))) = some r:=H
           have A84:=Aside0.mk A840
           clear A840
           replace H:=Option.bind_eq_some_iff.mp H
           obtain ⟨t123,A850,H⟩:=H
           replace H : (if t122 = (wrap64 (-t123)) then ((dec_Dec_Compare.f kj16 a0_0 a0_1 a0_2 (!a0_0) a0_1 a0_2).bind fun t124=>(some (t124 != 0))) else (some false)) = some r:=H
           have A85:=Aside0.mk A850
           clear A850
           by_cases c86 : t122 = (wrap64 (-t123))
           ·rw [if_pos c86] at H
            have c86b0 : (t122 == (wrap64 (-t123))) = true:=beq_iff_eq.mpr c86
            have c86b1 : (t122 != (wrap64 (-t123))) = false:=bne_eq_false_iff_eq.mpr c86
            clear c86
            replace H:=Option.bind_eq_some_iff.mp H
            obtain ⟨t124,A870,H⟩:=H
            replace H : (some (t124 != 0)) = some r:=H
            have A87:=Aside0.mk A870
            clear A870
            obtain rfl:=Option.some.inj H
            try go_wp2
            replace BK101:=Aside0.mk (blk_drew BK101.out)
            replace BK104:=Aside0.mk (blk_drew BK104.out)
            replace BK108:=Aside0.mk (blk_drew BK108.out)
            replace BK112:=Aside0.mk (blk_drew BK112.out)
            replace HB:=Aside0.mk (below_drew1 HB.out)
            refine start_ (n:=30) (S:=fun w'=>w'.cell? ⟨gb101,0,none⟩ = some (.bool a0_0) ∧ w'.cell? ⟨gb101,1,none⟩ = some (.string a0_1) ∧ w'.cell? ⟨gb101,2,none⟩ = some (.int .i64 a0_2) ∧ w'.cell? ⟨gb104,0,none⟩ = some (.bool (!a0_0)) ∧ w'.cell? ⟨gb104,1,none⟩ = some (.string a0_1) ∧ w'.cell? ⟨gb104,2,none⟩ = some (.int .i64 a0_2)) (ds:=[]) B44_ (by kernel_rfl) rfl rfl ⟨(blk_cell BK101.out 0).trans rfl,(blk_cell BK101.out 1).trans rfl,(blk_cell BK101.out 2).trans rfl,(blk_cell BK104.out 0).trans rfl,(blk_cell BK104.out 1).trans rfl,(blk_cell BK104.out 2).trans rfl⟩ (fun hHeld=>?_);refine with_tabW polyglotlaw02_DecSigns.tab11 polyglotlaw02_DecSigns.bits11 (fun HT_ HW_=>?_)
            generalize wc.drew = w88 at BK101 BK104 BK108 BK112 HB hHeld ⊢
            refine take_ (i:=0) (N:=some 68) (v:=?_) (a':=?_) B45_ rfl rfl (take_ofW HT_.out HW_.out (by kernel_rfl)) (fun _ _ _ h=>h) (Or.inl ⟨(by rfl),?_⟩) hHeld ?_ ?_
            rotate_left
            ·rintro w' ⟨s0,s1,s2,s3,s4,s5⟩
             go_simp
             with_reducible rfl
            rotate_left
            ·simp only [Act.put,e0_,e1_,e2_,i64_w,i32_w]
             rfl
            refine one_ (i:=1) (N:=some 69) B46_ rfl rfl (one_of HT_.out (by kernel_rfl)) (by decide) (fun K hK=>?_)
            refine goes_ Tryd.func32 (by kernel_rfl) rfl #[.agg #[.bool a0_0,.string a0_1,.int .i64 a0_2]] (by rfl) rfl rfl q2_ ?_
            with_reducible refine (dec_Dec_Zero.calls a0_0 a0_1 a0_2 true _ A71.out).mono ?_
            rintro e w89 ⟨rfl,hb⟩
            refine ⟨_,rfl,?_⟩
            replace BK101:=Aside0.mk (blk_below (g:=gb101) (o:=.cells #[.bool a0_0,.string a0_1,.int .i64 a0_2] 23 (0,0)) q1_ hb)
            replace BK104:=Aside0.mk (blk_below (g:=gb104) (o:=.cells #[.bool (!a0_0),.string a0_1,.int .i64 a0_2] 23 (0,0)) q3_ hb)
            replace BK108:=Aside0.mk (blk_below (g:=gb108) (o:=.cells #[.bool t105,.string t106,.int .i64 t107] 23 (0,0)) q4_ hb)
            replace BK112:=Aside0.mk (blk_below (g:=gb112) (o:=.cells #[.bool t109,.string t110,.int .i64 t111] 23 (0,0)) q5_ hb)
            replace HB:=Aside0.mk (below_step q0_ hb)
            (try clear hb)
            (try clear hb2)
            (try clear hk)
            (try clear hi)
            refine hK.out _ _ ⟨(blk_cell BK101.out 0).trans rfl,(blk_cell BK101.out 1).trans rfl,(blk_cell BK101.out 2).trans rfl,(blk_cell BK104.out 0).trans rfl,(blk_cell BK104.out 1).trans rfl,(blk_cell BK104.out 2).trans rfl⟩ (fun hHeld=>?_)
            clear hK K
            refine norm_ (a':=?_) ?_ ?_
            rotate_left
            ·show Act.put _ (some 69) _ = _
             simp only [Act.put,e0_,e1_,e2_,i64_w,i32_w]
             rfl
            refine pure_ (i:=2) (N:=some 70) (v:=?_) (a':=?_) B47_ rfl rfl (any_of HT_.out (by kernel_rfl)) (fun _ _ _ h=>h) (Or.inl ⟨(by rfl),?_⟩) ?_ ?_
            rotate_left
            ·intro w'
             go_simp
             with_reducible rfl
            rotate_left
            ·simp only [Act.put,e0_,e1_,e2_,i64_w,i32_w]
             rfl
            refine take_ (i:=3) (N:=some 71) (v:=?_) (a':=?_) B48_ rfl rfl (take_ofW HT_.out HW_.out (by kernel_rfl)) (fun _ _ _ h=>h) (Or.inl ⟨(by rfl),?_⟩) hHeld ?_ ?_
            rotate_left
            ·rintro w' ⟨s0,s1,s2,s3,s4,s5⟩
             go_simp
             with_reducible rfl
            rotate_left
            ·simp only [Act.put,e0_,e1_,e2_,i64_w,i32_w]
             rfl
            refine take_ (i:=4) (N:=some 72) (v:=?_) (a':=?_) B49_ rfl rfl (take_ofW HT_.out HW_.out (by kernel_rfl)) (fun _ _ _ h=>h) (Or.inl ⟨(by rfl),?_⟩) hHeld ?_ ?_
            rotate_left
            ·rintro w' ⟨s0,s1,s2,s3,s4,s5⟩
             go_simp
             with_reducible rfl
            rotate_left
            ·simp only [Act.put,e0_,e1_,e2_,i64_w,i32_w]
             rfl
            refine one_ (i:=5) (N:=some 73) B50_ rfl rfl (one_of HT_.out (by kernel_rfl)) (by decide) (fun K hK=>?_)
            refine goes_ Tryd.func48 (by kernel_rfl) rfl #[.agg #[.bool a0_0,.string a0_1,.int .i64 a0_2],.agg #[.bool (!a0_0),.string a0_1,.int .i64 a0_2]] (by rfl) rfl rfl q2_ ?_
            with_reducible refine (dec_Dec_Compare.calls kj16 a0_0 a0_1 a0_2 (!a0_0) a0_1 a0_2 t120 _ A73.out).mono ?_
            rintro e w90 ⟨rfl,hb⟩
            refine ⟨_,rfl,?_⟩
            replace BK101:=Aside0.mk (blk_below (g:=gb101) (o:=.cells #[.bool a0_0,.string a0_1,.int .i64 a0_2] 23 (0,0)) q1_ hb)
            replace BK104:=Aside0.mk (blk_below (g:=gb104) (o:=.cells #[.bool (!a0_0),.string a0_1,.int .i64 a0_2] 23 (0,0)) q3_ hb)
            replace BK108:=Aside0.mk (blk_below (g:=gb108) (o:=.cells #[.bool t105,.string t106,.int .i64 t107] 23 (0,0)) q4_ hb)
            replace BK112:=Aside0.mk (blk_below (g:=gb112) (o:=.cells #[.bool t109,.string t110,.int .i64 t111] 23 (0,0)) q5_ hb)
            replace HB:=Aside0.mk (below_step q0_ hb)
            (try clear hb)
            (try clear hb2)
            (try clear hk)
            (try clear hi)
            refine hK.out _ _ ⟨(blk_cell BK101.out 0).trans rfl,(blk_cell BK101.out 1).trans rfl,(blk_cell BK101.out 2).trans rfl,(blk_cell BK104.out 0).trans rfl,(blk_cell BK104.out 1).trans rfl,(blk_cell BK104.out 2).trans rfl⟩ (fun hHeld=>?_)
            clear hK K
            refine norm_ (a':=?_) ?_ ?_
            rotate_left
            ·show Act.put _ (some 73) _ = _
             simp only [Act.put,e0_,e1_,e2_,i64_w,i32_w]
             rfl
            refine pure_ (i:=6) (N:=some 74) (v:=?_) (a':=?_) B51_ rfl rfl (any_of HT_.out (by kernel_rfl)) (fun _ _ _ h=>h) (Or.inl ⟨(by rfl),?_⟩) ?_ ?_
            rotate_left
            ·intro w'
             go_simp
             with_reducible rfl
            rotate_left
            ·simp only [Act.put,e0_,e1_,e2_,i64_w,i32_w]
             rfl
            refine pure_ (i:=7) (N:=some 75) (v:=?_) (a':=?_) B52_ rfl rfl (any_of HT_.out (by kernel_rfl)) (fun _ _ _ h=>h) (Or.inl ⟨(by rfl),?_⟩) ?_ ?_
            rotate_left
            ·intro w'
             go_simp
             with_reducible rfl
            rotate_left
            ·simp only [Act.put,e0_,e1_,e2_,i64_w,i32_w]
             rfl
            refine pure_ (i:=8) (N:=some 76) (v:=?_) (a':=?_) B53_ rfl rfl (any_of HT_.out (by kernel_rfl)) (fun _ _ _ h=>h) (Or.inl ⟨(by rfl),?_⟩) ?_ ?_
            rotate_left
            ·intro w'
             go_simp
             with_reducible rfl
            rotate_left
            ·simp only [Act.put,e0_,e1_,e2_,i64_w,i32_w]
             rfl
            refine take_ (i:=9) (N:=some 77) (v:=?_) (a':=?_) B54_ rfl rfl (take_ofW HT_.out HW_.out (by kernel_rfl)) (fun _ _ _ h=>h) (Or.inl ⟨(by rfl),?_⟩) hHeld ?_ ?_
            rotate_left
            ·rintro w' ⟨s0,s1,s2,s3,s4,s5⟩
             go_simp
             with_reducible rfl
            rotate_left
            ·simp only [Act.put,e0_,e1_,e2_,i64_w,i32_w]
             rfl
            refine one_ (i:=10) (N:=some 78) B55_ rfl rfl (one_of HT_.out (by kernel_rfl)) (by decide) (fun K hK=>?_)
            refine goes_ Tryd.func32 (by kernel_rfl) rfl #[.agg #[.bool a0_0,.string a0_1,.int .i64 a0_2]] (by rfl) rfl rfl q2_ ?_
            with_reducible refine (dec_Dec_Zero.calls a0_0 a0_1 a0_2 false _ A78.out).mono ?_
            rintro e w91 ⟨rfl,hb⟩
            refine ⟨_,rfl,?_⟩
            replace BK101:=Aside0.mk (blk_below (g:=gb101) (o:=.cells #[.bool a0_0,.string a0_1,.int .i64 a0_2] 23 (0,0)) q1_ hb)
            replace BK104:=Aside0.mk (blk_below (g:=gb104) (o:=.cells #[.bool (!a0_0),.string a0_1,.int .i64 a0_2] 23 (0,0)) q3_ hb)
            replace BK108:=Aside0.mk (blk_below (g:=gb108) (o:=.cells #[.bool t105,.string t106,.int .i64 t107] 23 (0,0)) q4_ hb)
            replace BK112:=Aside0.mk (blk_below (g:=gb112) (o:=.cells #[.bool t109,.string t110,.int .i64 t111] 23 (0,0)) q5_ hb)
            replace HB:=Aside0.mk (below_step q0_ hb)
            (try clear hb)
            (try clear hb2)
            (try clear hk)
            (try clear hi)
            refine hK.out _ _ ⟨(blk_cell BK101.out 0).trans rfl,(blk_cell BK101.out 1).trans rfl,(blk_cell BK101.out 2).trans rfl,(blk_cell BK104.out 0).trans rfl,(blk_cell BK104.out 1).trans rfl,(blk_cell BK104.out 2).trans rfl⟩ (fun hHeld=>?_)
            clear hK K
            refine norm_ (a':=?_) ?_ ?_
            rotate_left
            ·show Act.put _ (some 78) _ = _
             simp only [Act.put,e0_,e1_,e2_,i64_w,i32_w]
             rfl
            refine pure_ (i:=11) (N:=some 79) (v:=?_) (a':=?_) B56_ rfl rfl (any_of HT_.out (by kernel_rfl)) (fun _ _ _ h=>h) (Or.inl ⟨(by rfl),?_⟩) ?_ ?_
            rotate_left
            ·intro w'
             go_simp
             with_reducible rfl
            rotate_left
            ·simp only [Act.put,e0_,e1_,e2_,i64_w,i32_w]
             rfl
            refine pure_ (i:=12) (N:=some 80) (v:=?_) (a':=?_) B57_ rfl rfl (any_of HT_.out (by kernel_rfl)) (fun _ _ _ h=>h) (Or.inl ⟨(by rfl),?_⟩) ?_ ?_
            rotate_left
            ·intro w'
             go_simp
             with_reducible rfl
            rotate_left
            ·simp only [Act.put,e0_,e1_,e2_,i64_w,i32_w]
             rfl
            refine take_ (i:=13) (N:=some 81) (v:=?_) (a':=?_) B58_ rfl rfl (take_ofW HT_.out HW_.out (by kernel_rfl)) (fun _ _ _ h=>h) (Or.inl ⟨(by rfl),?_⟩) hHeld ?_ ?_
            rotate_left
            ·rintro w' ⟨s0,s1,s2,s3,s4,s5⟩
             go_simp
             with_reducible rfl
            rotate_left
            ·simp only [Act.put,e0_,e1_,e2_,i64_w,i32_w]
             rfl
            refine take_ (i:=14) (N:=some 82) (v:=?_) (a':=?_) B59_ rfl rfl (take_ofW HT_.out HW_.out (by kernel_rfl)) (fun _ _ _ h=>h) (Or.inl ⟨(by rfl),?_⟩) hHeld ?_ ?_
            rotate_left
            ·rintro w' ⟨s0,s1,s2,s3,s4,s5⟩
             go_simp
             with_reducible rfl
            rotate_left
            ·simp only [Act.put,e0_,e1_,e2_,i64_w,i32_w]
             rfl
            refine take_ (i:=16) (N:=some 84) (v:=?_) (a':=?_) B75_ rfl rfl (take_ofW HT_.out HW_.out (by kernel_rfl)) (fun _ _ _ h=>h) (Or.inl ⟨(by rfl),?_⟩) hHeld ?_ ?_
            rotate_left
            ·rintro w' ⟨s0,s1,s2,s3,s4,s5⟩
             go_simp
             with_reducible rfl
            rotate_left
            ·simp only [Act.put,e0_,e1_,e2_,i64_w,i32_w]
             rfl
            refine take_ (i:=17) (N:=some 85) (v:=?_) (a':=?_) B76_ rfl rfl (take_ofW HT_.out HW_.out (by kernel_rfl)) (fun _ _ _ h=>h) (Or.inl ⟨(by rfl),?_⟩) hHeld ?_ ?_
            rotate_left
            ·rintro w' ⟨s0,s1,s2,s3,s4,s5⟩
             go_simp
             with_reducible rfl
            rotate_left
            ·simp only [Act.put,e0_,e1_,e2_,i64_w,i32_w]
             rfl
            refine one_ (i:=15) (N:=some 83) B62_ rfl rfl (one_of HT_.out (by kernel_rfl)) (by decide) (fun K hK=>?_)
            refine goes_ Tryd.func48 (by kernel_rfl) rfl #[.agg #[.bool a0_0,.string a0_1,.int .i64 a0_2],.agg #[.bool (!a0_0),.string a0_1,.int .i64 a0_2]] (by rfl) rfl rfl q2_ ?_
            with_reducible refine (dec_Dec_Compare.calls kj16 a0_0 a0_1 a0_2 (!a0_0) a0_1 a0_2 t122 _ A84.out).mono ?_
            rintro e w92 ⟨rfl,hb⟩
            refine ⟨_,rfl,?_⟩
            replace BK101:=Aside0.mk (blk_below (g:=gb101) (o:=.cells #[.bool a0_0,.string a0_1,.int .i64 a0_2] 23 (0,0)) q1_ hb)
            replace BK104:=Aside0.mk (blk_below (g:=gb104) (o:=.cells #[.bool (!a0_0),.string a0_1,.int .i64 a0_2] 23 (0,0)) q3_ hb)
            replace BK108:=Aside0.mk (blk_below (g:=gb108) (o:=.cells #[.bool t105,.string t106,.int .i64 t107] 23 (0,0)) q4_ hb)
            replace BK112:=Aside0.mk (blk_below (g:=gb112) (o:=.cells #[.bool t109,.string t110,.int .i64 t111] 23 (0,0)) q5_ hb)
            replace HB:=Aside0.mk (below_step q0_ hb)
            (try clear hb)
            (try clear hb2)
            (try clear hk)
            (try clear hi)
            refine hK.out _ _ ⟨(blk_cell BK101.out 0).trans rfl,(blk_cell BK101.out 1).trans rfl,(blk_cell BK101.out 2).trans rfl,(blk_cell BK104.out 0).trans rfl,(blk_cell BK104.out 1).trans rfl,(blk_cell BK104.out 2).trans rfl⟩ (fun hHeld=>?_)
            clear hK K
            refine norm_ (a':=?_) ?_ ?_
            rotate_left
            ·show Act.put _ (some 83) _ = _
             simp only [Act.put,e0_,e1_,e2_,i64_w,i32_w]
             rfl
            refine one_ (i:=18) (N:=some 86) B63_ rfl rfl (one_of HT_.out (by kernel_rfl)) (by decide) (fun K hK=>?_)
            refine goes_ Tryd.func48 (by kernel_rfl) rfl #[.agg #[.bool (!a0_0),.string a0_1,.int .i64 a0_2],.agg #[.bool a0_0,.string a0_1,.int .i64 a0_2]] (by rfl) rfl rfl q2_ ?_
            with_reducible refine (dec_Dec_Compare.calls kj16 (!a0_0) a0_1 a0_2 a0_0 a0_1 a0_2 t123 _ A85.out).mono ?_
            rintro e w93 ⟨rfl,hb⟩
            refine ⟨_,rfl,?_⟩
            replace BK101:=Aside0.mk (blk_below (g:=gb101) (o:=.cells #[.bool a0_0,.string a0_1,.int .i64 a0_2] 23 (0,0)) q1_ hb)
            replace BK104:=Aside0.mk (blk_below (g:=gb104) (o:=.cells #[.bool (!a0_0),.string a0_1,.int .i64 a0_2] 23 (0,0)) q3_ hb)
            replace BK108:=Aside0.mk (blk_below (g:=gb108) (o:=.cells #[.bool t105,.string t106,.int .i64 t107] 23 (0,0)) q4_ hb)
            replace BK112:=Aside0.mk (blk_below (g:=gb112) (o:=.cells #[.bool t109,.string t110,.int .i64 t111] 23 (0,0)) q5_ hb)
            replace HB:=Aside0.mk (below_step q0_ hb)
            (try clear hb)
            (try clear hb2)
            (try clear hk)
            (try clear hi)
            refine hK.out _ _ ⟨(blk_cell BK101.out 0).trans rfl,(blk_cell BK101.out 1).trans rfl,(blk_cell BK101.out 2).trans rfl,(blk_cell BK104.out 0).trans rfl,(blk_cell BK104.out 1).trans rfl,(blk_cell BK104.out 2).trans rfl⟩ (fun hHeld=>?_)
            clear hK K
            refine norm_ (a':=?_) ?_ ?_
            rotate_left
            ·show Act.put _ (some 86) _ = _
             simp only [Act.put,e0_,e1_,e2_,i64_w,i32_w]
             rfl
            refine pure_ (i:=19) (N:=some 87) (v:=?_) (a':=?_) B64_ rfl rfl (any_of HT_.out (by kernel_rfl)) (fun _ _ _ h=>h) (Or.inl ⟨(by rfl),?_⟩) ?_ ?_
            rotate_left
            ·intro w'
             go_simp
             with_reducible rfl
            rotate_left
            ·simp only [Act.put,e0_,e1_,e2_,i64_w,i32_w]
             rfl
            refine pure_ (i:=20) (N:=some 88) (v:=?_) (a':=?_) B65_ rfl rfl (any_of HT_.out (by kernel_rfl)) (fun _ _ _ h=>h) (Or.inl ⟨(by rfl),?_⟩) ?_ ?_
            rotate_left
            ·intro w'
             go_simp
             with_reducible rfl
            rotate_left
            ·simp only [Act.put,e0_,e1_,e2_,i64_w,i32_w]
             rfl
            refine pure_ (i:=21) (N:=some 89) (v:=?_) (a':=?_) B66_ rfl rfl (any_of HT_.out (by kernel_rfl)) (fun _ _ _ h=>h) (Or.inl ⟨(by rfl),?_⟩) ?_ ?_
            rotate_left
            ·intro w'
             go_simp
             with_reducible rfl
            rotate_left
            ·simp only [Act.put,e0_,e1_,e2_,i64_w,i32_w]
             rfl
            refine pure_ (i:=22) (N:=some 90) (v:=?_) (a':=?_) B67_ rfl rfl (any_of HT_.out (by kernel_rfl)) (fun _ _ _ h=>h) (Or.inl ⟨(by rfl),?_⟩) ?_ ?_
            rotate_left
            ·intro w'
             go_simp
             with_reducible rfl
            rotate_left
            ·simp only [Act.put,e0_,e1_,e2_,i64_w,i32_w]
             rfl
            refine take_ (i:=23) (N:=some 91) (v:=?_) (a':=?_) B68_ rfl rfl (take_ofW HT_.out HW_.out (by kernel_rfl)) (fun _ _ _ h=>h) (Or.inl ⟨(by rfl),?_⟩) hHeld ?_ ?_
            rotate_left
            ·rintro w' ⟨s0,s1,s2,s3,s4,s5⟩
             go_simp
             with_reducible rfl
            rotate_left
            ·simp only [Act.put,e0_,e1_,e2_,i64_w,i32_w]
             rfl
            refine take_ (i:=24) (N:=some 92) (v:=?_) (a':=?_) B69_ rfl rfl (take_ofW HT_.out HW_.out (by kernel_rfl)) (fun _ _ _ h=>h) (Or.inl ⟨(by rfl),?_⟩) hHeld ?_ ?_
            rotate_left
            ·rintro w' ⟨s0,s1,s2,s3,s4,s5⟩
             go_simp
             with_reducible rfl
            rotate_left
            ·simp only [Act.put,e0_,e1_,e2_,i64_w,i32_w]
             rfl
            refine one_ (i:=25) (N:=some 93) B70_ rfl rfl (one_of HT_.out (by kernel_rfl)) (by decide) (fun K hK=>?_)
            refine goes_ Tryd.func48 (by kernel_rfl) rfl #[.agg #[.bool a0_0,.string a0_1,.int .i64 a0_2],.agg #[.bool (!a0_0),.string a0_1,.int .i64 a0_2]] (by rfl) rfl rfl q2_ ?_
            with_reducible refine (dec_Dec_Compare.calls kj16 a0_0 a0_1 a0_2 (!a0_0) a0_1 a0_2 t124 _ A87.out).mono ?_
            rintro e w94 ⟨rfl,hb⟩
            refine ⟨_,rfl,?_⟩
            replace BK101:=Aside0.mk (blk_below (g:=gb101) (o:=.cells #[.bool a0_0,.string a0_1,.int .i64 a0_2] 23 (0,0)) q1_ hb)
            replace BK104:=Aside0.mk (blk_below (g:=gb104) (o:=.cells #[.bool (!a0_0),.string a0_1,.int .i64 a0_2] 23 (0,0)) q3_ hb)
            replace BK108:=Aside0.mk (blk_below (g:=gb108) (o:=.cells #[.bool t105,.string t106,.int .i64 t107] 23 (0,0)) q4_ hb)
            replace BK112:=Aside0.mk (blk_below (g:=gb112) (o:=.cells #[.bool t109,.string t110,.int .i64 t111] 23 (0,0)) q5_ hb)
            replace HB:=Aside0.mk (below_step q0_ hb)
            (try clear hb)
            (try clear hb2)
            (try clear hk)
            (try clear hi)
            refine hK.out _ _ ⟨(blk_cell BK101.out 0).trans rfl,(blk_cell BK101.out 1).trans rfl,(blk_cell BK101.out 2).trans rfl,(blk_cell BK104.out 0).trans rfl,(blk_cell BK104.out 1).trans rfl,(blk_cell BK104.out 2).trans rfl⟩ (fun hHeld=>?_)
            clear hK K
            refine norm_ (a':=?_) ?_ ?_
            rotate_left
            ·show Act.put _ (some 93) _ = _
             simp only [Act.put,e0_,e1_,e2_,i64_w,i32_w]
             rfl
            refine pure_ (i:=26) (N:=some 94) (v:=?_) (a':=?_) B71_ rfl rfl (any_of HT_.out (by kernel_rfl)) (fun _ _ _ h=>h) (Or.inl ⟨(by rfl),?_⟩) ?_ ?_
            rotate_left
            ·intro w'
             go_simp
             with_reducible rfl
            rotate_left
            ·simp only [Act.put,e0_,e1_,e2_,i64_w,i32_w]
             rfl
            refine pure_ (i:=27) (N:=some 95) (v:=?_) (a':=?_) B72_ rfl rfl (any_of HT_.out (by kernel_rfl)) (fun _ _ _ h=>h) (Or.inl ⟨(by rfl),?_⟩) ?_ ?_
            rotate_left
            ·intro w'
             go_simp
             with_reducible rfl
            rotate_left
            ·simp only [Act.put,e0_,e1_,e2_,i64_w,i32_w]
             rfl
            refine pure_ (i:=28) (N:=some 96) (v:=?_) (a':=?_) B73_ rfl rfl (any_of HT_.out (by kernel_rfl)) (fun _ _ _ h=>h) (Or.inl ⟨(by rfl),?_⟩) ?_ ?_
            rotate_left
            ·intro w'
             go_simp
             with_reducible rfl
            rotate_left
            ·simp only [Act.put,e0_,e1_,e2_,i64_w,i32_w]
             rfl
            refine pure_ (i:=29) (N:=some 4) (v:=?_) (a':=?_) B74_ rfl rfl (any_of HT_.out (by kernel_rfl)) (fun _ _ _ h=>h) (Or.inl ⟨(by rfl),?_⟩) ?_ ?_
            rotate_left
            ·intro w'
             go_simp
             with_reducible rfl
            rotate_left
            ·simp only [Act.put,e0_,e1_,e2_,i64_w,i32_w]
             rfl
            refine done_ (done_of HT_.out (by kernel_rfl)) ?_
            try go_wp2
            go_ret
            exact ⟨q11_,q0_⟩
           ·rw [if_neg c86] at H
            have c86b0 : (t122 == (wrap64 (-t123))) = false:=beq_eq_false_iff_ne.mpr c86
            have c86b1 : (t122 != (wrap64 (-t123))) = true:=bne_iff_ne.mpr c86
            obtain rfl:=Option.some.inj H
            try go_wp2
            replace BK101:=Aside0.mk (blk_drew BK101.out)
            replace BK104:=Aside0.mk (blk_drew BK104.out)
            replace BK108:=Aside0.mk (blk_drew BK108.out)
            replace BK112:=Aside0.mk (blk_drew BK112.out)
            replace HB:=Aside0.mk (below_drew1 HB.out)
            refine start_ (n:=30) (S:=fun w'=>w'.cell? ⟨gb101,0,none⟩ = some (.bool a0_0) ∧ w'.cell? ⟨gb101,1,none⟩ = some (.string a0_1) ∧ w'.cell? ⟨gb101,2,none⟩ = some (.int .i64 a0_2) ∧ w'.cell? ⟨gb104,0,none⟩ = some (.bool (!a0_0)) ∧ w'.cell? ⟨gb104,1,none⟩ = some (.string a0_1) ∧ w'.cell? ⟨gb104,2,none⟩ = some (.int .i64 a0_2)) (ds:=[]) B44_ (by kernel_rfl) rfl rfl ⟨(blk_cell BK101.out 0).trans rfl,(blk_cell BK101.out 1).trans rfl,(blk_cell BK101.out 2).trans rfl,(blk_cell BK104.out 0).trans rfl,(blk_cell BK104.out 1).trans rfl,(blk_cell BK104.out 2).trans rfl⟩ (fun hHeld=>?_);refine with_tabW polyglotlaw02_DecSigns.tab11 polyglotlaw02_DecSigns.bits11 (fun HT_ HW_=>?_)
            generalize wc.drew = w95 at BK101 BK104 BK108 BK112 HB hHeld ⊢
            refine take_ (i:=0) (N:=some 68) (v:=?_) (a':=?_) B45_ rfl rfl (take_ofW HT_.out HW_.out (by kernel_rfl)) (fun _ _ _ h=>h) (Or.inl ⟨(by rfl),?_⟩) hHeld ?_ ?_
            rotate_left
            ·rintro w' ⟨s0,s1,s2,s3,s4,s5⟩
             go_simp
             with_reducible rfl
            rotate_left
            ·simp only [Act.put,e0_,e1_,e2_,i64_w,i32_w]
             rfl
            refine one_ (i:=1) (N:=some 69) B46_ rfl rfl (one_of HT_.out (by kernel_rfl)) (by decide) (fun K hK=>?_)
            refine goes_ Tryd.func32 (by kernel_rfl) rfl #[.agg #[.bool a0_0,.string a0_1,.int .i64 a0_2]] (by rfl) rfl rfl q2_ ?_
            with_reducible refine (dec_Dec_Zero.calls a0_0 a0_1 a0_2 true _ A71.out).mono ?_
            rintro e w96 ⟨rfl,hb⟩
            refine ⟨_,rfl,?_⟩
            replace BK101:=Aside0.mk (blk_below (g:=gb101) (o:=.cells #[.bool a0_0,.string a0_1,.int .i64 a0_2] 23 (0,0)) q1_ hb)
            replace BK104:=Aside0.mk (blk_below (g:=gb104) (o:=.cells #[.bool (!a0_0),.string a0_1,.int .i64 a0_2] 23 (0,0)) q3_ hb)
            replace BK108:=Aside0.mk (blk_below (g:=gb108) (o:=.cells #[.bool t105,.string t106,.int .i64 t107] 23 (0,0)) q4_ hb)
            replace BK112:=Aside0.mk (blk_below (g:=gb112) (o:=.cells #[.bool t109,.string t110,.int .i64 t111] 23 (0,0)) q5_ hb)
            replace HB:=Aside0.mk (below_step q0_ hb)
            (try clear hb)
            (try clear hb2)
            (try clear hk)
            (try clear hi)
            refine hK.out _ _ ⟨(blk_cell BK101.out 0).trans rfl,(blk_cell BK101.out 1).trans rfl,(blk_cell BK101.out 2).trans rfl,(blk_cell BK104.out 0).trans rfl,(blk_cell BK104.out 1).trans rfl,(blk_cell BK104.out 2).trans rfl⟩ (fun hHeld=>?_)
            clear hK K
            refine norm_ (a':=?_) ?_ ?_
            rotate_left
            ·show Act.put _ (some 69) _ = _
             simp only [Act.put,e0_,e1_,e2_,i64_w,i32_w]
             rfl
            refine pure_ (i:=2) (N:=some 70) (v:=?_) (a':=?_) B47_ rfl rfl (any_of HT_.out (by kernel_rfl)) (fun _ _ _ h=>h) (Or.inl ⟨(by rfl),?_⟩) ?_ ?_
            rotate_left
            ·intro w'
             go_simp
             with_reducible rfl
            rotate_left
            ·simp only [Act.put,e0_,e1_,e2_,i64_w,i32_w]
             rfl
            refine take_ (i:=3) (N:=some 71) (v:=?_) (a':=?_) B48_ rfl rfl (take_ofW HT_.out HW_.out (by kernel_rfl)) (fun _ _ _ h=>h) (Or.inl ⟨(by rfl),?_⟩) hHeld ?_ ?_
            rotate_left
            ·rintro w' ⟨s0,s1,s2,s3,s4,s5⟩
             go_simp
             with_reducible rfl
            rotate_left
            ·simp only [Act.put,e0_,e1_,e2_,i64_w,i32_w]
             rfl
            refine take_ (i:=4) (N:=some 72) (v:=?_) (a':=?_) B49_ rfl rfl (take_ofW HT_.out HW_.out (by kernel_rfl)) (fun _ _ _ h=>h) (Or.inl ⟨(by rfl),?_⟩) hHeld ?_ ?_
            rotate_left
            ·rintro w' ⟨s0,s1,s2,s3,s4,s5⟩
             go_simp
             with_reducible rfl
            rotate_left
            ·simp only [Act.put,e0_,e1_,e2_,i64_w,i32_w]
             rfl
            refine one_ (i:=5) (N:=some 73) B50_ rfl rfl (one_of HT_.out (by kernel_rfl)) (by decide) (fun K hK=>?_)
            refine goes_ Tryd.func48 (by kernel_rfl) rfl #[.agg #[.bool a0_0,.string a0_1,.int .i64 a0_2],.agg #[.bool (!a0_0),.string a0_1,.int .i64 a0_2]] (by rfl) rfl rfl q2_ ?_
            with_reducible refine (dec_Dec_Compare.calls kj16 a0_0 a0_1 a0_2 (!a0_0) a0_1 a0_2 t120 _ A73.out).mono ?_
            rintro e w97 ⟨rfl,hb⟩
            refine ⟨_,rfl,?_⟩
            replace BK101:=Aside0.mk (blk_below (g:=gb101) (o:=.cells #[.bool a0_0,.string a0_1,.int .i64 a0_2] 23 (0,0)) q1_ hb)
            replace BK104:=Aside0.mk (blk_below (g:=gb104) (o:=.cells #[.bool (!a0_0),.string a0_1,.int .i64 a0_2] 23 (0,0)) q3_ hb)
            replace BK108:=Aside0.mk (blk_below (g:=gb108) (o:=.cells #[.bool t105,.string t106,.int .i64 t107] 23 (0,0)) q4_ hb)
            replace BK112:=Aside0.mk (blk_below (g:=gb112) (o:=.cells #[.bool t109,.string t110,.int .i64 t111] 23 (0,0)) q5_ hb)
            replace HB:=Aside0.mk (below_step q0_ hb)
            (try clear hb)
            (try clear hb2)
            (try clear hk)
            (try clear hi)
            refine hK.out _ _ ⟨(blk_cell BK101.out 0).trans rfl,(blk_cell BK101.out 1).trans rfl,(blk_cell BK101.out 2).trans rfl,(blk_cell BK104.out 0).trans rfl,(blk_cell BK104.out 1).trans rfl,(blk_cell BK104.out 2).trans rfl⟩ (fun hHeld=>?_)
            clear hK K
            refine norm_ (a':=?_) ?_ ?_
            rotate_left
            ·show Act.put _ (some 73) _ = _
             simp only [Act.put,e0_,e1_,e2_,i64_w,i32_w]
             rfl
            refine pure_ (i:=6) (N:=some 74) (v:=?_) (a':=?_) B51_ rfl rfl (any_of HT_.out (by kernel_rfl)) (fun _ _ _ h=>h) (Or.inl ⟨(by rfl),?_⟩) ?_ ?_
            rotate_left
            ·intro w'
             go_simp
             with_reducible rfl
            rotate_left
            ·simp only [Act.put,e0_,e1_,e2_,i64_w,i32_w]
             rfl
            refine pure_ (i:=7) (N:=some 75) (v:=?_) (a':=?_) B52_ rfl rfl (any_of HT_.out (by kernel_rfl)) (fun _ _ _ h=>h) (Or.inl ⟨(by rfl),?_⟩) ?_ ?_
            rotate_left
            ·intro w'
             go_simp
             with_reducible rfl
            rotate_left
            ·simp only [Act.put,e0_,e1_,e2_,i64_w,i32_w]
             rfl
            refine pure_ (i:=8) (N:=some 76) (v:=?_) (a':=?_) B53_ rfl rfl (any_of HT_.out (by kernel_rfl)) (fun _ _ _ h=>h) (Or.inl ⟨(by rfl),?_⟩) ?_ ?_
            rotate_left
            ·intro w'
             go_simp
             with_reducible rfl
            rotate_left
            ·simp only [Act.put,e0_,e1_,e2_,i64_w,i32_w]
             rfl
            refine take_ (i:=9) (N:=some 77) (v:=?_) (a':=?_) B54_ rfl rfl (take_ofW HT_.out HW_.out (by kernel_rfl)) (fun _ _ _ h=>h) (Or.inl ⟨(by rfl),?_⟩) hHeld ?_ ?_
            rotate_left
            ·rintro w' ⟨s0,s1,s2,s3,s4,s5⟩
             go_simp
             with_reducible rfl
            rotate_left
            ·simp only [Act.put,e0_,e1_,e2_,i64_w,i32_w]
             rfl
            refine one_ (i:=10) (N:=some 78) B55_ rfl rfl (one_of HT_.out (by kernel_rfl)) (by decide) (fun K hK=>?_)
            refine goes_ Tryd.func32 (by kernel_rfl) rfl #[.agg #[.bool a0_0,.string a0_1,.int .i64 a0_2]] (by rfl) rfl rfl q2_ ?_
            with_reducible refine (dec_Dec_Zero.calls a0_0 a0_1 a0_2 false _ A78.out).mono ?_
            rintro e w98 ⟨rfl,hb⟩
            refine ⟨_,rfl,?_⟩
            replace BK101:=Aside0.mk (blk_below (g:=gb101) (o:=.cells #[.bool a0_0,.string a0_1,.int .i64 a0_2] 23 (0,0)) q1_ hb)
            replace BK104:=Aside0.mk (blk_below (g:=gb104) (o:=.cells #[.bool (!a0_0),.string a0_1,.int .i64 a0_2] 23 (0,0)) q3_ hb)
            replace BK108:=Aside0.mk (blk_below (g:=gb108) (o:=.cells #[.bool t105,.string t106,.int .i64 t107] 23 (0,0)) q4_ hb)
            replace BK112:=Aside0.mk (blk_below (g:=gb112) (o:=.cells #[.bool t109,.string t110,.int .i64 t111] 23 (0,0)) q5_ hb)
            replace HB:=Aside0.mk (below_step q0_ hb)
            (try clear hb)
            (try clear hb2)
            (try clear hk)
            (try clear hi)
            refine hK.out _ _ ⟨(blk_cell BK101.out 0).trans rfl,(blk_cell BK101.out 1).trans rfl,(blk_cell BK101.out 2).trans rfl,(blk_cell BK104.out 0).trans rfl,(blk_cell BK104.out 1).trans rfl,(blk_cell BK104.out 2).trans rfl⟩ (fun hHeld=>?_)
            clear hK K
            refine norm_ (a':=?_) ?_ ?_
            rotate_left
            ·show Act.put _ (some 78) _ = _
             simp only [Act.put,e0_,e1_,e2_,i64_w,i32_w]
             rfl
            refine pure_ (i:=11) (N:=some 79) (v:=?_) (a':=?_) B56_ rfl rfl (any_of HT_.out (by kernel_rfl)) (fun _ _ _ h=>h) (Or.inl ⟨(by rfl),?_⟩) ?_ ?_
            rotate_left
            ·intro w'
             go_simp
             with_reducible rfl
            rotate_left
            ·simp only [Act.put,e0_,e1_,e2_,i64_w,i32_w]
             rfl
            refine pure_ (i:=12) (N:=some 80) (v:=?_) (a':=?_) B57_ rfl rfl (any_of HT_.out (by kernel_rfl)) (fun _ _ _ h=>h) (Or.inl ⟨(by rfl),?_⟩) ?_ ?_
            rotate_left
            ·intro w'
             go_simp
             with_reducible rfl
            rotate_left
            ·simp only [Act.put,e0_,e1_,e2_,i64_w,i32_w]
             rfl
            refine take_ (i:=13) (N:=some 81) (v:=?_) (a':=?_) B58_ rfl rfl (take_ofW HT_.out HW_.out (by kernel_rfl)) (fun _ _ _ h=>h) (Or.inl ⟨(by rfl),?_⟩) hHeld ?_ ?_
            rotate_left
            ·rintro w' ⟨s0,s1,s2,s3,s4,s5⟩
             go_simp
             with_reducible rfl
            rotate_left
            ·simp only [Act.put,e0_,e1_,e2_,i64_w,i32_w]
             rfl
            refine take_ (i:=14) (N:=some 82) (v:=?_) (a':=?_) B59_ rfl rfl (take_ofW HT_.out HW_.out (by kernel_rfl)) (fun _ _ _ h=>h) (Or.inl ⟨(by rfl),?_⟩) hHeld ?_ ?_
            rotate_left
            ·rintro w' ⟨s0,s1,s2,s3,s4,s5⟩
             go_simp
             with_reducible rfl
            rotate_left
            ·simp only [Act.put,e0_,e1_,e2_,i64_w,i32_w]
             rfl
            refine take_ (i:=16) (N:=some 84) (v:=?_) (a':=?_) B75_ rfl rfl (take_ofW HT_.out HW_.out (by kernel_rfl)) (fun _ _ _ h=>h) (Or.inl ⟨(by rfl),?_⟩) hHeld ?_ ?_
            rotate_left
            ·rintro w' ⟨s0,s1,s2,s3,s4,s5⟩
             go_simp
             with_reducible rfl
            rotate_left
            ·simp only [Act.put,e0_,e1_,e2_,i64_w,i32_w]
             rfl
            refine take_ (i:=17) (N:=some 85) (v:=?_) (a':=?_) B76_ rfl rfl (take_ofW HT_.out HW_.out (by kernel_rfl)) (fun _ _ _ h=>h) (Or.inl ⟨(by rfl),?_⟩) hHeld ?_ ?_
            rotate_left
            ·rintro w' ⟨s0,s1,s2,s3,s4,s5⟩
             go_simp
             with_reducible rfl
            rotate_left
            ·simp only [Act.put,e0_,e1_,e2_,i64_w,i32_w]
             rfl
            refine one_ (i:=15) (N:=some 83) B62_ rfl rfl (one_of HT_.out (by kernel_rfl)) (by decide) (fun K hK=>?_)
            refine goes_ Tryd.func48 (by kernel_rfl) rfl #[.agg #[.bool a0_0,.string a0_1,.int .i64 a0_2],.agg #[.bool (!a0_0),.string a0_1,.int .i64 a0_2]] (by rfl) rfl rfl q2_ ?_
            with_reducible refine (dec_Dec_Compare.calls kj16 a0_0 a0_1 a0_2 (!a0_0) a0_1 a0_2 t122 _ A84.out).mono ?_
            rintro e w99 ⟨rfl,hb⟩
            refine ⟨_,rfl,?_⟩
            replace BK101:=Aside0.mk (blk_below (g:=gb101) (o:=.cells #[.bool a0_0,.string a0_1,.int .i64 a0_2] 23 (0,0)) q1_ hb)
            replace BK104:=Aside0.mk (blk_below (g:=gb104) (o:=.cells #[.bool (!a0_0),.string a0_1,.int .i64 a0_2] 23 (0,0)) q3_ hb)
            replace BK108:=Aside0.mk (blk_below (g:=gb108) (o:=.cells #[.bool t105,.string t106,.int .i64 t107] 23 (0,0)) q4_ hb)
            replace BK112:=Aside0.mk (blk_below (g:=gb112) (o:=.cells #[.bool t109,.string t110,.int .i64 t111] 23 (0,0)) q5_ hb)
            replace HB:=Aside0.mk (below_step q0_ hb)
            (try clear hb)
            (try clear hb2)
            (try clear hk)
            (try clear hi)
            refine hK.out _ _ ⟨(blk_cell BK101.out 0).trans rfl,(blk_cell BK101.out 1).trans rfl,(blk_cell BK101.out 2).trans rfl,(blk_cell BK104.out 0).trans rfl,(blk_cell BK104.out 1).trans rfl,(blk_cell BK104.out 2).trans rfl⟩ (fun hHeld=>?_)
            clear hK K
            refine norm_ (a':=?_) ?_ ?_
            rotate_left
            ·show Act.put _ (some 83) _ = _
             simp only [Act.put,e0_,e1_,e2_,i64_w,i32_w]
             rfl
            refine one_ (i:=18) (N:=some 86) B63_ rfl rfl (one_of HT_.out (by kernel_rfl)) (by decide) (fun K hK=>?_)
            refine goes_ Tryd.func48 (by kernel_rfl) rfl #[.agg #[.bool (!a0_0),.string a0_1,.int .i64 a0_2],.agg #[.bool a0_0,.string a0_1,.int .i64 a0_2]] (by rfl) rfl rfl q2_ ?_
            with_reducible refine (dec_Dec_Compare.calls kj16 (!a0_0) a0_1 a0_2 a0_0 a0_1 a0_2 t123 _ A85.out).mono ?_
            rintro e w100 ⟨rfl,hb⟩
            refine ⟨_,rfl,?_⟩
            replace BK101:=Aside0.mk (blk_below (g:=gb101) (o:=.cells #[.bool a0_0,.string a0_1,.int .i64 a0_2] 23 (0,0)) q1_ hb)
            replace BK104:=Aside0.mk (blk_below (g:=gb104) (o:=.cells #[.bool (!a0_0),.string a0_1,.int .i64 a0_2] 23 (0,0)) q3_ hb)
            replace BK108:=Aside0.mk (blk_below (g:=gb108) (o:=.cells #[.bool t105,.string t106,.int .i64 t107] 23 (0,0)) q4_ hb)
            replace BK112:=Aside0.mk (blk_below (g:=gb112) (o:=.cells #[.bool t109,.string t110,.int .i64 t111] 23 (0,0)) q5_ hb)
            replace HB:=Aside0.mk (below_step q0_ hb)
            (try clear hb)
            (try clear hb2)
            (try clear hk)
            (try clear hi)
            refine hK.out _ _ ⟨(blk_cell BK101.out 0).trans rfl,(blk_cell BK101.out 1).trans rfl,(blk_cell BK101.out 2).trans rfl,(blk_cell BK104.out 0).trans rfl,(blk_cell BK104.out 1).trans rfl,(blk_cell BK104.out 2).trans rfl⟩ (fun hHeld=>?_)
            clear hK K
            refine norm_ (a':=?_) ?_ ?_
            rotate_left
            ·show Act.put _ (some 86) _ = _
             simp only [Act.put,e0_,e1_,e2_,i64_w,i32_w]
             rfl
            refine pure_ (i:=19) (N:=some 87) (v:=?_) (a':=?_) B64_ rfl rfl (any_of HT_.out (by kernel_rfl)) (fun _ _ _ h=>h) (Or.inl ⟨(by rfl),?_⟩) ?_ ?_
            rotate_left
            ·intro w'
             go_simp
             with_reducible rfl
            rotate_left
            ·simp only [Act.put,e0_,e1_,e2_,i64_w,i32_w]
             rfl
            refine pure_ (i:=20) (N:=some 88) (v:=?_) (a':=?_) B65_ rfl rfl (any_of HT_.out (by kernel_rfl)) (fun _ _ _ h=>h) (Or.inl ⟨(by rfl),?_⟩) ?_ ?_
            rotate_left
            ·intro w'
             go_simp
             with_reducible rfl
            rotate_left
            ·simp only [Act.put,e0_,e1_,e2_,i64_w,i32_w]
             rfl
            refine pure_ (i:=21) (N:=some 89) (v:=?_) (a':=?_) B66_ rfl rfl (any_of HT_.out (by kernel_rfl)) (fun _ _ _ h=>h) (Or.inl ⟨(by rfl),?_⟩) ?_ ?_
            rotate_left
            ·intro w'
             go_simp
             with_reducible rfl
            rotate_left
            ·simp only [Act.put,e0_,e1_,e2_,i64_w,i32_w]
             rfl
            refine pure_ (i:=22) (N:=some 90) (v:=?_) (a':=?_) B67_ rfl rfl (any_of HT_.out (by kernel_rfl)) (fun _ _ _ h=>h) (Or.inl ⟨(by rfl),?_⟩) ?_ ?_
            rotate_left
            ·intro w'
             go_simp
             with_reducible rfl
            rotate_left
            ·simp only [Act.put,e0_,e1_,e2_,i64_w,i32_w]
             rfl
            refine pure_ (i:=23) (N:=some 91) (v:=undef) (a':=?_) B68_ rfl rfl (any_of HT_.out (by kernel_rfl)) (fun _ _ _ h=>h) (Or.inr ⟨(by rfl),rfl⟩) ?_ ?_
            rotate_left
            ·simp only [Act.put,e0_,e1_,e2_,i64_w,i32_w]
             rfl
            refine pure_ (i:=24) (N:=some 92) (v:=undef) (a':=?_) B69_ rfl rfl (any_of HT_.out (by kernel_rfl)) (fun _ _ _ h=>h) (Or.inr ⟨(by rfl),rfl⟩) ?_ ?_
            rotate_left
            ·simp only [Act.put,e0_,e1_,e2_,i64_w,i32_w]
             rfl
            refine pure_ (i:=25) (N:=some 93) (v:=undef) (a':=?_) B70_ rfl rfl (any_of HT_.out (by kernel_rfl)) (fun _ _ _ h=>h) (Or.inr ⟨(by rfl),rfl⟩) ?_ ?_
            rotate_left
            ·simp only [Act.put,e0_,e1_,e2_,i64_w,i32_w]
             rfl
            refine pure_ (i:=26) (N:=some 94) (v:=undef) (a':=?_) B71_ rfl rfl (any_of HT_.out (by kernel_rfl)) (fun _ _ _ h=>h) (Or.inr ⟨(by rfl),rfl⟩) ?_ ?_
            rotate_left
            ·simp only [Act.put,e0_,e1_,e2_,i64_w,i32_w]
             rfl
            refine pure_ (i:=27) (N:=some 95) (v:=?_) (a':=?_) B72_ rfl rfl (any_of HT_.out (by kernel_rfl)) (fun _ _ _ h=>h) (Or.inl ⟨(by rfl),?_⟩) ?_ ?_
            rotate_left
            ·intro w'
             go_simp
             with_reducible rfl
            rotate_left
            ·simp only [Act.put,e0_,e1_,e2_,i64_w,i32_w]
             rfl
            refine pure_ (i:=28) (N:=some 96) (v:=?_) (a':=?_) B73_ rfl rfl (any_of HT_.out (by kernel_rfl)) (fun _ _ _ h=>h) (Or.inl ⟨(by rfl),?_⟩) ?_ ?_
            rotate_left
            ·intro w'
             go_simp
             with_reducible rfl
            rotate_left
            ·simp only [Act.put,e0_,e1_,e2_,i64_w,i32_w]
             rfl
            refine pure_ (i:=29) (N:=some 4) (v:=?_) (a':=?_) B74_ rfl rfl (any_of HT_.out (by kernel_rfl)) (fun _ _ _ h=>h) (Or.inl ⟨(by rfl),?_⟩) ?_ ?_
            rotate_left
            ·intro w'
             go_simp
             with_reducible rfl
            rotate_left
            ·simp only [Act.put,e0_,e1_,e2_,i64_w,i32_w]
             rfl
            refine done_ (done_of HT_.out (by kernel_rfl)) ?_
            try go_wp2
            go_ret
            exact ⟨q11_,q0_⟩
        ·replace c72:=Bool.eq_false_iff.mpr c72
         subst c72
         have H1 : ((dec_Dec_Zero.f a0_0 a0_1 a0_2).bind fun t125=>(if t125 = true then (some false) else ((dec_Dec_Compare.f kj16 a0_0 a0_1 a0_2 (!a0_0) a0_1 a0_2).bind fun t126=>((dec_Dec_Compare.f kj16 (!a0_0) a0_1 a0_2 a0_0 a0_1 a0_2).bind fun t127=>(if t126 = (wrap64 (-t127)) then ((dec_Dec_Compare.f kj16 a0_0 a0_1 a0_2 (!a0_0) a0_1 a0_2).bind fun t128=>(some (t128 != 0))) else (some false)))))) = some r:=by rw [if_neg (show ¬ (false = true) by decide)] at H;exact H
         clear H
         have H:=H1
         clear H1
         replace H:=Option.bind_eq_some_iff.mp H
         obtain ⟨t125,A1010,H⟩:=H
         replace H : (if t125 = true then (some false) else ((dec_Dec_Compare.f kj16 a0_0 a0_1 a0_2 (!a0_0) a0_1 a0_2).bind fun t126=>((dec_Dec_Compare.f kj16 (!a0_0) a0_1 a0_2 a0_0 a0_1 a0_2).bind fun t127=>(if t126 = (wrap64 (-t127)) then ((dec_Dec_Compare.f kj16 a0_0 a0_1 a0_2 (!a0_0) a0_1 a0_2).bind fun t128=>(some (t128 != 0))) else (some false))))) = some r:=H
         have A101:=Aside0.mk A1010
         clear A1010
         by_cases c102 : t125 = true
         ·subst c102
          have H1 : (some false) = some r:=by rw [if_pos rfl] at H;exact H
          clear H
          have H:=H1
          clear H1
          obtain rfl:=Option.some.inj H
          try go_wp2
          replace BK101:=Aside0.mk (blk_drew BK101.out)
          replace BK104:=Aside0.mk (blk_drew BK104.out)
          replace BK108:=Aside0.mk (blk_drew BK108.out)
          replace BK112:=Aside0.mk (blk_drew BK112.out)
          replace HB:=Aside0.mk (below_drew1 HB.out)
          refine start_ (n:=30) (S:=fun w'=>w'.cell? ⟨gb101,0,none⟩ = some (.bool a0_0) ∧ w'.cell? ⟨gb101,1,none⟩ = some (.string a0_1) ∧ w'.cell? ⟨gb101,2,none⟩ = some (.int .i64 a0_2)) (ds:=[]) B44_ (by kernel_rfl) rfl rfl ⟨(blk_cell BK101.out 0).trans rfl,(blk_cell BK101.out 1).trans rfl,(blk_cell BK101.out 2).trans rfl⟩ (fun hHeld=>?_);refine with_tabW polyglotlaw02_DecSigns.tab11 polyglotlaw02_DecSigns.bits11 (fun HT_ HW_=>?_)
          generalize wc.drew = w103 at BK101 BK104 BK108 BK112 HB hHeld ⊢
          refine take_ (i:=0) (N:=some 68) (v:=?_) (a':=?_) B45_ rfl rfl (take_ofW HT_.out HW_.out (by kernel_rfl)) (fun _ _ _ h=>h) (Or.inl ⟨(by rfl),?_⟩) hHeld ?_ ?_
          rotate_left
          ·rintro w' ⟨s0,s1,s2⟩
           go_simp
           with_reducible rfl
          rotate_left
          ·simp only [Act.put,e0_,e1_,e2_,i64_w,i32_w]
           rfl
          refine one_ (i:=1) (N:=some 69) B46_ rfl rfl (one_of HT_.out (by kernel_rfl)) (by decide) (fun K hK=>?_)
          refine goes_ Tryd.func32 (by kernel_rfl) rfl #[.agg #[.bool a0_0,.string a0_1,.int .i64 a0_2]] (by rfl) rfl rfl q2_ ?_
          with_reducible refine (dec_Dec_Zero.calls a0_0 a0_1 a0_2 false _ A71.out).mono ?_
          rintro e w104 ⟨rfl,hb⟩
          refine ⟨_,rfl,?_⟩
          replace BK101:=Aside0.mk (blk_below (g:=gb101) (o:=.cells #[.bool a0_0,.string a0_1,.int .i64 a0_2] 23 (0,0)) q1_ hb)
          replace BK104:=Aside0.mk (blk_below (g:=gb104) (o:=.cells #[.bool (!a0_0),.string a0_1,.int .i64 a0_2] 23 (0,0)) q3_ hb)
          replace BK108:=Aside0.mk (blk_below (g:=gb108) (o:=.cells #[.bool t105,.string t106,.int .i64 t107] 23 (0,0)) q4_ hb)
          replace BK112:=Aside0.mk (blk_below (g:=gb112) (o:=.cells #[.bool t109,.string t110,.int .i64 t111] 23 (0,0)) q5_ hb)
          replace HB:=Aside0.mk (below_step q0_ hb)
          (try clear hb)
          (try clear hb2)
          (try clear hk)
          (try clear hi)
          refine hK.out _ _ ⟨(blk_cell BK101.out 0).trans rfl,(blk_cell BK101.out 1).trans rfl,(blk_cell BK101.out 2).trans rfl⟩ (fun hHeld=>?_)
          clear hK K
          refine norm_ (a':=?_) ?_ ?_
          rotate_left
          ·show Act.put _ (some 69) _ = _
           simp only [Act.put,e0_,e1_,e2_,i64_w,i32_w]
           rfl
          refine pure_ (i:=2) (N:=some 70) (v:=?_) (a':=?_) B47_ rfl rfl (any_of HT_.out (by kernel_rfl)) (fun _ _ _ h=>h) (Or.inl ⟨(by rfl),?_⟩) ?_ ?_
          rotate_left
          ·intro w'
           go_simp
           with_reducible rfl
          rotate_left
          ·simp only [Act.put,e0_,e1_,e2_,i64_w,i32_w]
           rfl
          refine pure_ (i:=3) (N:=some 71) (v:=undef) (a':=?_) B48_ rfl rfl (any_of HT_.out (by kernel_rfl)) (fun _ _ _ h=>h) (Or.inr ⟨(by rfl),rfl⟩) ?_ ?_
          rotate_left
          ·simp only [Act.put,e0_,e1_,e2_,i64_w,i32_w]
           rfl
          refine pure_ (i:=4) (N:=some 72) (v:=undef) (a':=?_) B49_ rfl rfl (any_of HT_.out (by kernel_rfl)) (fun _ _ _ h=>h) (Or.inr ⟨(by rfl),rfl⟩) ?_ ?_
          rotate_left
          ·simp only [Act.put,e0_,e1_,e2_,i64_w,i32_w]
           rfl
          refine pure_ (i:=5) (N:=some 73) (v:=undef) (a':=?_) B50_ rfl rfl (any_of HT_.out (by kernel_rfl)) (fun _ _ _ h=>h) (Or.inr ⟨(by rfl),rfl⟩) ?_ ?_
          rotate_left
          ·simp only [Act.put,e0_,e1_,e2_,i64_w,i32_w]
           rfl
          refine pure_ (i:=6) (N:=some 74) (v:=undef) (a':=?_) B51_ rfl rfl (any_of HT_.out (by kernel_rfl)) (fun _ _ _ h=>h) (Or.inr ⟨(by rfl),rfl⟩) ?_ ?_
          rotate_left
          ·simp only [Act.put,e0_,e1_,e2_,i64_w,i32_w]
           rfl
          refine pure_ (i:=7) (N:=some 75) (v:=?_) (a':=?_) B52_ rfl rfl (any_of HT_.out (by kernel_rfl)) (fun _ _ _ h=>h) (Or.inl ⟨(by rfl),?_⟩) ?_ ?_
          rotate_left
          ·intro w'
           go_simp
           with_reducible rfl
          rotate_left
          ·simp only [Act.put,e0_,e1_,e2_,i64_w,i32_w]
           rfl
          refine pure_ (i:=8) (N:=some 76) (v:=?_) (a':=?_) B53_ rfl rfl (any_of HT_.out (by kernel_rfl)) (fun _ _ _ h=>h) (Or.inl ⟨(by rfl),?_⟩) ?_ ?_
          rotate_left
          ·intro w'
           go_simp
           with_reducible rfl
          rotate_left
          ·simp only [Act.put,e0_,e1_,e2_,i64_w,i32_w]
           rfl
          refine take_ (i:=9) (N:=some 77) (v:=?_) (a':=?_) B54_ rfl rfl (take_ofW HT_.out HW_.out (by kernel_rfl)) (fun _ _ _ h=>h) (Or.inl ⟨(by rfl),?_⟩) hHeld ?_ ?_
          rotate_left
          ·rintro w' ⟨s0,s1,s2⟩
           go_simp
           with_reducible rfl
          rotate_left
          ·simp only [Act.put,e0_,e1_,e2_,i64_w,i32_w]
           rfl
          refine one_ (i:=10) (N:=some 78) B55_ rfl rfl (one_of HT_.out (by kernel_rfl)) (by decide) (fun K hK=>?_)
          refine goes_ Tryd.func32 (by kernel_rfl) rfl #[.agg #[.bool a0_0,.string a0_1,.int .i64 a0_2]] (by rfl) rfl rfl q2_ ?_
          with_reducible refine (dec_Dec_Zero.calls a0_0 a0_1 a0_2 true _ A101.out).mono ?_
          rintro e w105 ⟨rfl,hb⟩
          refine ⟨_,rfl,?_⟩
          replace BK101:=Aside0.mk (blk_below (g:=gb101) (o:=.cells #[.bool a0_0,.string a0_1,.int .i64 a0_2] 23 (0,0)) q1_ hb)
          replace BK104:=Aside0.mk (blk_below (g:=gb104) (o:=.cells #[.bool (!a0_0),.string a0_1,.int .i64 a0_2] 23 (0,0)) q3_ hb)
          replace BK108:=Aside0.mk (blk_below (g:=gb108) (o:=.cells #[.bool t105,.string t106,.int .i64 t107] 23 (0,0)) q4_ hb)
          replace BK112:=Aside0.mk (blk_below (g:=gb112) (o:=.cells #[.bool t109,.string t110,.int .i64 t111] 23 (0,0)) q5_ hb)
          replace HB:=Aside0.mk (below_step q0_ hb)
          (try clear hb)
          (try clear hb2)
          (try clear hk)
          (try clear hi)
          refine hK.out _ _ ⟨(blk_cell BK101.out 0).trans rfl,(blk_cell BK101.out 1).trans rfl,(blk_cell BK101.out 2).trans rfl⟩ (fun hHeld=>?_)
          clear hK K
          refine norm_ (a':=?_) ?_ ?_
          rotate_left
          ·show Act.put _ (some 78) _ = _
           simp only [Act.put,e0_,e1_,e2_,i64_w,i32_w]
           rfl
          refine pure_ (i:=11) (N:=some 79) (v:=?_) (a':=?_) B56_ rfl rfl (any_of HT_.out (by kernel_rfl)) (fun _ _ _ h=>h) (Or.inl ⟨(by rfl),?_⟩) ?_ ?_
          rotate_left
          ·intro w'
           go_simp
           with_reducible rfl
          rotate_left
          ·simp only [Act.put,e0_,e1_,e2_,i64_w,i32_w]
           rfl
          refine pure_ (i:=12) (N:=some 80) (v:=?_) (a':=?_) B57_ rfl rfl (any_of HT_.out (by kernel_rfl)) (fun _ _ _ h=>h) (Or.inl ⟨(by rfl),?_⟩) ?_ ?_
          rotate_left
          ·intro w'
           go_simp
           with_reducible rfl
          rotate_left
          ·simp only [Act.put,e0_,e1_,e2_,i64_w,i32_w]
           rfl
          refine pure_ (i:=13) (N:=some 81) (v:=undef) (a':=?_) B58_ rfl rfl (any_of HT_.out (by kernel_rfl)) (fun _ _ _ h=>h) (Or.inr ⟨(by rfl),rfl⟩) ?_ ?_
          rotate_left
          ·simp only [Act.put,e0_,e1_,e2_,i64_w,i32_w]
           rfl
          refine pure_ (i:=14) (N:=some 82) (v:=undef) (a':=?_) B59_ rfl rfl (any_of HT_.out (by kernel_rfl)) (fun _ _ _ h=>h) (Or.inr ⟨(by rfl),rfl⟩) ?_ ?_
          rotate_left
          ·simp only [Act.put,e0_,e1_,e2_,i64_w,i32_w]
           rfl
          refine pure_ (i:=15) (N:=some 83) (v:=undef) (a':=?_) B60_ rfl rfl (any_of HT_.out (by kernel_rfl)) (fun _ _ _ h=>h) (Or.inr ⟨(by rfl),rfl⟩) ?_ ?_
          rotate_left
          ·simp only [Act.put,e0_,e1_,e2_,i64_w,i32_w]
           rfl
          refine pure_ (i:=16) (N:=some 84) (v:=undef) (a':=?_) B61_ rfl rfl (any_of HT_.out (by kernel_rfl)) (fun _ _ _ h=>h) (Or.inr ⟨(by rfl),rfl⟩) ?_ ?_
          rotate_left
          ·simp only [Act.put,e0_,e1_,e2_,i64_w,i32_w]
           rfl
          refine pure_ (i:=17) (N:=some 85) (v:=undef) (a':=?_) B62_ rfl rfl (any_of HT_.out (by kernel_rfl)) (fun _ _ _ h=>h) (Or.inr ⟨(by rfl),rfl⟩) ?_ ?_
          rotate_left
          ·simp only [Act.put,e0_,e1_,e2_,i64_w,i32_w]
           rfl
          refine pure_ (i:=18) (N:=some 86) (v:=undef) (a':=?_) B63_ rfl rfl (any_of HT_.out (by kernel_rfl)) (fun _ _ _ h=>h) (Or.inr ⟨(by rfl),rfl⟩) ?_ ?_
          rotate_left
          ·simp only [Act.put,e0_,e1_,e2_,i64_w,i32_w]
           rfl
          refine pure_ (i:=19) (N:=some 87) (v:=undef) (a':=?_) B64_ rfl rfl (any_of HT_.out (by kernel_rfl)) (fun _ _ _ h=>h) (Or.inr ⟨(by rfl),rfl⟩) ?_ ?_
          rotate_left
          ·simp only [Act.put,e0_,e1_,e2_,i64_w,i32_w]
           rfl
          refine pure_ (i:=20) (N:=some 88) (v:=undef) (a':=?_) B65_ rfl rfl (any_of HT_.out (by kernel_rfl)) (fun _ _ _ h=>h) (Or.inr ⟨(by rfl),rfl⟩) ?_ ?_
          rotate_left
          ·simp only [Act.put,e0_,e1_,e2_,i64_w,i32_w]
           rfl
          refine pure_ (i:=21) (N:=some 89) (v:=?_) (a':=?_) B66_ rfl rfl (any_of HT_.out (by kernel_rfl)) (fun _ _ _ h=>h) (Or.inl ⟨(by rfl),?_⟩) ?_ ?_
          rotate_left
          ·intro w'
           go_simp
           with_reducible rfl
          rotate_left
          ·simp only [Act.put,e0_,e1_,e2_,i64_w,i32_w]
           rfl
          refine pure_ (i:=22) (N:=some 90) (v:=?_) (a':=?_) B67_ rfl rfl (any_of HT_.out (by kernel_rfl)) (fun _ _ _ h=>h) (Or.inl ⟨(by rfl),?_⟩) ?_ ?_
          rotate_left
          ·intro w'
           go_simp
           with_reducible rfl
          rotate_left
          ·simp only [Act.put,e0_,e1_,e2_,i64_w,i32_w]
           rfl
          refine pure_ (i:=23) (N:=some 91) (v:=undef) (a':=?_) B68_ rfl rfl (any_of HT_.out (by kernel_rfl)) (fun _ _ _ h=>h) (Or.inr ⟨(by rfl),rfl⟩) ?_ ?_
          rotate_left
          ·simp only [Act.put,e0_,e1_,e2_,i64_w,i32_w]
           rfl
          refine pure_ (i:=24) (N:=some 92) (v:=undef) (a':=?_) B69_ rfl rfl (any_of HT_.out (by kernel_rfl)) (fun _ _ _ h=>h) (Or.inr ⟨(by rfl),rfl⟩) ?_ ?_
          rotate_left
          ·simp only [Act.put,e0_,e1_,e2_,i64_w,i32_w]
           rfl
          refine pure_ (i:=25) (N:=some 93) (v:=undef) (a':=?_) B70_ rfl rfl (any_of HT_.out (by kernel_rfl)) (fun _ _ _ h=>h) (Or.inr ⟨(by rfl),rfl⟩) ?_ ?_
          rotate_left
          ·simp only [Act.put,e0_,e1_,e2_,i64_w,i32_w]
           rfl
          refine pure_ (i:=26) (N:=some 94) (v:=undef) (a':=?_) B71_ rfl rfl (any_of HT_.out (by kernel_rfl)) (fun _ _ _ h=>h) (Or.inr ⟨(by rfl),rfl⟩) ?_ ?_
          rotate_left
          ·simp only [Act.put,e0_,e1_,e2_,i64_w,i32_w]
           rfl
          refine pure_ (i:=27) (N:=some 95) (v:=?_) (a':=?_) B72_ rfl rfl (any_of HT_.out (by kernel_rfl)) (fun _ _ _ h=>h) (Or.inl ⟨(by rfl),?_⟩) ?_ ?_
          rotate_left
          ·intro w'
           go_simp
           with_reducible rfl
          rotate_left
          ·simp only [Act.put,e0_,e1_,e2_,i64_w,i32_w]
           rfl
          refine pure_ (i:=28) (N:=some 96) (v:=?_) (a':=?_) B73_ rfl rfl (any_of HT_.out (by kernel_rfl)) (fun _ _ _ h=>h) (Or.inl ⟨(by rfl),?_⟩) ?_ ?_
          rotate_left
          ·intro w'
           go_simp
           with_reducible rfl
          rotate_left
          ·simp only [Act.put,e0_,e1_,e2_,i64_w,i32_w]
           rfl
          refine pure_ (i:=29) (N:=some 4) (v:=?_) (a':=?_) B74_ rfl rfl (any_of HT_.out (by kernel_rfl)) (fun _ _ _ h=>h) (Or.inl ⟨(by rfl),?_⟩) ?_ ?_
          rotate_left
          ·intro w'
           go_simp
           with_reducible rfl
          rotate_left
          ·simp only [Act.put,e0_,e1_,e2_,i64_w,i32_w]
           rfl
          refine done_ (done_of HT_.out (by kernel_rfl)) ?_
          try go_wp2
          go_ret
          exact ⟨q11_,q0_⟩
         ·replace c102:=Bool.eq_false_iff.mpr c102
          subst c102
          have H1 : ((dec_Dec_Compare.f kj16 a0_0 a0_1 a0_2 (!a0_0) a0_1 a0_2).bind fun t126=>((dec_Dec_Compare.f kj16 (!a0_0) a0_1 a0_2 a0_0 a0_1 a0_2).bind fun t127=>(if t126 = (wrap64 (-t127)) then ((dec_Dec_Compare.f kj16 a0_0 a0_1 a0_2 (!a0_0) a0_1 a0_2).bind fun t128=>(some (t128 != 0))) else (some false)))) = some r:=by rw [if_neg (show ¬ (false = true) by decide)] at H;exact H
          clear H
          have H:=H1
          clear H1
          replace H:=Option.bind_eq_some_iff.mp H
          obtain ⟨t126,A1060,H⟩:=H
          replace H : ((dec_Dec_Compare.f kj16 (!a0_0) a0_1 a0_2 a0_0 a0_1 a0_2).bind fun t127=>(if t126 = (wrap64 (-t127)) then ((dec_Dec_Compare.f kj16 a0_0 a0_1 a0_2 (!a0_0) a0_1 a0_2).bind fun t128=>(some (t128 != 0))) else (some false))) = some r:=H
          have A106:=Aside0.mk A1060
          clear A1060
          replace H:=Option.bind_eq_some_iff.mp H
          obtain ⟨t127,A1070,H⟩:=H
          replace H : (if t126 = (wrap64 (-t127)) then ((dec_Dec_Compare.f kj16 a0_0 a0_1 a0_2 (!a0_0) a0_1 a0_2).bind fun t128=>(some (t128 != 0))) else (some false)) = some r:=H
          have A107:=Aside0.mk A1070
          clear A1070
          by_cases c108 : t126 = (wrap64 (-t127))
          ·rw [if_pos c108] at H
           have c108b0 : (t126 == (wrap64 (-t127))) = true:=beq_iff_eq.mpr c108
           have c108b1 : (t126 != (wrap64 (-t127))) = false:=bne_eq_false_iff_eq.mpr c108
           clear c108
           replace H:=Option.bind_eq_some_iff.mp H
           obtain ⟨t128,A1090,H⟩:=H
           replace H : (some (t128 != 0)) = some r:=H
           have A109:=Aside0.mk A1090
           clear A1090
           obtain rfl:=Option.some.inj H
           try go_wp2
           replace BK101:=Aside0.mk (blk_drew BK101.out)
           replace BK104:=Aside0.mk (blk_drew BK104.out)
           replace BK108:=Aside0.mk (blk_drew BK108.out)
           replace BK112:=Aside0.mk (blk_drew BK112.out)
           replace HB:=Aside0.mk (below_drew1 HB.out)
           refine start_ (n:=30) (S:=fun w'=>w'.cell? ⟨gb101,0,none⟩ = some (.bool a0_0) ∧ w'.cell? ⟨gb101,1,none⟩ = some (.string a0_1) ∧ w'.cell? ⟨gb101,2,none⟩ = some (.int .i64 a0_2) ∧ w'.cell? ⟨gb104,0,none⟩ = some (.bool (!a0_0)) ∧ w'.cell? ⟨gb104,1,none⟩ = some (.string a0_1) ∧ w'.cell? ⟨gb104,2,none⟩ = some (.int .i64 a0_2)) (ds:=[]) B44_ (by kernel_rfl) rfl rfl ⟨(blk_cell BK101.out 0).trans rfl,(blk_cell BK101.out 1).trans rfl,(blk_cell BK101.out 2).trans rfl,(blk_cell BK104.out 0).trans rfl,(blk_cell BK104.out 1).trans rfl,(blk_cell BK104.out 2).trans rfl⟩ (fun hHeld=>?_);refine with_tabW polyglotlaw02_DecSigns.tab11 polyglotlaw02_DecSigns.bits11 (fun HT_ HW_=>?_)
           generalize wc.drew = w110 at BK101 BK104 BK108 BK112 HB hHeld ⊢
           refine take_ (i:=0) (N:=some 68) (v:=?_) (a':=?_) B45_ rfl rfl (take_ofW HT_.out HW_.out (by kernel_rfl)) (fun _ _ _ h=>h) (Or.inl ⟨(by rfl),?_⟩) hHeld ?_ ?_
           rotate_left
           ·rintro w' ⟨s0,s1,s2,s3,s4,s5⟩
            go_simp
            with_reducible rfl
           rotate_left
           ·simp only [Act.put,e0_,e1_,e2_,i64_w,i32_w]
            rfl
           refine one_ (i:=1) (N:=some 69) B46_ rfl rfl (one_of HT_.out (by kernel_rfl)) (by decide) (fun K hK=>?_)
           refine goes_ Tryd.func32 (by kernel_rfl) rfl #[.agg #[.bool a0_0,.string a0_1,.int .i64 a0_2]] (by rfl) rfl rfl q2_ ?_
           with_reducible refine (dec_Dec_Zero.calls a0_0 a0_1 a0_2 false _ A71.out).mono ?_
           rintro e w111 ⟨rfl,hb⟩
           refine ⟨_,rfl,?_⟩
           replace BK101:=Aside0.mk (blk_below (g:=gb101) (o:=.cells #[.bool a0_0,.string a0_1,.int .i64 a0_2] 23 (0,0)) q1_ hb)
           replace BK104:=Aside0.mk (blk_below (g:=gb104) (o:=.cells #[.bool (!a0_0),.string a0_1,.int .i64 a0_2] 23 (0,0)) q3_ hb)
           replace BK108:=Aside0.mk (blk_below (g:=gb108) (o:=.cells #[.bool t105,.string t106,.int .i64 t107] 23 (0,0)) q4_ hb)
           replace BK112:=Aside0.mk (blk_below (g:=gb112) (o:=.cells #[.bool t109,.string t110,.int .i64 t111] 23 (0,0)) q5_ hb)
           replace HB:=Aside0.mk (below_step q0_ hb)
           (try clear hb)
           (try clear hb2)
           (try clear hk)
           (try clear hi)
           refine hK.out _ _ ⟨(blk_cell BK101.out 0).trans rfl,(blk_cell BK101.out 1).trans rfl,(blk_cell BK101.out 2).trans rfl,(blk_cell BK104.out 0).trans rfl,(blk_cell BK104.out 1).trans rfl,(blk_cell BK104.out 2).trans rfl⟩ (fun hHeld=>?_)
           clear hK K
           refine norm_ (a':=?_) ?_ ?_
           rotate_left
           ·show Act.put _ (some 69) _ = _
            simp only [Act.put,e0_,e1_,e2_,i64_w,i32_w]
            rfl
           refine pure_ (i:=2) (N:=some 70) (v:=?_) (a':=?_) B47_ rfl rfl (any_of HT_.out (by kernel_rfl)) (fun _ _ _ h=>h) (Or.inl ⟨(by rfl),?_⟩) ?_ ?_
           rotate_left
           ·intro w'
            go_simp
            with_reducible rfl
           rotate_left
           ·simp only [Act.put,e0_,e1_,e2_,i64_w,i32_w]
            rfl
           refine pure_ (i:=3) (N:=some 71) (v:=undef) (a':=?_) B48_ rfl rfl (any_of HT_.out (by kernel_rfl)) (fun _ _ _ h=>h) (Or.inr ⟨(by rfl),rfl⟩) ?_ ?_
           rotate_left
           ·simp only [Act.put,e0_,e1_,e2_,i64_w,i32_w]
            rfl
           refine pure_ (i:=4) (N:=some 72) (v:=undef) (a':=?_) B49_ rfl rfl (any_of HT_.out (by kernel_rfl)) (fun _ _ _ h=>h) (Or.inr ⟨(by rfl),rfl⟩) ?_ ?_
           rotate_left
           ·simp only [Act.put,e0_,e1_,e2_,i64_w,i32_w]
            rfl
           refine pure_ (i:=5) (N:=some 73) (v:=undef) (a':=?_) B50_ rfl rfl (any_of HT_.out (by kernel_rfl)) (fun _ _ _ h=>h) (Or.inr ⟨(by rfl),rfl⟩) ?_ ?_
           rotate_left
           ·simp only [Act.put,e0_,e1_,e2_,i64_w,i32_w]
            rfl
           refine pure_ (i:=6) (N:=some 74) (v:=undef) (a':=?_) B51_ rfl rfl (any_of HT_.out (by kernel_rfl)) (fun _ _ _ h=>h) (Or.inr ⟨(by rfl),rfl⟩) ?_ ?_
           rotate_left
           ·simp only [Act.put,e0_,e1_,e2_,i64_w,i32_w]
            rfl
           refine pure_ (i:=7) (N:=some 75) (v:=?_) (a':=?_) B52_ rfl rfl (any_of HT_.out (by kernel_rfl)) (fun _ _ _ h=>h) (Or.inl ⟨(by rfl),?_⟩) ?_ ?_
           rotate_left
           ·intro w'
            go_simp
            with_reducible rfl
           rotate_left
           ·simp only [Act.put,e0_,e1_,e2_,i64_w,i32_w]
            rfl
           refine pure_ (i:=8) (N:=some 76) (v:=?_) (a':=?_) B53_ rfl rfl (any_of HT_.out (by kernel_rfl)) (fun _ _ _ h=>h) (Or.inl ⟨(by rfl),?_⟩) ?_ ?_
           rotate_left
           ·intro w'
            go_simp
            with_reducible rfl
           rotate_left
           ·simp only [Act.put,e0_,e1_,e2_,i64_w,i32_w]
            rfl
           refine take_ (i:=9) (N:=some 77) (v:=?_) (a':=?_) B54_ rfl rfl (take_ofW HT_.out HW_.out (by kernel_rfl)) (fun _ _ _ h=>h) (Or.inl ⟨(by rfl),?_⟩) hHeld ?_ ?_
           rotate_left
           ·rintro w' ⟨s0,s1,s2,s3,s4,s5⟩
            go_simp
            with_reducible rfl
           rotate_left
           ·simp only [Act.put,e0_,e1_,e2_,i64_w,i32_w]
            rfl
           refine one_ (i:=10) (N:=some 78) B55_ rfl rfl (one_of HT_.out (by kernel_rfl)) (by decide) (fun K hK=>?_)
           refine goes_ Tryd.func32 (by kernel_rfl) rfl #[.agg #[.bool a0_0,.string a0_1,.int .i64 a0_2]] (by rfl) rfl rfl q2_ ?_
           with_reducible refine (dec_Dec_Zero.calls a0_0 a0_1 a0_2 false _ A101.out).mono ?_
           rintro e w112 ⟨rfl,hb⟩
           refine ⟨_,rfl,?_⟩
           replace BK101:=Aside0.mk (blk_below (g:=gb101) (o:=.cells #[.bool a0_0,.string a0_1,.int .i64 a0_2] 23 (0,0)) q1_ hb)
           replace BK104:=Aside0.mk (blk_below (g:=gb104) (o:=.cells #[.bool (!a0_0),.string a0_1,.int .i64 a0_2] 23 (0,0)) q3_ hb)
           replace BK108:=Aside0.mk (blk_below (g:=gb108) (o:=.cells #[.bool t105,.string t106,.int .i64 t107] 23 (0,0)) q4_ hb)
           replace BK112:=Aside0.mk (blk_below (g:=gb112) (o:=.cells #[.bool t109,.string t110,.int .i64 t111] 23 (0,0)) q5_ hb)
           replace HB:=Aside0.mk (below_step q0_ hb)
           (try clear hb)
           (try clear hb2)
           (try clear hk)
           (try clear hi)
           refine hK.out _ _ ⟨(blk_cell BK101.out 0).trans rfl,(blk_cell BK101.out 1).trans rfl,(blk_cell BK101.out 2).trans rfl,(blk_cell BK104.out 0).trans rfl,(blk_cell BK104.out 1).trans rfl,(blk_cell BK104.out 2).trans rfl⟩ (fun hHeld=>?_)
           clear hK K
           refine norm_ (a':=?_) ?_ ?_
           rotate_left
           ·show Act.put _ (some 78) _ = _
            simp only [Act.put,e0_,e1_,e2_,i64_w,i32_w]
            rfl
           refine pure_ (i:=11) (N:=some 79) (v:=?_) (a':=?_) B56_ rfl rfl (any_of HT_.out (by kernel_rfl)) (fun _ _ _ h=>h) (Or.inl ⟨(by rfl),?_⟩) ?_ ?_
           rotate_left
           ·intro w'
            go_simp
            with_reducible rfl
           rotate_left
           ·simp only [Act.put,e0_,e1_,e2_,i64_w,i32_w]
            rfl
           refine pure_ (i:=12) (N:=some 80) (v:=?_) (a':=?_) B57_ rfl rfl (any_of HT_.out (by kernel_rfl)) (fun _ _ _ h=>h) (Or.inl ⟨(by rfl),?_⟩) ?_ ?_
           rotate_left
           ·intro w'
            go_simp
            with_reducible rfl
           rotate_left
           ·simp only [Act.put,e0_,e1_,e2_,i64_w,i32_w]
            rfl
           refine take_ (i:=13) (N:=some 81) (v:=?_) (a':=?_) B58_ rfl rfl (take_ofW HT_.out HW_.out (by kernel_rfl)) (fun _ _ _ h=>h) (Or.inl ⟨(by rfl),?_⟩) hHeld ?_ ?_
           rotate_left
           ·rintro w' ⟨s0,s1,s2,s3,s4,s5⟩
            go_simp
            with_reducible rfl
           rotate_left
           ·simp only [Act.put,e0_,e1_,e2_,i64_w,i32_w]
            rfl
           refine take_ (i:=14) (N:=some 82) (v:=?_) (a':=?_) B59_ rfl rfl (take_ofW HT_.out HW_.out (by kernel_rfl)) (fun _ _ _ h=>h) (Or.inl ⟨(by rfl),?_⟩) hHeld ?_ ?_
           rotate_left
           ·rintro w' ⟨s0,s1,s2,s3,s4,s5⟩
            go_simp
            with_reducible rfl
           rotate_left
           ·simp only [Act.put,e0_,e1_,e2_,i64_w,i32_w]
            rfl
           refine take_ (i:=16) (N:=some 84) (v:=?_) (a':=?_) B75_ rfl rfl (take_ofW HT_.out HW_.out (by kernel_rfl)) (fun _ _ _ h=>h) (Or.inl ⟨(by rfl),?_⟩) hHeld ?_ ?_
           rotate_left
           ·rintro w' ⟨s0,s1,s2,s3,s4,s5⟩
            go_simp
            with_reducible rfl
           rotate_left
           ·simp only [Act.put,e0_,e1_,e2_,i64_w,i32_w]
            rfl
           refine take_ (i:=17) (N:=some 85) (v:=?_) (a':=?_) B76_ rfl rfl (take_ofW HT_.out HW_.out (by kernel_rfl)) (fun _ _ _ h=>h) (Or.inl ⟨(by rfl),?_⟩) hHeld ?_ ?_
           rotate_left
           ·rintro w' ⟨s0,s1,s2,s3,s4,s5⟩
            go_simp
            with_reducible rfl
           rotate_left
           ·simp only [Act.put,e0_,e1_,e2_,i64_w,i32_w]
            rfl
           refine one_ (i:=15) (N:=some 83) B62_ rfl rfl (one_of HT_.out (by kernel_rfl)) (by decide) (fun K hK=>?_)
           refine goes_ Tryd.func48 (by kernel_rfl) rfl #[.agg #[.bool a0_0,.string a0_1,.int .i64 a0_2],.agg #[.bool (!a0_0),.string a0_1,.int .i64 a0_2]] (by rfl) rfl rfl q2_ ?_
           with_reducible refine (dec_Dec_Compare.calls kj16 a0_0 a0_1 a0_2 (!a0_0) a0_1 a0_2 t126 _ A106.out).mono ?_
           rintro e w113 ⟨rfl,hb⟩
           refine ⟨_,rfl,?_⟩
           replace BK101:=Aside0.mk (blk_below (g:=gb101) (o:=.cells #[.bool a0_0,.string a0_1,.int .i64 a0_2] 23 (0,0)) q1_ hb)
           replace BK104:=Aside0.mk (blk_below (g:=gb104) (o:=.cells #[.bool (!a0_0),.string a0_1,.int .i64 a0_2] 23 (0,0)) q3_ hb)
           replace BK108:=Aside0.mk (blk_below (g:=gb108) (o:=.cells #[.bool t105,.string t106,.int .i64 t107] 23 (0,0)) q4_ hb)
           replace BK112:=Aside0.mk (blk_below (g:=gb112) (o:=.cells #[.bool t109,.string t110,.int .i64 t111] 23 (0,0)) q5_ hb)
           replace HB:=Aside0.mk (below_step q0_ hb)
           (try clear hb)
           (try clear hb2)
           (try clear hk)
           (try clear hi)
           refine hK.out _ _ ⟨(blk_cell BK101.out 0).trans rfl,(blk_cell BK101.out 1).trans rfl,(blk_cell BK101.out 2).trans rfl,(blk_cell BK104.out 0).trans rfl,(blk_cell BK104.out 1).trans rfl,(blk_cell BK104.out 2).trans rfl⟩ (fun hHeld=>?_)
           clear hK K
           refine norm_ (a':=?_) ?_ ?_
           rotate_left
           ·show Act.put _ (some 83) _ = _
            simp only [Act.put,e0_,e1_,e2_,i64_w,i32_w]
            rfl
           refine one_ (i:=18) (N:=some 86) B63_ rfl rfl (one_of HT_.out (by kernel_rfl)) (by decide) (fun K hK=>?_)
           refine goes_ Tryd.func48 (by kernel_rfl) rfl #[.agg #[.bool (!a0_0),.string a0_1,.int .i64 a0_2],.agg #[.bool a0_0,.string a0_1,.int .i64 a0_2]] (by rfl) rfl rfl q2_ ?_
           with_reducible refine (dec_Dec_Compare.calls kj16 (!a0_0) a0_1 a0_2 a0_0 a0_1 a0_2 t127 _ A107.out).mono ?_
           rintro e w114 ⟨rfl,hb⟩
           refine ⟨_,rfl,?_⟩
           replace BK101:=Aside0.mk (blk_below (g:=gb101) (o:=.cells #[.bool a0_0,.string a0_1,.int .i64 a0_2] 23 (0,0)) q1_ hb)
           replace BK104:=Aside0.mk (blk_below (g:=gb104) (o:=.cells #[.bool (!a0_0),.string a0_1,.int .i64 a0_2] 23 (0,0)) q3_ hb)
           replace BK108:=Aside0.mk (blk_below (g:=gb108) (o:=.cells #[.bool t105,.string t106,.int .i64 t107] 23 (0,0)) q4_ hb)
           replace BK112:=Aside0.mk (blk_below (g:=gb112) (o:=.cells #[.bool t109,.string t110,.int .i64 t111] 23 (0,0)) q5_ hb)
           replace HB:=Aside0.mk (below_step q0_ hb)
           (try clear hb)
           (try clear hb2)
           (try clear hk)
           (try clear hi)
           refine hK.out _ _ ⟨(blk_cell BK101.out 0).trans rfl,(blk_cell BK101.out 1).trans rfl,(blk_cell BK101.out 2).trans rfl,(blk_cell BK104.out 0).trans rfl,(blk_cell BK104.out 1).trans rfl,(blk_cell BK104.out 2).trans rfl⟩ (fun hHeld=>?_)
           clear hK K
           refine norm_ (a':=?_) ?_ ?_
           rotate_left
           ·show Act.put _ (some 86) _ = _
            simp only [Act.put,e0_,e1_,e2_,i64_w,i32_w]
            rfl
           refine pure_ (i:=19) (N:=some 87) (v:=?_) (a':=?_) B64_ rfl rfl (any_of HT_.out (by kernel_rfl)) (fun _ _ _ h=>h) (Or.inl ⟨(by rfl),?_⟩) ?_ ?_
           rotate_left
           ·intro w'
            go_simp
            with_reducible rfl
           rotate_left
           ·simp only [Act.put,e0_,e1_,e2_,i64_w,i32_w]
            rfl
           refine pure_ (i:=20) (N:=some 88) (v:=?_) (a':=?_) B65_ rfl rfl (any_of HT_.out (by kernel_rfl)) (fun _ _ _ h=>h) (Or.inl ⟨(by rfl),?_⟩) ?_ ?_
           rotate_left
           ·intro w'
            go_simp
            with_reducible rfl
           rotate_left
           ·simp only [Act.put,e0_,e1_,e2_,i64_w,i32_w]
            rfl
           refine pure_ (i:=21) (N:=some 89) (v:=?_) (a':=?_) B66_ rfl rfl (any_of HT_.out (by kernel_rfl)) (fun _ _ _ h=>h) (Or.inl ⟨(by rfl),?_⟩) ?_ ?_
           rotate_left
           ·intro w'
            go_simp
            with_reducible rfl
           rotate_left
           ·simp only [Act.put,e0_,e1_,e2_,i64_w,i32_w]
            rfl
           refine pure_ (i:=22) (N:=some 90) (v:=?_) (a':=?_) B67_ rfl rfl (any_of HT_.out (by kernel_rfl)) (fun _ _ _ h=>h) (Or.inl ⟨(by rfl),?_⟩) ?_ ?_
           rotate_left
           ·intro w'
            go_simp
            with_reducible rfl
           rotate_left
           ·simp only [Act.put,e0_,e1_,e2_,i64_w,i32_w]
            rfl
           refine take_ (i:=23) (N:=some 91) (v:=?_) (a':=?_) B68_ rfl rfl (take_ofW HT_.out HW_.out (by kernel_rfl)) (fun _ _ _ h=>h) (Or.inl ⟨(by rfl),?_⟩) hHeld ?_ ?_
           rotate_left
           ·rintro w' ⟨s0,s1,s2,s3,s4,s5⟩
            go_simp
            with_reducible rfl
           rotate_left
           ·simp only [Act.put,e0_,e1_,e2_,i64_w,i32_w]
            rfl
           refine take_ (i:=24) (N:=some 92) (v:=?_) (a':=?_) B69_ rfl rfl (take_ofW HT_.out HW_.out (by kernel_rfl)) (fun _ _ _ h=>h) (Or.inl ⟨(by rfl),?_⟩) hHeld ?_ ?_
           rotate_left
           ·rintro w' ⟨s0,s1,s2,s3,s4,s5⟩
            go_simp
            with_reducible rfl
           rotate_left
           ·simp only [Act.put,e0_,e1_,e2_,i64_w,i32_w]
            rfl
           refine one_ (i:=25) (N:=some 93) B70_ rfl rfl (one_of HT_.out (by kernel_rfl)) (by decide) (fun K hK=>?_)
           refine goes_ Tryd.func48 (by kernel_rfl) rfl #[.agg #[.bool a0_0,.string a0_1,.int .i64 a0_2],.agg #[.bool (!a0_0),.string a0_1,.int .i64 a0_2]] (by rfl) rfl rfl q2_ ?_
           with_reducible refine (dec_Dec_Compare.calls kj16 a0_0 a0_1 a0_2 (!a0_0) a0_1 a0_2 t128 _ A109.out).mono ?_
           rintro e w115 ⟨rfl,hb⟩
           refine ⟨_,rfl,?_⟩
           replace BK101:=Aside0.mk (blk_below (g:=gb101) (o:=.cells #[.bool a0_0,.string a0_1,.int .i64 a0_2] 23 (0,0)) q1_ hb)
           replace BK104:=Aside0.mk (blk_below (g:=gb104) (o:=.cells #[.bool (!a0_0),.string a0_1,.int .i64 a0_2] 23 (0,0)) q3_ hb)
           replace BK108:=Aside0.mk (blk_below (g:=gb108) (o:=.cells #[.bool t105,.string t106,.int .i64 t107] 23 (0,0)) q4_ hb)
           replace BK112:=Aside0.mk (blk_below (g:=gb112) (o:=.cells #[.bool t109,.string t110,.int .i64 t111] 23 (0,0)) q5_ hb)
           replace HB:=Aside0.mk (below_step q0_ hb)
           (try clear hb)
           (try clear hb2)
           (try clear hk)
           (try clear hi)
           refine hK.out _ _ ⟨(blk_cell BK101.out 0).trans rfl,(blk_cell BK101.out 1).trans rfl,(blk_cell BK101.out 2).trans rfl,(blk_cell BK104.out 0).trans rfl,(blk_cell BK104.out 1).trans rfl,(blk_cell BK104.out 2).trans rfl⟩ (fun hHeld=>?_)
           clear hK K
           refine norm_ (a':=?_) ?_ ?_
           rotate_left
           ·show Act.put _ (some 93) _ = _
            simp only [Act.put,e0_,e1_,e2_,i64_w,i32_w]
            rfl
           refine pure_ (i:=26) (N:=some 94) (v:=?_) (a':=?_) B71_ rfl rfl (any_of HT_.out (by kernel_rfl)) (fun _ _ _ h=>h) (Or.inl ⟨(by rfl),?_⟩) ?_ ?_
           rotate_left
           ·intro w'
            go_simp
            with_reducible rfl
           rotate_left
           ·simp only [Act.put,e0_,e1_,e2_,i64_w,i32_w]
            rfl
           refine pure_ (i:=27) (N:=some 95) (v:=?_) (a':=?_) B72_ rfl rfl (any_of HT_.out (by kernel_rfl)) (fun _ _ _ h=>h) (Or.inl ⟨(by rfl),?_⟩) ?_ ?_
           rotate_left
           ·intro w'
            go_simp
            with_reducible rfl
           rotate_left
           ·simp only [Act.put,e0_,e1_,e2_,i64_w,i32_w]
            rfl
           refine pure_ (i:=28) (N:=some 96) (v:=?_) (a':=?_) B73_ rfl rfl (any_of HT_.out (by kernel_rfl)) (fun _ _ _ h=>h) (Or.inl ⟨(by rfl),?_⟩) ?_ ?_
           rotate_left
           ·intro w'
            go_simp
            with_reducible rfl
           rotate_left
           ·simp only [Act.put,e0_,e1_,e2_,i64_w,i32_w]
            rfl
           refine pure_ (i:=29) (N:=some 4) (v:=?_) (a':=?_) B74_ rfl rfl (any_of HT_.out (by kernel_rfl)) (fun _ _ _ h=>h) (Or.inl ⟨(by rfl),?_⟩) ?_ ?_
           rotate_left
           ·intro w'
            go_simp
            with_reducible rfl
           rotate_left
           ·simp only [Act.put,e0_,e1_,e2_,i64_w,i32_w]
            rfl
           refine done_ (done_of HT_.out (by kernel_rfl)) ?_
           try go_wp2
           go_ret
           exact ⟨q11_,q0_⟩
          ·rw [if_neg c108] at H
           have c108b0 : (t126 == (wrap64 (-t127))) = false:=beq_eq_false_iff_ne.mpr c108
           have c108b1 : (t126 != (wrap64 (-t127))) = true:=bne_iff_ne.mpr c108
           obtain rfl:=Option.some.inj H
           try go_wp2
           replace BK101:=Aside0.mk (blk_drew BK101.out)
           replace BK104:=Aside0.mk (blk_drew BK104.out)
           replace BK108:=Aside0.mk (blk_drew BK108.out)
           replace BK112:=Aside0.mk (blk_drew BK112.out)
           replace HB:=Aside0.mk (below_drew1 HB.out)
           refine start_ (n:=30) (S:=fun w'=>w'.cell? ⟨gb101,0,none⟩ = some (.bool a0_0) ∧ w'.cell? ⟨gb101,1,none⟩ = some (.string a0_1) ∧ w'.cell? ⟨gb101,2,none⟩ = some (.int .i64 a0_2) ∧ w'.cell? ⟨gb104,0,none⟩ = some (.bool (!a0_0)) ∧ w'.cell? ⟨gb104,1,none⟩ = some (.string a0_1) ∧ w'.cell? ⟨gb104,2,none⟩ = some (.int .i64 a0_2)) (ds:=[]) B44_ (by kernel_rfl) rfl rfl ⟨(blk_cell BK101.out 0).trans rfl,(blk_cell BK101.out 1).trans rfl,(blk_cell BK101.out 2).trans rfl,(blk_cell BK104.out 0).trans rfl,(blk_cell BK104.out 1).trans rfl,(blk_cell BK104.out 2).trans rfl⟩ (fun hHeld=>?_);refine with_tabW polyglotlaw02_DecSigns.tab11 polyglotlaw02_DecSigns.bits11 (fun HT_ HW_=>?_)
           generalize wc.drew = w116 at BK101 BK104 BK108 BK112 HB hHeld ⊢
           refine take_ (i:=0) (N:=some 68) (v:=?_) (a':=?_) B45_ rfl rfl (take_ofW HT_.out HW_.out (by kernel_rfl)) (fun _ _ _ h=>h) (Or.inl ⟨(by rfl),?_⟩) hHeld ?_ ?_
           rotate_left
           ·rintro w' ⟨s0,s1,s2,s3,s4,s5⟩
            go_simp
            with_reducible rfl
           rotate_left
           ·simp only [Act.put,e0_,e1_,e2_,i64_w,i32_w]
            rfl
           refine one_ (i:=1) (N:=some 69) B46_ rfl rfl (one_of HT_.out (by kernel_rfl)) (by decide) (fun K hK=>?_)
           refine goes_ Tryd.func32 (by kernel_rfl) rfl #[.agg #[.bool a0_0,.string a0_1,.int .i64 a0_2]] (by rfl) rfl rfl q2_ ?_
           with_reducible refine (dec_Dec_Zero.calls a0_0 a0_1 a0_2 false _ A71.out).mono ?_
           rintro e w117 ⟨rfl,hb⟩
           refine ⟨_,rfl,?_⟩
           replace BK101:=Aside0.mk (blk_below (g:=gb101) (o:=.cells #[.bool a0_0,.string a0_1,.int .i64 a0_2] 23 (0,0)) q1_ hb)
           replace BK104:=Aside0.mk (blk_below (g:=gb104) (o:=.cells #[.bool (!a0_0),.string a0_1,.int .i64 a0_2] 23 (0,0)) q3_ hb)
           replace BK108:=Aside0.mk (blk_below (g:=gb108) (o:=.cells #[.bool t105,.string t106,.int .i64 t107] 23 (0,0)) q4_ hb)
           replace BK112:=Aside0.mk (blk_below (g:=gb112) (o:=.cells #[.bool t109,.string t110,.int .i64 t111] 23 (0,0)) q5_ hb)
           replace HB:=Aside0.mk (below_step q0_ hb)
           (try clear hb)
           (try clear hb2)
           (try clear hk)
           (try clear hi)
           refine hK.out _ _ ⟨(blk_cell BK101.out 0).trans rfl,(blk_cell BK101.out 1).trans rfl,(blk_cell BK101.out 2).trans rfl,(blk_cell BK104.out 0).trans rfl,(blk_cell BK104.out 1).trans rfl,(blk_cell BK104.out 2).trans rfl⟩ (fun hHeld=>?_)
           clear hK K
           refine norm_ (a':=?_) ?_ ?_
           rotate_left
           ·show Act.put _ (some 69) _ = _
            simp only [Act.put,e0_,e1_,e2_,i64_w,i32_w]
            rfl
           refine pure_ (i:=2) (N:=some 70) (v:=?_) (a':=?_) B47_ rfl rfl (any_of HT_.out (by kernel_rfl)) (fun _ _ _ h=>h) (Or.inl ⟨(by rfl),?_⟩) ?_ ?_
           rotate_left
           ·intro w'
            go_simp
            with_reducible rfl
           rotate_left
           ·simp only [Act.put,e0_,e1_,e2_,i64_w,i32_w]
            rfl
           refine pure_ (i:=3) (N:=some 71) (v:=undef) (a':=?_) B48_ rfl rfl (any_of HT_.out (by kernel_rfl)) (fun _ _ _ h=>h) (Or.inr ⟨(by rfl),rfl⟩) ?_ ?_
           rotate_left
           ·simp only [Act.put,e0_,e1_,e2_,i64_w,i32_w]
            rfl
           refine pure_ (i:=4) (N:=some 72) (v:=undef) (a':=?_) B49_ rfl rfl (any_of HT_.out (by kernel_rfl)) (fun _ _ _ h=>h) (Or.inr ⟨(by rfl),rfl⟩) ?_ ?_
           rotate_left
           ·simp only [Act.put,e0_,e1_,e2_,i64_w,i32_w]
            rfl
           refine pure_ (i:=5) (N:=some 73) (v:=undef) (a':=?_) B50_ rfl rfl (any_of HT_.out (by kernel_rfl)) (fun _ _ _ h=>h) (Or.inr ⟨(by rfl),rfl⟩) ?_ ?_
           rotate_left
           ·simp only [Act.put,e0_,e1_,e2_,i64_w,i32_w]
            rfl
           refine pure_ (i:=6) (N:=some 74) (v:=undef) (a':=?_) B51_ rfl rfl (any_of HT_.out (by kernel_rfl)) (fun _ _ _ h=>h) (Or.inr ⟨(by rfl),rfl⟩) ?_ ?_
           rotate_left
           ·simp only [Act.put,e0_,e1_,e2_,i64_w,i32_w]
            rfl
           refine pure_ (i:=7) (N:=some 75) (v:=?_) (a':=?_) B52_ rfl rfl (any_of HT_.out (by kernel_rfl)) (fun _ _ _ h=>h) (Or.inl ⟨(by rfl),?_⟩) ?_ ?_
           rotate_left
           ·intro w'
            go_simp
            with_reducible rfl
           rotate_left
           ·simp only [Act.put,e0_,e1_,e2_,i64_w,i32_w]
            rfl
           refine pure_ (i:=8) (N:=some 76) (v:=?_) (a':=?_) B53_ rfl rfl (any_of HT_.out (by kernel_rfl)) (fun _ _ _ h=>h) (Or.inl ⟨(by rfl),?_⟩) ?_ ?_
           rotate_left
           ·intro w'
            go_simp
            with_reducible rfl
           rotate_left
           ·simp only [Act.put,e0_,e1_,e2_,i64_w,i32_w]
            rfl
           refine take_ (i:=9) (N:=some 77) (v:=?_) (a':=?_) B54_ rfl rfl (take_ofW HT_.out HW_.out (by kernel_rfl)) (fun _ _ _ h=>h) (Or.inl ⟨(by rfl),?_⟩) hHeld ?_ ?_
           rotate_left
           ·rintro w' ⟨s0,s1,s2,s3,s4,s5⟩
            go_simp
            with_reducible rfl
           rotate_left
           ·simp only [Act.put,e0_,e1_,e2_,i64_w,i32_w]
            rfl
           refine one_ (i:=10) (N:=some 78) B55_ rfl rfl (one_of HT_.out (by kernel_rfl)) (by decide) (fun K hK=>?_)
           refine goes_ Tryd.func32 (by kernel_rfl) rfl #[.agg #[.bool a0_0,.string a0_1,.int .i64 a0_2]] (by rfl) rfl rfl q2_ ?_
           with_reducible refine (dec_Dec_Zero.calls a0_0 a0_1 a0_2 false _ A101.out).mono ?_
           rintro e w118 ⟨rfl,hb⟩
           refine ⟨_,rfl,?_⟩
           replace BK101:=Aside0.mk (blk_below (g:=gb101) (o:=.cells #[.bool a0_0,.string a0_1,.int .i64 a0_2] 23 (0,0)) q1_ hb)
           replace BK104:=Aside0.mk (blk_below (g:=gb104) (o:=.cells #[.bool (!a0_0),.string a0_1,.int .i64 a0_2] 23 (0,0)) q3_ hb)
           replace BK108:=Aside0.mk (blk_below (g:=gb108) (o:=.cells #[.bool t105,.string t106,.int .i64 t107] 23 (0,0)) q4_ hb)
           replace BK112:=Aside0.mk (blk_below (g:=gb112) (o:=.cells #[.bool t109,.string t110,.int .i64 t111] 23 (0,0)) q5_ hb)
           replace HB:=Aside0.mk (below_step q0_ hb)
           (try clear hb)
           (try clear hb2)
           (try clear hk)
           (try clear hi)
           refine hK.out _ _ ⟨(blk_cell BK101.out 0).trans rfl,(blk_cell BK101.out 1).trans rfl,(blk_cell BK101.out 2).trans rfl,(blk_cell BK104.out 0).trans rfl,(blk_cell BK104.out 1).trans rfl,(blk_cell BK104.out 2).trans rfl⟩ (fun hHeld=>?_)
           clear hK K
           refine norm_ (a':=?_) ?_ ?_
           rotate_left
           ·show Act.put _ (some 78) _ = _
            simp only [Act.put,e0_,e1_,e2_,i64_w,i32_w]
            rfl
           refine pure_ (i:=11) (N:=some 79) (v:=?_) (a':=?_) B56_ rfl rfl (any_of HT_.out (by kernel_rfl)) (fun _ _ _ h=>h) (Or.inl ⟨(by rfl),?_⟩) ?_ ?_
           rotate_left
           ·intro w'
            go_simp
            with_reducible rfl
           rotate_left
           ·simp only [Act.put,e0_,e1_,e2_,i64_w,i32_w]
            rfl
           refine pure_ (i:=12) (N:=some 80) (v:=?_) (a':=?_) B57_ rfl rfl (any_of HT_.out (by kernel_rfl)) (fun _ _ _ h=>h) (Or.inl ⟨(by rfl),?_⟩) ?_ ?_
           rotate_left
           ·intro w'
            go_simp
            with_reducible rfl
           rotate_left
           ·simp only [Act.put,e0_,e1_,e2_,i64_w,i32_w]
            rfl
           refine take_ (i:=13) (N:=some 81) (v:=?_) (a':=?_) B58_ rfl rfl (take_ofW HT_.out HW_.out (by kernel_rfl)) (fun _ _ _ h=>h) (Or.inl ⟨(by rfl),?_⟩) hHeld ?_ ?_
           rotate_left
           ·rintro w' ⟨s0,s1,s2,s3,s4,s5⟩
            go_simp
            with_reducible rfl
           rotate_left
           ·simp only [Act.put,e0_,e1_,e2_,i64_w,i32_w]
            rfl
           refine take_ (i:=14) (N:=some 82) (v:=?_) (a':=?_) B59_ rfl rfl (take_ofW HT_.out HW_.out (by kernel_rfl)) (fun _ _ _ h=>h) (Or.inl ⟨(by rfl),?_⟩) hHeld ?_ ?_
           rotate_left
           ·rintro w' ⟨s0,s1,s2,s3,s4,s5⟩
            go_simp
            with_reducible rfl
           rotate_left
           ·simp only [Act.put,e0_,e1_,e2_,i64_w,i32_w]
            rfl
           refine take_ (i:=16) (N:=some 84) (v:=?_) (a':=?_) B75_ rfl rfl (take_ofW HT_.out HW_.out (by kernel_rfl)) (fun _ _ _ h=>h) (Or.inl ⟨(by rfl),?_⟩) hHeld ?_ ?_
           rotate_left
           ·rintro w' ⟨s0,s1,s2,s3,s4,s5⟩
            go_simp
            with_reducible rfl
           rotate_left
           ·simp only [Act.put,e0_,e1_,e2_,i64_w,i32_w]
            rfl
           refine take_ (i:=17) (N:=some 85) (v:=?_) (a':=?_) B76_ rfl rfl (take_ofW HT_.out HW_.out (by kernel_rfl)) (fun _ _ _ h=>h) (Or.inl ⟨(by rfl),?_⟩) hHeld ?_ ?_
           rotate_left
           ·rintro w' ⟨s0,s1,s2,s3,s4,s5⟩
            go_simp
            with_reducible rfl
           rotate_left
           ·simp only [Act.put,e0_,e1_,e2_,i64_w,i32_w]
            rfl
           refine one_ (i:=15) (N:=some 83) B62_ rfl rfl (one_of HT_.out (by kernel_rfl)) (by decide) (fun K hK=>?_)
           refine goes_ Tryd.func48 (by kernel_rfl) rfl #[.agg #[.bool a0_0,.string a0_1,.int .i64 a0_2],.agg #[.bool (!a0_0),.string a0_1,.int .i64 a0_2]] (by rfl) rfl rfl q2_ ?_
           with_reducible refine (dec_Dec_Compare.calls kj16 a0_0 a0_1 a0_2 (!a0_0) a0_1 a0_2 t126 _ A106.out).mono ?_
           rintro e w119 ⟨rfl,hb⟩
           refine ⟨_,rfl,?_⟩
           replace BK101:=Aside0.mk (blk_below (g:=gb101) (o:=.cells #[.bool a0_0,.string a0_1,.int .i64 a0_2] 23 (0,0)) q1_ hb)
           replace BK104:=Aside0.mk (blk_below (g:=gb104) (o:=.cells #[.bool (!a0_0),.string a0_1,.int .i64 a0_2] 23 (0,0)) q3_ hb)
           replace BK108:=Aside0.mk (blk_below (g:=gb108) (o:=.cells #[.bool t105,.string t106,.int .i64 t107] 23 (0,0)) q4_ hb)
           replace BK112:=Aside0.mk (blk_below (g:=gb112) (o:=.cells #[.bool t109,.string t110,.int .i64 t111] 23 (0,0)) q5_ hb)
           replace HB:=Aside0.mk (below_step q0_ hb)
           (try clear hb)
           (try clear hb2)
           (try clear hk)
           (try clear hi)
           refine hK.out _ _ ⟨(blk_cell BK101.out 0).trans rfl,(blk_cell BK101.out 1).trans rfl,(blk_cell BK101.out 2).trans rfl,(blk_cell BK104.out 0).trans rfl,(blk_cell BK104.out 1).trans rfl,(blk_cell BK104.out 2).trans rfl⟩ (fun hHeld=>?_)
           clear hK K
           refine norm_ (a':=?_) ?_ ?_
           rotate_left
           ·show Act.put _ (some 83) _ = _
            simp only [Act.put,e0_,e1_,e2_,i64_w,i32_w]
            rfl
           refine one_ (i:=18) (N:=some 86) B63_ rfl rfl (one_of HT_.out (by kernel_rfl)) (by decide) (fun K hK=>?_)
           refine goes_ Tryd.func48 (by kernel_rfl) rfl #[.agg #[.bool (!a0_0),.string a0_1,.int .i64 a0_2],.agg #[.bool a0_0,.string a0_1,.int .i64 a0_2]] (by rfl) rfl rfl q2_ ?_
           with_reducible refine (dec_Dec_Compare.calls kj16 (!a0_0) a0_1 a0_2 a0_0 a0_1 a0_2 t127 _ A107.out).mono ?_
           rintro e w120 ⟨rfl,hb⟩
           refine ⟨_,rfl,?_⟩
           replace BK101:=Aside0.mk (blk_below (g:=gb101) (o:=.cells #[.bool a0_0,.string a0_1,.int .i64 a0_2] 23 (0,0)) q1_ hb)
           replace BK104:=Aside0.mk (blk_below (g:=gb104) (o:=.cells #[.bool (!a0_0),.string a0_1,.int .i64 a0_2] 23 (0,0)) q3_ hb)
           replace BK108:=Aside0.mk (blk_below (g:=gb108) (o:=.cells #[.bool t105,.string t106,.int .i64 t107] 23 (0,0)) q4_ hb)
           replace BK112:=Aside0.mk (blk_below (g:=gb112) (o:=.cells #[.bool t109,.string t110,.int .i64 t111] 23 (0,0)) q5_ hb)
           replace HB:=Aside0.mk (below_step q0_ hb)
           (try clear hb)
           (try clear hb2)
           (try clear hk)
           (try clear hi)
           refine hK.out _ _ ⟨(blk_cell BK101.out 0).trans rfl,(blk_cell BK101.out 1).trans rfl,(blk_cell BK101.out 2).trans rfl,(blk_cell BK104.out 0).trans rfl,(blk_cell BK104.out 1).trans rfl,(blk_cell BK104.out 2).trans rfl⟩ (fun hHeld=>?_)
           clear hK K
           refine norm_ (a':=?_) ?_ ?_
           rotate_left
           ·show Act.put _ (some 86) _ = _
            simp only [Act.put,e0_,e1_,e2_,i64_w,i32_w]
            rfl
           refine pure_ (i:=19) (N:=some 87) (v:=?_) (a':=?_) B64_ rfl rfl (any_of HT_.out (by kernel_rfl)) (fun _ _ _ h=>h) (Or.inl ⟨(by rfl),?_⟩) ?_ ?_
           rotate_left
           ·intro w'
            go_simp
            with_reducible rfl
           rotate_left
           ·simp only [Act.put,e0_,e1_,e2_,i64_w,i32_w]
            rfl
           refine pure_ (i:=20) (N:=some 88) (v:=?_) (a':=?_) B65_ rfl rfl (any_of HT_.out (by kernel_rfl)) (fun _ _ _ h=>h) (Or.inl ⟨(by rfl),?_⟩) ?_ ?_
           rotate_left
           ·intro w'
            go_simp
            with_reducible rfl
           rotate_left
           ·simp only [Act.put,e0_,e1_,e2_,i64_w,i32_w]
            rfl
           refine pure_ (i:=21) (N:=some 89) (v:=?_) (a':=?_) B66_ rfl rfl (any_of HT_.out (by kernel_rfl)) (fun _ _ _ h=>h) (Or.inl ⟨(by rfl),?_⟩) ?_ ?_
           rotate_left
           ·intro w'
            go_simp
            with_reducible rfl
           rotate_left
           ·simp only [Act.put,e0_,e1_,e2_,i64_w,i32_w]
            rfl
           refine pure_ (i:=22) (N:=some 90) (v:=?_) (a':=?_) B67_ rfl rfl (any_of HT_.out (by kernel_rfl)) (fun _ _ _ h=>h) (Or.inl ⟨(by rfl),?_⟩) ?_ ?_
           rotate_left
           ·intro w'
            go_simp
            with_reducible rfl
           rotate_left
           ·simp only [Act.put,e0_,e1_,e2_,i64_w,i32_w]
            rfl
           refine pure_ (i:=23) (N:=some 91) (v:=undef) (a':=?_) B68_ rfl rfl (any_of HT_.out (by kernel_rfl)) (fun _ _ _ h=>h) (Or.inr ⟨(by rfl),rfl⟩) ?_ ?_
           rotate_left
           ·simp only [Act.put,e0_,e1_,e2_,i64_w,i32_w]
            rfl
           refine pure_ (i:=24) (N:=some 92) (v:=undef) (a':=?_) B69_ rfl rfl (any_of HT_.out (by kernel_rfl)) (fun _ _ _ h=>h) (Or.inr ⟨(by rfl),rfl⟩) ?_ ?_
           rotate_left
           ·simp only [Act.put,e0_,e1_,e2_,i64_w,i32_w]
            rfl
           refine pure_ (i:=25) (N:=some 93) (v:=undef) (a':=?_) B70_ rfl rfl (any_of HT_.out (by kernel_rfl)) (fun _ _ _ h=>h) (Or.inr ⟨(by rfl),rfl⟩) ?_ ?_
           rotate_left
           ·simp only [Act.put,e0_,e1_,e2_,i64_w,i32_w]
            rfl
           refine pure_ (i:=26) (N:=some 94) (v:=undef) (a':=?_) B71_ rfl rfl (any_of HT_.out (by kernel_rfl)) (fun _ _ _ h=>h) (Or.inr ⟨(by rfl),rfl⟩) ?_ ?_
           rotate_left
           ·simp only [Act.put,e0_,e1_,e2_,i64_w,i32_w]
            rfl
           refine pure_ (i:=27) (N:=some 95) (v:=?_) (a':=?_) B72_ rfl rfl (any_of HT_.out (by kernel_rfl)) (fun _ _ _ h=>h) (Or.inl ⟨(by rfl),?_⟩) ?_ ?_
           rotate_left
           ·intro w'
            go_simp
            with_reducible rfl
           rotate_left
           ·simp only [Act.put,e0_,e1_,e2_,i64_w,i32_w]
            rfl
           refine pure_ (i:=28) (N:=some 96) (v:=?_) (a':=?_) B73_ rfl rfl (any_of HT_.out (by kernel_rfl)) (fun _ _ _ h=>h) (Or.inl ⟨(by rfl),?_⟩) ?_ ?_
           rotate_left
           ·intro w'
            go_simp
            with_reducible rfl
           rotate_left
           ·simp only [Act.put,e0_,e1_,e2_,i64_w,i32_w]
            rfl
           refine pure_ (i:=29) (N:=some 4) (v:=?_) (a':=?_) B74_ rfl rfl (any_of HT_.out (by kernel_rfl)) (fun _ _ _ h=>h) (Or.inl ⟨(by rfl),?_⟩) ?_ ?_
           rotate_left
           ·intro w'
            go_simp
            with_reducible rfl
           rotate_left
           ·simp only [Act.put,e0_,e1_,e2_,i64_w,i32_w]
            rfl
           refine done_ (done_of HT_.out (by kernel_rfl)) ?_
           try go_wp2
           go_ret
           exact ⟨q11_,q0_⟩
 ·replace c4:=Bool.eq_false_iff.mpr c4
  subst c4
  have H1 : (some false) = some r:=by rw [if_neg (show ¬ (false = true) by decide)] at H;exact H
  clear H
  have H:=H1
  clear H1
  obtain rfl:=Option.some.inj H
  go_enter Tryd.func15,Tryd.ntmps15
  go_wp2_with (first | ((with_reducible refine gate_dst (N:=2) rfl ?_);refine box_event ?hg (N:=2) ?hd (cs:=#[.bool a0_0,.string a0_1,.int .i64 a0_2]) (t:=23) ?hr ?_;(case hd=>rfl);(case hg=>rfl);(case hr=>exact u0_);intro gb101 hg w121 hbox hb;have BK101:=Aside0.mk (hbox);have GW101:=Aside0.mk (((by rw [hg];exact (below_size q13_)) : w.heap.size ≤ gb101));have GE101:=Aside0.mk (((by rw [hg];exact (below_size q13_)) : w.heap.size ≤ gb101));replace HB:=Aside0.mk (below_step q13_ hb);clear hb hbox hg) | ((with_reducible refine gate_callee (f:=34) rfl ?_);refine goesL_ (some 8) rfl rfl Tryd.func34 (by kernel_rfl) rfl #[] rfl q2_ ?_;(with_reducible refine (polyglotlaw02_head.calls k  false _ A3.out).mono ?_);rintro e w122 ⟨rfl,hb⟩;refine ⟨_,rfl,?_⟩;replace BK101:=Aside0.mk (blk_below (g:=gb101) (o:=.cells #[.bool a0_0,.string a0_1,.int .i64 a0_2] 23 (0,0)) q1_ hb);replace HB:=Aside0.mk (below_step q10_ hb);(try clear hb);(try clear hb2);(try clear hk);(try clear hi)))
  go_ret
  exact ⟨q11_,q10_⟩
end Go.Proofs.YtonjkoeacedaiaaDoor.G4
