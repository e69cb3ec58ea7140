/- polyglotlaw18.ScriptReads: for every slice of bytes the call returns true and leaves it unchanged. (Text 5 of 9: what the law's proof rests on, joined; walks printed by the kit's print over given contracts, walks and plain laws by hand.) -/
import Derived.Laws.Runes
import Derived.Test.YtdhpcofnddkcaaaGreatDoorRd0
import Derived.Test.YtdhpcofnddkcaaaGreatDoorRd1
import Derived.Test.YtdhpcofnddkcaaaGreatDoorRd2
import Derived.Test.YtdhpcofnddkcaaaGreatDoorRd3
namespace Go.Proofs.YtdhpcofnddkcaaaGreatDoor.S
open Go.RowKit Go.Proofs.YtdhpcofnddkcaaaGreatDoor.G Go.Proofs.YtdhpcofnddkcaaaGreatDoorW.PrintWords Go.Proofs.YtdhpcofnddkcaaaGreatDoorW.PrintLast Go.Proofs.YtdhpcofnddkcaaaGreatDoorW.PrintMore
attribute [local go_sem] max2_int min2_int max_two min_two max_three min_three max_four min_four
set_option linter.unusedVariables false
set_option linter.unusedSimpArgs false
namespace Sx8
theorem cells3 {w : World} {g : Nat} {t : TypeId} {a0 a1 a2 : Value} (h : w.heap[g]? = some (.cells #[a0, a1, a2] t (0, 0))) : w.cell? ⟨g, 0, none⟩ = some a0 ∧ w.cell? ⟨g, 1, none⟩ = some a1 ∧ w.cell? ⟨g, 2, none⟩ = some a2 := ⟨(blk_cell h 0).trans rfl, (blk_cell h 1).trans rfl, (blk_cell h 2).trans rfl⟩
theorem cellsF3 {w : World} {g : Nat} {t : TypeId} {a0 a1 a2 : Value} (h : w.heap[g]? = some (.cells #[a0, a1, a2] t (0, 0))) : w.cell? ⟨g, 0, none⟩ = some a0 ∧ w.cell? ⟨g, 1, none⟩ = some a1 ∧ w.cell? ⟨g, 2, none⟩ = some a2 ∧ w.frozen? ⟨g, 0, none⟩ = false ∧ w.frozen? ⟨g, 1, none⟩ = false ∧ w.frozen? ⟨g, 2, none⟩ = false := ⟨(blk_cell h 0).trans rfl, (blk_cell h 1).trans rfl, (blk_cell h 2).trans rfl, blk_frozen h 0, blk_frozen h 1, blk_frozen h 2⟩
theorem cells8 {w : World} {g : Nat} {t : TypeId} {a0 a1 a2 a3 a4 a5 a6 a7 : Value} (h : w.heap[g]? = some (.cells #[a0, a1, a2, a3, a4, a5, a6, a7] t (0, 0))) : w.cell? ⟨g, 0, none⟩ = some a0 ∧ w.cell? ⟨g, 1, none⟩ = some a1 ∧ w.cell? ⟨g, 2, none⟩ = some a2 ∧ w.cell? ⟨g, 3, none⟩ = some a3 ∧ w.cell? ⟨g, 4, none⟩ = some a4 ∧ w.cell? ⟨g, 5, none⟩ = some a5 ∧ w.cell? ⟨g, 6, none⟩ = some a6 ∧ w.cell? ⟨g, 7, none⟩ = some a7 := ⟨(blk_cell h 0).trans rfl, (blk_cell h 1).trans rfl, (blk_cell h 2).trans rfl, (blk_cell h 3).trans rfl, (blk_cell h 4).trans rfl, (blk_cell h 5).trans rfl, (blk_cell h 6).trans rfl, (blk_cell h 7).trans rfl⟩
theorem cellsF8 {w : World} {g : Nat} {t : TypeId} {a0 a1 a2 a3 a4 a5 a6 a7 : Value} (h : w.heap[g]? = some (.cells #[a0, a1, a2, a3, a4, a5, a6, a7] t (0, 0))) : w.cell? ⟨g, 0, none⟩ = some a0 ∧ w.cell? ⟨g, 1, none⟩ = some a1 ∧ w.cell? ⟨g, 2, none⟩ = some a2 ∧ w.cell? ⟨g, 3, none⟩ = some a3 ∧ w.cell? ⟨g, 4, none⟩ = some a4 ∧ w.cell? ⟨g, 5, none⟩ = some a5 ∧ w.cell? ⟨g, 6, none⟩ = some a6 ∧ w.cell? ⟨g, 7, none⟩ = some a7 ∧ w.frozen? ⟨g, 0, none⟩ = false ∧ w.frozen? ⟨g, 1, none⟩ = false ∧ w.frozen? ⟨g, 2, none⟩ = false ∧ w.frozen? ⟨g, 3, none⟩ = false ∧ w.frozen? ⟨g, 4, none⟩ = false ∧ w.frozen? ⟨g, 5, none⟩ = false ∧ w.frozen? ⟨g, 6, none⟩ = false ∧ w.frozen? ⟨g, 7, none⟩ = false := ⟨(blk_cell h 0).trans rfl, (blk_cell h 1).trans rfl, (blk_cell h 2).trans rfl, (blk_cell h 3).trans rfl, (blk_cell h 4).trans rfl, (blk_cell h 5).trans rfl, (blk_cell h 6).trans rfl, (blk_cell h 7).trans rfl, blk_frozen h 0, blk_frozen h 1, blk_frozen h 2, blk_frozen h 3, blk_frozen h 4, blk_frozen h 5, blk_frozen h 6, blk_frozen h 7⟩
theorem cells12 {w : World} {g : Nat} {t : TypeId} {a0 a1 a2 a3 a4 a5 a6 a7 a8 a9 a10 a11 : Value} (h : w.heap[g]? = some (.cells #[a0, a1, a2, a3, a4, a5, a6, a7, a8, a9, a10, a11] t (0, 0))) : w.cell? ⟨g, 0, none⟩ = some a0 ∧ w.cell? ⟨g, 1, none⟩ = some a1 ∧ w.cell? ⟨g, 2, none⟩ = some a2 ∧ w.cell? ⟨g, 3, none⟩ = some a3 ∧ w.cell? ⟨g, 4, none⟩ = some a4 ∧ w.cell? ⟨g, 5, none⟩ = some a5 ∧ w.cell? ⟨g, 6, none⟩ = some a6 ∧ w.cell? ⟨g, 7, none⟩ = some a7 ∧ w.cell? ⟨g, 8, none⟩ = some a8 ∧ w.cell? ⟨g, 9, none⟩ = some a9 ∧ w.cell? ⟨g, 10, none⟩ = some a10 ∧ w.cell? ⟨g, 11, none⟩ = some a11 := ⟨(blk_cell h 0).trans rfl, (blk_cell h 1).trans rfl, (blk_cell h 2).trans rfl, (blk_cell h 3).trans rfl, (blk_cell h 4).trans rfl, (blk_cell h 5).trans rfl, (blk_cell h 6).trans rfl, (blk_cell h 7).trans rfl, (blk_cell h 8).trans rfl, (blk_cell h 9).trans rfl, (blk_cell h 10).trans rfl, (blk_cell h 11).trans rfl⟩
theorem cellsF12 {w : World} {g : Nat} {t : TypeId} {a0 a1 a2 a3 a4 a5 a6 a7 a8 a9 a10 a11 : Value} (h : w.heap[g]? = some (.cells #[a0, a1, a2, a3, a4, a5, a6, a7, a8, a9, a10, a11] t (0, 0))) : w.cell? ⟨g, 0, none⟩ = some a0 ∧ w.cell? ⟨g, 1, none⟩ = some a1 ∧ w.cell? ⟨g, 2, none⟩ = some a2 ∧ w.cell? ⟨g, 3, none⟩ = some a3 ∧ w.cell? ⟨g, 4, none⟩ = some a4 ∧ w.cell? ⟨g, 5, none⟩ = some a5 ∧ w.cell? ⟨g, 6, none⟩ = some a6 ∧ w.cell? ⟨g, 7, none⟩ = some a7 ∧ w.cell? ⟨g, 8, none⟩ = some a8 ∧ w.cell? ⟨g, 9, none⟩ = some a9 ∧ w.cell? ⟨g, 10, none⟩ = some a10 ∧ w.cell? ⟨g, 11, none⟩ = some a11 ∧ w.frozen? ⟨g, 0, none⟩ = false ∧ w.frozen? ⟨g, 1, none⟩ = false ∧ w.frozen? ⟨g, 2, none⟩ = false ∧ w.frozen? ⟨g, 3, none⟩ = false ∧ w.frozen? ⟨g, 4, none⟩ = false ∧ w.frozen? ⟨g, 5, none⟩ = false ∧ w.frozen? ⟨g, 6, none⟩ = false ∧ w.frozen? ⟨g, 7, none⟩ = false ∧ w.frozen? ⟨g, 8, none⟩ = false ∧ w.frozen? ⟨g, 9, none⟩ = false ∧ w.frozen? ⟨g, 10, none⟩ = false ∧ w.frozen? ⟨g, 11, none⟩ = false := ⟨(blk_cell h 0).trans rfl, (blk_cell h 1).trans rfl, (blk_cell h 2).trans rfl, (blk_cell h 3).trans rfl, (blk_cell h 4).trans rfl, (blk_cell h 5).trans rfl, (blk_cell h 6).trans rfl, (blk_cell h 7).trans rfl, (blk_cell h 8).trans rfl, (blk_cell h 9).trans rfl, (blk_cell h 10).trans rfl, (blk_cell h 11).trans rfl, blk_frozen h 0, blk_frozen h 1, blk_frozen h 2, blk_frozen h 3, blk_frozen h 4, blk_frozen h 5, blk_frozen h 6, blk_frozen h 7, blk_frozen h 8, blk_frozen h 9, blk_frozen h 10, blk_frozen h 11⟩
theorem q0_ {p_ : Prop} (h_ : p_ := by repeat (first | (with_reducible first | exact HB.out | apply below_alloc | apply pw_below_drewN | apply below_drew1 | refine below_set ?_ GE192.out) | exact HB.out)) : p_ := h_
theorem q1_ {p_ : Prop} (h_ : p_ := by (with_reducible repeat (first | refine blk_drewN ?_ _ | refine blk_drew ?_ | refine blk_alloc ?_ _)); exact BK192.out) : p_ := h_
theorem q2_ {p_ : Prop} (h_ : p_ := by repeat (first | (with_reducible first | exact HB.out | apply below_alloc | apply pw_below_drewN | apply below_drew1 | refine below_set ?_ GE192.out | refine below_set ?_ GE194.out) | exact HB.out)) : p_ := h_
theorem q3_ {p_ : Prop} (h_ : p_ := by (with_reducible repeat (first | refine blk_drewN ?_ _ | refine blk_drew ?_ | refine blk_alloc ?_ _)); refine blk_put (cs := #[.string ((rd_T44 l0_7 x78_2).f0), .int .i64 ((rd_T44 l0_7 x78_2).f1), .string (⟨#[]⟩ : ByteArray)]) ?_ 2 _ rfl; (with_reducible repeat (first | refine blk_drewN ?_ _ | refine blk_drew ?_ | refine blk_alloc ?_ _)); refine blk_put (cs := #[.string ((rd_T44 l0_7 x78_2).f0), .int .i64 0, .string (⟨#[]⟩ : ByteArray)]) ?_ 1 _ rfl; (with_reducible repeat (first | refine blk_drewN ?_ _ | refine blk_drew ?_ | refine blk_alloc ?_ _)); refine blk_put (cs := #[.string (⟨#[]⟩ : ByteArray), .int .i64 0, .string (⟨#[]⟩ : ByteArray)]) ?_ 0 _ rfl; (with_reducible repeat (first | refine blk_drewN ?_ _ | refine blk_drew ?_ | refine blk_alloc ?_ _)); exact BK194.out) : p_ := h_
theorem q4_ {p_ : Prop} (h_ : p_ := by (with_reducible repeat (first | refine blk_drewN ?_ _ | refine blk_drew ?_ | refine blk_alloc ?_ _)); refine blk_far ?_ NB192_194.out _; (with_reducible repeat (first | refine blk_drewN ?_ _ | refine blk_drew ?_ | refine blk_alloc ?_ _)); refine blk_far ?_ NB192_194.out _; (with_reducible repeat (first | refine blk_drewN ?_ _ | refine blk_drew ?_ | refine blk_alloc ?_ _)); refine blk_far ?_ NB192_194.out _; (with_reducible repeat (first | refine blk_drewN ?_ _ | refine blk_drew ?_ | refine blk_alloc ?_ _)); exact BK192.out) : p_ := h_
theorem q5_ {p_ : Prop} (h_ : p_ := by rw [hg]; exact Nat.ne_of_lt (blk_lt (g := gb192) (o := .cells #[.int .i64 a0_0, .string a0_1, .string a0_2, .bool a0_3, .slice A0_4 l0_4.length c0_4, .string a0_5, .string a0_6, .slice (some ad193) l0_7.length c0_7] 29 (0, 0)) q1_)) : p_ := h_
theorem q6_ {p_ : Prop} (h_ : p_ := by rw [hg]; exact Nat.ne_of_gt (blk_lt (g := gb192) (o := .cells #[.int .i64 a0_0, .string a0_1, .string a0_2, .bool a0_3, .slice A0_4 l0_4.length c0_4, .string a0_5, .string a0_6, .slice (some ad193) l0_7.length c0_7] 29 (0, 0)) q1_)) : p_ := h_
theorem q7_ {p_ : Prop} (h_ : p_ := by (with_reducible repeat (first | refine blk_drewN ?_ _ | refine blk_drew ?_ | refine blk_alloc ?_ _)); exact BK194.out) : p_ := h_
theorem q8_ {p_ : Prop} (h_ : p_ := by first | rfl | (simp; done) | (simp [*]; done)) : p_ := h_
theorem q9_ {p_ : Prop} (h_ : p_ := by repeat (first | (with_reducible first | exact HB.out | apply below_alloc | apply pw_below_drewN | apply below_drew1) | exact HB.out)) : p_ := h_
theorem q10_ {p_ : Prop} (h_ : p_ := by rw [hg]; exact Nat.ne_of_lt (blk_lt (g := gb194) (o := .cells #[.string ((rd_T44 l0_7 x78_2).f0), .int .i64 ((rd_T44 l0_7 x78_2).f1), .string ((rd_T44 l0_7 x78_2).f2)] 44 (0, 0)) q7_)) : p_ := h_
theorem q11_ {p_ : Prop} (h_ : p_ := by rw [hg]; exact Nat.ne_of_gt (blk_lt (g := gb194) (o := .cells #[.string ((rd_T44 l0_7 x78_2).f0), .int .i64 ((rd_T44 l0_7 x78_2).f1), .string ((rd_T44 l0_7 x78_2).f2)] 44 (0, 0)) q7_)) : p_ := h_
theorem q12_ {p_ : Prop} (h_ : p_ := by first | omega | exact Nat.le_refl _) : p_ := h_
theorem q13_ {p_ : Prop} (h_ : p_ := by rw [hg]; exact (below_size q0_)) : p_ := h_
theorem q14_ {p_ : Prop} (h_ : p_ := by rw [hg]; exact (below_size q2_)) : p_ := h_
theorem q15_ {p_ : Prop} (h_ : p_ := by repeat (first | (with_reducible first | exact HB.out | apply below_alloc | apply pw_below_drewN | apply below_drew1 | refine below_set ?_ GE192.out | refine below_set ?_ GE194.out | refine below_set ?_ GE208.out) | exact HB.out)) : p_ := h_
theorem q16_ {p_ : Prop} (h_ : p_ := by first | rfl | (simp [errW_none, errW_some] <;> rfl) | (simp [*, errW_none, errW_some] <;> rfl)) : p_ := h_
theorem q17_ {p_ : Prop} (h_ : p_ := by rw [hg]; exact (below_size q9_)) : p_ := h_
theorem q18_ {p_ : Prop} (h_ : p_ := by first | (with_reducible assumption) | assumption) : p_ := h_
theorem u0_ {p_ : Prop} (h_ : p_ := by first | (go_simp; done) | (go_simp; rfl)) : p_ := h_
end Sx8
open Sx8
mutual
def script_Step_Right.j0 : Nat → Bool → Int → ByteArray → ByteArray → Bool → List ByteArray → ByteArray → ByteArray → List (S44) → Option (Bool)
 | 0, _, _, _, _, _, _, _, _, _ => none
 | k + 1, x74, x193000, x193001, x193002, x193003, x193004, x193005, x193006, x193007 => if x74 = true then (some false) else (script_Step_Right.l0 k x193007 (x193007.length : Int) 0)
def script_Step_Right.l0 : Nat → List (S44) → Int → Int → Option (Bool)
 | 0, _, _, _ => none
 | k + 1, x76, x77, x78 => if x78 < x77 then (if 0 ≤ x78 then (if x78 < (x76.length : Int) then ((script_Arg_Value.f ((rd_T44 x76 x78).f0) ((rd_T44 x76 x78).f1) ((rd_T44 x76 x78).f2)).bind fun bt195 => (if bt195.2.2.2.2.2.2.2.2.2.2.2.2 = true then (script_Step_Right.l0 k x76 x77 (wrap64 (x78 + 1))) else (some false))) else (none)) else (none)) else (some true)
end
def script_Step_Right.f (k : Nat) (a0_0 : Int) (a0_1 : ByteArray) (a0_2 : ByteArray) (a0_3 : Bool) (l0_4 : List ByteArray) (a0_5 : ByteArray) (a0_6 : ByteArray) (l0_7 : List (S44)) : Option (Bool) := if a0_0 < 0 then (script_Step_Right.j0 k true a0_0 a0_1 a0_2 a0_3 l0_4 a0_5 a0_6 l0_7) else (if a0_0 > 2 then (script_Step_Right.j0 k true a0_0 a0_1 a0_2 a0_3 l0_4 a0_5 a0_6 l0_7) else (if a0_0 = 0 then (if a0_0 = 2 then (if a0_1.toList = ([] : List UInt8) then (if a0_0 = 1 then (script_Step_Right.j0 k false a0_0 a0_1 a0_2 a0_3 l0_4 a0_5 a0_6 l0_7) else (if (l0_4.length : Int) > 0 then (script_Step_Right.j0 k true a0_0 a0_1 a0_2 a0_3 l0_4 a0_5 a0_6 l0_7) else (script_Step_Right.j0 k false a0_0 a0_1 a0_2 a0_3 l0_4 a0_5 a0_6 l0_7))) else (script_Step_Right.j0 k true a0_0 a0_1 a0_2 a0_3 l0_4 a0_5 a0_6 l0_7)) else (if a0_0 = 1 then (if a0_5.toList = ([] : List UInt8) then (if a0_6.toList = ([] : List UInt8) then (script_Step_Right.j0 k (decide ((l0_7.length : Int) > 0)) a0_0 a0_1 a0_2 a0_3 l0_4 a0_5 a0_6 l0_7) else (script_Step_Right.j0 k true a0_0 a0_1 a0_2 a0_3 l0_4 a0_5 a0_6 l0_7)) else (script_Step_Right.j0 k true a0_0 a0_1 a0_2 a0_3 l0_4 a0_5 a0_6 l0_7)) else (if (l0_4.length : Int) > 0 then (script_Step_Right.j0 k true a0_0 a0_1 a0_2 a0_3 l0_4 a0_5 a0_6 l0_7) else (if a0_5.toList = ([] : List UInt8) then (if a0_6.toList = ([] : List UInt8) then (script_Step_Right.j0 k (decide ((l0_7.length : Int) > 0)) a0_0 a0_1 a0_2 a0_3 l0_4 a0_5 a0_6 l0_7) else (script_Step_Right.j0 k true a0_0 a0_1 a0_2 a0_3 l0_4 a0_5 a0_6 l0_7)) else (script_Step_Right.j0 k true a0_0 a0_1 a0_2 a0_3 l0_4 a0_5 a0_6 l0_7))))) else (if a0_3 = true then (script_Step_Right.j0 k true a0_0 a0_1 a0_2 a0_3 l0_4 a0_5 a0_6 l0_7) else (if a0_2.toList = ([] : List UInt8) then (if a0_0 = 2 then (if a0_1.toList = ([] : List UInt8) then (if a0_0 = 1 then (script_Step_Right.j0 k false a0_0 a0_1 a0_2 a0_3 l0_4 a0_5 a0_6 l0_7) else (if (l0_4.length : Int) > 0 then (script_Step_Right.j0 k true a0_0 a0_1 a0_2 a0_3 l0_4 a0_5 a0_6 l0_7) else (script_Step_Right.j0 k false a0_0 a0_1 a0_2 a0_3 l0_4 a0_5 a0_6 l0_7))) else (script_Step_Right.j0 k true a0_0 a0_1 a0_2 a0_3 l0_4 a0_5 a0_6 l0_7)) else (if a0_0 = 1 then (if a0_5.toList = ([] : List UInt8) then (if a0_6.toList = ([] : List UInt8) then (script_Step_Right.j0 k (decide ((l0_7.length : Int) > 0)) a0_0 a0_1 a0_2 a0_3 l0_4 a0_5 a0_6 l0_7) else (script_Step_Right.j0 k true a0_0 a0_1 a0_2 a0_3 l0_4 a0_5 a0_6 l0_7)) else (script_Step_Right.j0 k true a0_0 a0_1 a0_2 a0_3 l0_4 a0_5 a0_6 l0_7)) else (if (l0_4.length : Int) > 0 then (script_Step_Right.j0 k true a0_0 a0_1 a0_2 a0_3 l0_4 a0_5 a0_6 l0_7) else (if a0_5.toList = ([] : List UInt8) then (if a0_6.toList = ([] : List UInt8) then (script_Step_Right.j0 k (decide ((l0_7.length : Int) > 0)) a0_0 a0_1 a0_2 a0_3 l0_4 a0_5 a0_6 l0_7) else (script_Step_Right.j0 k true a0_0 a0_1 a0_2 a0_3 l0_4 a0_5 a0_6 l0_7)) else (script_Step_Right.j0 k true a0_0 a0_1 a0_2 a0_3 l0_4 a0_5 a0_6 l0_7))))) else (script_Step_Right.j0 k true a0_0 a0_1 a0_2 a0_3 l0_4 a0_5 a0_6 l0_7)))))
theorem script_Step_Right.mono_l : ∀ k, (∀ y0 y1 y2 y3 y4 y5 y6 y7 y8, LeO (script_Step_Right.j0 k y0 y1 y2 y3 y4 y5 y6 y7 y8) (script_Step_Right.j0 (k + 1) y0 y1 y2 y3 y4 y5 y6 y7 y8)) ∧ (∀ y0 y1 y2, LeO (script_Step_Right.l0 k y0 y1 y2) (script_Step_Right.l0 (k + 1) y0 y1 y2))
 | 0 => ⟨fun _ _ _ _ _ _ _ _ _ r h => by simp [script_Step_Right.j0] at h, fun _ _ _ r h => by simp [script_Step_Right.l0] at h⟩
 | k + 1 => by
  obtain ⟨ih0, ih1⟩ := script_Step_Right.mono_l k
  refine ⟨?_, ?_⟩
  ·intro y0 y1 y2 y3 y4 y5 y6 y7 y8
   unfold script_Step_Right.j0
   repeat' first
   | (with_reducible exact ih0 _ _ _ _ _ _ _ _ _)
   | (with_reducible exact ih1 _ _ _)
   | (with_reducible exact LeO.refl _)
   | (with_reducible exact LeO.none _)
   | (with_reducible refine LeO.ite ?_ ?_)
   | (with_reducible refine LeO.bind ?_ (fun _ => ?_))
   | exact ih0 _ _ _ _ _ _ _ _ _
   | exact ih1 _ _ _
   | exact LeO.none _
   | refine LeO.ite ?_ ?_
   | refine LeO.bind ?_ (fun _ => ?_)
  ·intro y0 y1 y2
   unfold script_Step_Right.l0
   repeat' first
   | (with_reducible exact ih0 _ _ _ _ _ _ _ _ _)
   | (with_reducible exact ih1 _ _ _)
   | (with_reducible exact LeO.refl _)
   | (with_reducible exact LeO.none _)
   | (with_reducible refine LeO.ite ?_ ?_)
   | (with_reducible refine LeO.bind ?_ (fun _ => ?_))
   | exact ih0 _ _ _ _ _ _ _ _ _
   | exact ih1 _ _ _
   | exact LeO.none _
   | refine LeO.ite ?_ ?_
   | refine LeO.bind ?_ (fun _ => ?_)
theorem script_Step_Right.mono : ∀ a0 a1 a2 a3 a4 a5 a6 a7 k, LeO (script_Step_Right.f k a0 a1 a2 a3 a4 a5 a6 a7) (script_Step_Right.f (k + 1) a0 a1 a2 a3 a4 a5 a6 a7) := by
 intro a0 a1 a2 a3 a4 a5 a6 a7 k
 obtain ⟨ih0, ih1⟩ := script_Step_Right.mono_l k
 unfold script_Step_Right.f
 repeat' first
   | (with_reducible exact ih0 _ _ _ _ _ _ _ _ _)
   | (with_reducible exact ih1 _ _ _)
   | (with_reducible exact LeO.refl _)
   | (with_reducible exact LeO.none _)
   | (with_reducible refine LeO.ite ?_ ?_)
   | (with_reducible refine LeO.bind ?_ (fun _ => ?_))
   | exact ih0 _ _ _ _ _ _ _ _ _
   | exact ih1 _ _ _
   | exact LeO.none _
   | refine LeO.ite ?_ ?_
   | refine LeO.bind ?_ (fun _ => ?_)
set_option maxHeartbeats 8000000 in
set_option maxRecDepth 100000 in
theorem script_Step_Right.calls (k : Nat) (a0_0 : Int) (a0_1 : ByteArray) (a0_2 : ByteArray) (a0_3 : Bool) (A0_4 : Option Addr) (c0_4 : Nat) (l0_4 : List ByteArray) (a0_5 : ByteArray) (a0_6 : ByteArray) (A0_7 : Option Addr) (c0_7 : Nat) (l0_7 : List (S44)) (r : Bool) (w : World) (hr0_4 : Kd.C Kd.string w A0_4 l0_4.length l0_4) (hc0_4 : l0_4.length ≤ c0_4) (hr0_7 : Kd.C k44 w A0_7 l0_7.length l0_7) (hc0_7 : l0_7.length ≤ c0_7) (h : script_Step_Right.f k a0_0 a0_1 a0_2 a0_3 l0_4 a0_5 a0_6 l0_7 = some r) (HT0_ : Tab_ w := by exact Tab_.step HT0_ (by repeat (first | (with_reducible first | exact HB.out | apply below_alloc | apply pw_below_drewN | apply below_drew1 | refine below_set ?_ (Aside0.out (by assumption))) | exact HB.out))) (HP0_ : TabP_ w := by exact TabP_.step HP0_ (by repeat (first | (with_reducible first | exact HB.out | apply below_alloc | apply pw_below_drewN | apply below_drew1 | refine below_set ?_ (Aside0.out (by assumption))) | exact HB.out))) (HE0_ : TabE_ w := by exact TabE_.step HE0_ (by repeat (first | (with_reducible first | exact HB.out | apply below_alloc | apply pw_below_drewN | apply below_drew1 | refine below_set ?_ (Aside0.out (by assumption))) | exact HB.out))) :
  Calls Tryz.prog 11 #[.agg #[.int .i64 a0_0, .string a0_1, .string a0_2, .bool a0_3, .slice A0_4 l0_4.length c0_4, .string a0_5, .string a0_6, .slice A0_7 l0_7.length c0_7]] w fun e w' => e = .returned (.bool r) ∧ Below w.heap.size w w' := by
 have hu29 := Tryz.underlying29
 have hu44 := Tryz.underlying44
 have hu51 := Tryz.underlying51
 have HR0_4 := Aside0.mk hr0_4
 have HC0_4 := Aside0.mk hc0_4
 clear hr0_4 hc0_4
 have HR0_7 := Aside0.mk hr0_7
 have HC0_7 := Aside0.mk hc0_7
 clear hr0_7 hc0_7
 have HB := Aside0.mk (Below.refl w.heap.size w)
 have H : (if a0_0 < 0 then (script_Step_Right.j0 k true a0_0 a0_1 a0_2 a0_3 l0_4 a0_5 a0_6 l0_7) else (if a0_0 > 2 then (script_Step_Right.j0 k true a0_0 a0_1 a0_2 a0_3 l0_4 a0_5 a0_6 l0_7) else (if a0_0 = 0 then (if a0_0 = 2 then (if a0_1.toList = ([] : List UInt8) then (if a0_0 = 1 then (script_Step_Right.j0 k false a0_0 a0_1 a0_2 a0_3 l0_4 a0_5 a0_6 l0_7) else (if (l0_4.length : Int) > 0 then (script_Step_Right.j0 k true a0_0 a0_1 a0_2 a0_3 l0_4 a0_5 a0_6 l0_7) else (script_Step_Right.j0 k false a0_0 a0_1 a0_2 a0_3 l0_4 a0_5 a0_6 l0_7))) else (script_Step_Right.j0 k true a0_0 a0_1 a0_2 a0_3 l0_4 a0_5 a0_6 l0_7)) else (if a0_0 = 1 then (if a0_5.toList = ([] : List UInt8) then (if a0_6.toList = ([] : List UInt8) then (script_Step_Right.j0 k (decide ((l0_7.length : Int) > 0)) a0_0 a0_1 a0_2 a0_3 l0_4 a0_5 a0_6 l0_7) else (script_Step_Right.j0 k true a0_0 a0_1 a0_2 a0_3 l0_4 a0_5 a0_6 l0_7)) else (script_Step_Right.j0 k true a0_0 a0_1 a0_2 a0_3 l0_4 a0_5 a0_6 l0_7)) else (if (l0_4.length : Int) > 0 then (script_Step_Right.j0 k true a0_0 a0_1 a0_2 a0_3 l0_4 a0_5 a0_6 l0_7) else (if a0_5.toList = ([] : List UInt8) then (if a0_6.toList = ([] : List UInt8) then (script_Step_Right.j0 k (decide ((l0_7.length : Int) > 0)) a0_0 a0_1 a0_2 a0_3 l0_4 a0_5 a0_6 l0_7) else (script_Step_Right.j0 k true a0_0 a0_1 a0_2 a0_3 l0_4 a0_5 a0_6 l0_7)) else (script_Step_Right.j0 k true a0_0 a0_1 a0_2 a0_3 l0_4 a0_5 a0_6 l0_7))))) else (if a0_3 = true then (script_Step_Right.j0 k true a0_0 a0_1 a0_2 a0_3 l0_4 a0_5 a0_6 l0_7) else (if a0_2.toList = ([] : List UInt8) then (if a0_0 = 2 then (if a0_1.toList = ([] : List UInt8) then (if a0_0 = 1 then (script_Step_Right.j0 k false a0_0 a0_1 a0_2 a0_3 l0_4 a0_5 a0_6 l0_7) else (if (l0_4.length : Int) > 0 then (script_Step_Right.j0 k true a0_0 a0_1 a0_2 a0_3 l0_4 a0_5 a0_6 l0_7) else (script_Step_Right.j0 k false a0_0 a0_1 a0_2 a0_3 l0_4 a0_5 a0_6 l0_7))) else (script_Step_Right.j0 k true a0_0 a0_1 a0_2 a0_3 l0_4 a0_5 a0_6 l0_7)) else (if a0_0 = 1 then (if a0_5.toList = ([] : List UInt8) then (if a0_6.toList = ([] : List UInt8) then (script_Step_Right.j0 k (decide ((l0_7.length : Int) > 0)) a0_0 a0_1 a0_2 a0_3 l0_4 a0_5 a0_6 l0_7) else (script_Step_Right.j0 k true a0_0 a0_1 a0_2 a0_3 l0_4 a0_5 a0_6 l0_7)) else (script_Step_Right.j0 k true a0_0 a0_1 a0_2 a0_3 l0_4 a0_5 a0_6 l0_7)) else (if (l0_4.length : Int) > 0 then (script_Step_Right.j0 k true a0_0 a0_1 a0_2 a0_3 l0_4 a0_5 a0_6 l0_7) else (if a0_5.toList = ([] : List UInt8) then (if a0_6.toList = ([] : List UInt8) then (script_Step_Right.j0 k (decide ((l0_7.length : Int) > 0)) a0_0 a0_1 a0_2 a0_3 l0_4 a0_5 a0_6 l0_7) else (script_Step_Right.j0 k true a0_0 a0_1 a0_2 a0_3 l0_4 a0_5 a0_6 l0_7)) else (script_Step_Right.j0 k true a0_0 a0_1 a0_2 a0_3 l0_4 a0_5 a0_6 l0_7))))) else (script_Step_Right.j0 k true a0_0 a0_1 a0_2 a0_3 l0_4 a0_5 a0_6 l0_7)))))) = some r := h
 clear h
 have HC2 := Aside0.mk H
 clear H
 go_enter Tryz.func11, Tryz.ntmps11
 go_upto_region 2 with (first | ((with_reducible refine gate_dst (N := 1) rfl ?_); (try (refine gate_guard (by rfl) ?_; dsimp only)); refine box_event ?hg (N := 1) ?hd (cs := #[.int .i64 a0_0, .string a0_1, .string a0_2, .bool a0_3, .slice A0_4 l0_4.length c0_4, .string a0_5, .string a0_6, .slice A0_7 l0_7.length c0_7]) (t := 29) ?hr ?_; (case hd => rfl); (case hg => rfl); (case hr => exact u0_); intro gb192 hg w3 hbox hb; have BK192 := Aside0.mk (hbox); have GW192 := Aside0.mk ((q17_ : w.heap.size ≤ gb192)); have GE192 := Aside0.mk ((q17_ : w.heap.size ≤ gb192)); replace HB := Aside0.mk (below_step q9_ hb); clear hb hbox hg; obtain ⟨hcz4_0, hcz4_1, hcz4_2, hcz4_3, hcz4_4, hcz4_5, hcz4_6, hcz4_7, hfz4_0, hfz4_1, hfz4_2, hfz4_3, hfz4_4, hfz4_5, hfz4_6, hfz4_7⟩ := cellsF8 BK192.out))
 repeat (go_quiet (first | ((with_reducible refine gate_dst (N := 1) rfl ?_); (try (refine gate_guard (by rfl) ?_; dsimp only)); refine box_event ?hg (N := 1) ?hd (cs := #[.int .i64 a0_0, .string a0_1, .string a0_2, .bool a0_3, .slice A0_4 l0_4.length c0_4, .string a0_5, .string a0_6, .slice A0_7 l0_7.length c0_7]) (t := 29) ?hr ?_; (case hd => rfl); (case hg => rfl); (case hr => exact u0_); intro gb192 hg w3 hbox hb; have BK192 := Aside0.mk (hbox); have GW192 := Aside0.mk ((q17_ : w.heap.size ≤ gb192)); have GE192 := Aside0.mk ((q17_ : w.heap.size ≤ gb192)); replace HB := Aside0.mk (below_step q9_ hb); clear hb hbox hg; obtain ⟨hcz4_0, hcz4_1, hcz4_2, hcz4_3, hcz4_4, hcz4_5, hcz4_6, hcz4_7, hfz4_0, hfz4_1, hfz4_2, hfz4_3, hfz4_4, hfz4_5, hfz4_6, hfz4_7⟩ := cellsF8 BK192.out)); go_upto_region 2 with (first | ((with_reducible refine gate_dst (N := 1) rfl ?_); (try (refine gate_guard (by rfl) ?_; dsimp only)); refine box_event ?hg (N := 1) ?hd (cs := #[.int .i64 a0_0, .string a0_1, .string a0_2, .bool a0_3, .slice A0_4 l0_4.length c0_4, .string a0_5, .string a0_6, .slice A0_7 l0_7.length c0_7]) (t := 29) ?hr ?_; (case hd => rfl); (case hg => rfl); (case hr => exact u0_); intro gb192 hg w3 hbox hb; have BK192 := Aside0.mk (hbox); have GW192 := Aside0.mk ((q17_ : w.heap.size ≤ gb192)); have GE192 := Aside0.mk ((q17_ : w.heap.size ≤ gb192)); replace HB := Aside0.mk (below_step q9_ hb); clear hb hbox hg; obtain ⟨hcz4_0, hcz4_1, hcz4_2, hcz4_3, hcz4_4, hcz4_5, hcz4_6, hcz4_7, hfz4_0, hfz4_1, hfz4_2, hfz4_3, hfz4_4, hfz4_5, hfz4_6, hfz4_7⟩ := cellsF8 BK192.out)))
 (try simp only [Act.put, List.setIfInBounds_toArray, List.set_cons_zero, List.set_cons_succ])
 go_cut [74] (fun v74 wc => ∃ (kq : Nat) (x74_1 : Bool), v74 = .bool x74_1 ∧ Aside0 (script_Step_Right.j0 kq x74_1 a0_0 a0_1 a0_2 a0_3 l0_4 a0_5 a0_6 l0_7 = some r) ∧ Aside0 (kq ≤ k) ∧ Aside0 (wc.heap[gb192]? = some (.cells #[.int .i64 a0_0, .string a0_1, .string a0_2, .bool a0_3, (.slice A0_4 l0_4.length c0_4), .string a0_5, .string a0_6, (.slice A0_7 l0_7.length c0_7)] 29 (0, 0))) ∧ Aside0 (Below w.heap.size w wc))
 case first =>
  have H := HC2.out
  clear HC2
  by_cases c5 : a0_0 < 0
  ·rw [if_pos c5] at H
   have c5b0 : decide (a0_0 < 0) = true := decide_eq_true c5
   clear c5
   (first | rw [c5b0] | (simp only [i64_w, i32_w]; rw [c5b0]) | skip)
   have H' := Aside0.mk H
   clear H
   obtain ⟨hcz6_0, hcz6_1, hcz6_2, hcz6_3, hcz6_4, hcz6_5, hcz6_6, hcz6_7, hfz6_0, hfz6_1, hfz6_2, hfz6_3, hfz6_4, hfz6_5, hfz6_6, hfz6_7⟩ := cellsF8 BK192.out
   go_wp2
   repeat (go_quiet (fail); try go_wp2)
   (first | go_meet | (refine Met.intro ?_; go_step; (try rw [show (a0_0 == 0) = true by assumption]); (try rw [show (a0_0 == 0) = false by assumption]); (try rw [show (a0_0 == 2) = true by assumption]); (try rw [show (a0_0 == 2) = false by assumption]); (repeat apply Exists.intro); refine ⟨?rel, rfl⟩))
   case rel => exact ⟨_, (true), q8_, H', ⟨q12_⟩, ⟨q1_⟩, ⟨q0_⟩⟩
  ·rw [if_neg c5] at H
   have c5b0 : decide (a0_0 < 0) = false := decide_eq_false c5
   clear c5
   (first | rw [c5b0] | (simp only [i64_w, i32_w]; rw [c5b0]) | skip)
   by_cases c7 : a0_0 > 2
   ·rw [if_pos c7] at H
    have c7b0 : decide (2 < a0_0) = true := decide_eq_true c7
    clear c7
    have H' := Aside0.mk H
    clear H
    obtain ⟨hcz8_0, hcz8_1, hcz8_2, hcz8_3, hcz8_4, hcz8_5, hcz8_6, hcz8_7, hfz8_0, hfz8_1, hfz8_2, hfz8_3, hfz8_4, hfz8_5, hfz8_6, hfz8_7⟩ := cellsF8 BK192.out
    go_wp2
    repeat (go_quiet (fail); try go_wp2)
    (first | go_meet | (refine Met.intro ?_; go_step; (try rw [show (a0_0 == 0) = true by assumption]); (try rw [show (a0_0 == 0) = false by assumption]); (try rw [show (a0_0 == 2) = true by assumption]); (try rw [show (a0_0 == 2) = false by assumption]); (repeat apply Exists.intro); refine ⟨?rel, rfl⟩))
    case rel => exact ⟨_, (true), q8_, H', ⟨q12_⟩, ⟨q1_⟩, ⟨q0_⟩⟩
   ·rw [if_neg c7] at H
    have c7b0 : decide (2 < a0_0) = false := decide_eq_false c7
    clear c7
    by_cases c9 : a0_0 = 0
    ·rw [if_pos c9] at H
     have c9b0 : (a0_0 == 0) = true := beq_iff_eq.mpr c9
     have c9b1 : (a0_0 != 0) = false := bne_eq_false_iff_eq.mpr c9
     clear c9
     by_cases c10 : a0_0 = 2
     ·rw [if_pos c10] at H
      have c10b0 : (a0_0 == 2) = true := beq_iff_eq.mpr c10
      have c10b1 : (a0_0 != 2) = false := bne_eq_false_iff_eq.mpr c10
      clear c10
      by_cases c11 : a0_1.toList = ([] : List UInt8)
      ·rw [if_pos c11] at H
       have c11b0 : (a0_1.toList == ([] : List UInt8)) = true := beq_iff_eq.mpr c11
       have c11b1 : (a0_1.toList != ([] : List UInt8)) = false := bne_eq_false_iff_eq.mpr c11
       clear c11
       by_cases c12 : a0_0 = 1
       ·rw [if_pos c12] at H
        have c12b0 : (a0_0 == 1) = true := beq_iff_eq.mpr c12
        have c12b1 : (a0_0 != 1) = false := bne_eq_false_iff_eq.mpr c12
        clear c12
        have H' := Aside0.mk H
        clear H
        obtain ⟨hcz13_0, hcz13_1, hcz13_2, hcz13_3, hcz13_4, hcz13_5, hcz13_6, hcz13_7, hfz13_0, hfz13_1, hfz13_2, hfz13_3, hfz13_4, hfz13_5, hfz13_6, hfz13_7⟩ := cellsF8 BK192.out
        go_wp2
        repeat (go_quiet (fail); try go_wp2)
        (first | go_meet | (refine Met.intro ?_; go_step; (try rw [show (a0_0 == 0) = true by assumption]); (try rw [show (a0_0 == 0) = false by assumption]); (try rw [show (a0_0 == 2) = true by assumption]); (try rw [show (a0_0 == 2) = false by assumption]); (repeat apply Exists.intro); refine ⟨?rel, rfl⟩))
        case rel => exact ⟨_, (false), q8_, H', ⟨q12_⟩, ⟨q1_⟩, ⟨q0_⟩⟩
       ·rw [if_neg c12] at H
        have c12b0 : (a0_0 == 1) = false := beq_eq_false_iff_ne.mpr c12
        have c12b1 : (a0_0 != 1) = true := bne_iff_ne.mpr c12
        by_cases c14 : (l0_4.length : Int) > 0
        ·rw [if_pos c14] at H
         have c14b0 : decide (0 < (l0_4.length : Int)) = true := decide_eq_true c14
         have c14b1 : decide (0 < l0_4.length) = true := decide_eq_true (by omega)
         clear c14
         have H' := Aside0.mk H
         clear H
         obtain ⟨hcz15_0, hcz15_1, hcz15_2, hcz15_3, hcz15_4, hcz15_5, hcz15_6, hcz15_7, hfz15_0, hfz15_1, hfz15_2, hfz15_3, hfz15_4, hfz15_5, hfz15_6, hfz15_7⟩ := cellsF8 BK192.out
         go_wp2
         repeat (go_quiet (fail); try go_wp2)
         (first | go_meet | (refine Met.intro ?_; go_step; (try rw [show (a0_0 == 0) = true by assumption]); (try rw [show (a0_0 == 0) = false by assumption]); (try rw [show (a0_0 == 2) = true by assumption]); (try rw [show (a0_0 == 2) = false by assumption]); (repeat apply Exists.intro); refine ⟨?rel, rfl⟩))
         case rel => exact ⟨_, (true), q8_, H', ⟨q12_⟩, ⟨q1_⟩, ⟨q0_⟩⟩
        ·rw [if_neg c14] at H
         have c14b0 : decide (0 < (l0_4.length : Int)) = false := decide_eq_false c14
         have c14b1 : decide (0 < l0_4.length) = false := decide_eq_false (by omega)
         clear c14
         have H' := Aside0.mk H
         clear H
         obtain ⟨hcz16_0, hcz16_1, hcz16_2, hcz16_3, hcz16_4, hcz16_5, hcz16_6, hcz16_7, hfz16_0, hfz16_1, hfz16_2, hfz16_3, hfz16_4, hfz16_5, hfz16_6, hfz16_7⟩ := cellsF8 BK192.out
         go_wp2
         repeat (go_quiet (fail); try go_wp2)
         (first | go_meet | (refine Met.intro ?_; go_step; (try rw [show (a0_0 == 0) = true by assumption]); (try rw [show (a0_0 == 0) = false by assumption]); (try rw [show (a0_0 == 2) = true by assumption]); (try rw [show (a0_0 == 2) = false by assumption]); (repeat apply Exists.intro); refine ⟨?rel, rfl⟩))
         case rel => exact ⟨_, (false), q8_, H', ⟨q12_⟩, ⟨q1_⟩, ⟨q0_⟩⟩
      ·rw [if_neg c11] at H
       have c11b0 : (a0_1.toList == ([] : List UInt8)) = false := beq_eq_false_iff_ne.mpr c11
       have c11b1 : (a0_1.toList != ([] : List UInt8)) = true := bne_iff_ne.mpr c11
       have H' := Aside0.mk H
       clear H
       obtain ⟨hcz17_0, hcz17_1, hcz17_2, hcz17_3, hcz17_4, hcz17_5, hcz17_6, hcz17_7, hfz17_0, hfz17_1, hfz17_2, hfz17_3, hfz17_4, hfz17_5, hfz17_6, hfz17_7⟩ := cellsF8 BK192.out
       go_wp2
       repeat (go_quiet (fail); try go_wp2)
       (first | go_meet | (refine Met.intro ?_; go_step; (try rw [show (a0_0 == 0) = true by assumption]); (try rw [show (a0_0 == 0) = false by assumption]); (try rw [show (a0_0 == 2) = true by assumption]); (try rw [show (a0_0 == 2) = false by assumption]); (repeat apply Exists.intro); refine ⟨?rel, rfl⟩))
       case rel => exact ⟨_, (true), q8_, H', ⟨q12_⟩, ⟨q1_⟩, ⟨q0_⟩⟩
     ·rw [if_neg c10] at H
      have c10b0 : (a0_0 == 2) = false := beq_eq_false_iff_ne.mpr c10
      have c10b1 : (a0_0 != 2) = true := bne_iff_ne.mpr c10
      by_cases c18 : a0_0 = 1
      ·rw [if_pos c18] at H
       have c18b0 : (a0_0 == 1) = true := beq_iff_eq.mpr c18
       have c18b1 : (a0_0 != 1) = false := bne_eq_false_iff_eq.mpr c18
       clear c18
       by_cases c19 : a0_5.toList = ([] : List UInt8)
       ·rw [if_pos c19] at H
        have c19b0 : (a0_5.toList == ([] : List UInt8)) = true := beq_iff_eq.mpr c19
        have c19b1 : (a0_5.toList != ([] : List UInt8)) = false := bne_eq_false_iff_eq.mpr c19
        clear c19
        by_cases c20 : a0_6.toList = ([] : List UInt8)
        ·rw [if_pos c20] at H
         have c20b0 : (a0_6.toList == ([] : List UInt8)) = true := beq_iff_eq.mpr c20
         have c20b1 : (a0_6.toList != ([] : List UInt8)) = false := bne_eq_false_iff_eq.mpr c20
         clear c20
         have H' := Aside0.mk H
         clear H
         obtain ⟨hcz21_0, hcz21_1, hcz21_2, hcz21_3, hcz21_4, hcz21_5, hcz21_6, hcz21_7, hfz21_0, hfz21_1, hfz21_2, hfz21_3, hfz21_4, hfz21_5, hfz21_6, hfz21_7⟩ := cellsF8 BK192.out
         go_wp2
         repeat (go_quiet (fail); try go_wp2)
         (first | go_meet | (refine Met.intro ?_; go_step; (try rw [show (a0_0 == 0) = true by assumption]); (try rw [show (a0_0 == 0) = false by assumption]); (try rw [show (a0_0 == 2) = true by assumption]); (try rw [show (a0_0 == 2) = false by assumption]); (repeat apply Exists.intro); refine ⟨?rel, rfl⟩))
         case rel => exact ⟨_, (decide ((l0_7.length : Int) > 0)), q8_, H', ⟨q12_⟩, ⟨q1_⟩, ⟨q0_⟩⟩
        ·rw [if_neg c20] at H
         have c20b0 : (a0_6.toList == ([] : List UInt8)) = false := beq_eq_false_iff_ne.mpr c20
         have c20b1 : (a0_6.toList != ([] : List UInt8)) = true := bne_iff_ne.mpr c20
         have H' := Aside0.mk H
         clear H
         obtain ⟨hcz22_0, hcz22_1, hcz22_2, hcz22_3, hcz22_4, hcz22_5, hcz22_6, hcz22_7, hfz22_0, hfz22_1, hfz22_2, hfz22_3, hfz22_4, hfz22_5, hfz22_6, hfz22_7⟩ := cellsF8 BK192.out
         go_wp2
         repeat (go_quiet (fail); try go_wp2)
         (first | go_meet | (refine Met.intro ?_; go_step; (try rw [show (a0_0 == 0) = true by assumption]); (try rw [show (a0_0 == 0) = false by assumption]); (try rw [show (a0_0 == 2) = true by assumption]); (try rw [show (a0_0 == 2) = false by assumption]); (repeat apply Exists.intro); refine ⟨?rel, rfl⟩))
         case rel => exact ⟨_, (true), q8_, H', ⟨q12_⟩, ⟨q1_⟩, ⟨q0_⟩⟩
       ·rw [if_neg c19] at H
        have c19b0 : (a0_5.toList == ([] : List UInt8)) = false := beq_eq_false_iff_ne.mpr c19
        have c19b1 : (a0_5.toList != ([] : List UInt8)) = true := bne_iff_ne.mpr c19
        have H' := Aside0.mk H
        clear H
        obtain ⟨hcz23_0, hcz23_1, hcz23_2, hcz23_3, hcz23_4, hcz23_5, hcz23_6, hcz23_7, hfz23_0, hfz23_1, hfz23_2, hfz23_3, hfz23_4, hfz23_5, hfz23_6, hfz23_7⟩ := cellsF8 BK192.out
        go_wp2
        repeat (go_quiet (fail); try go_wp2)
        (first | go_meet | (refine Met.intro ?_; go_step; (try rw [show (a0_0 == 0) = true by assumption]); (try rw [show (a0_0 == 0) = false by assumption]); (try rw [show (a0_0 == 2) = true by assumption]); (try rw [show (a0_0 == 2) = false by assumption]); (repeat apply Exists.intro); refine ⟨?rel, rfl⟩))
        case rel => exact ⟨_, (true), q8_, H', ⟨q12_⟩, ⟨q1_⟩, ⟨q0_⟩⟩
      ·rw [if_neg c18] at H
       have c18b0 : (a0_0 == 1) = false := beq_eq_false_iff_ne.mpr c18
       have c18b1 : (a0_0 != 1) = true := bne_iff_ne.mpr c18
       by_cases c24 : (l0_4.length : Int) > 0
       ·rw [if_pos c24] at H
        have c24b0 : decide (0 < (l0_4.length : Int)) = true := decide_eq_true c24
        have c24b1 : decide (0 < l0_4.length) = true := decide_eq_true (by omega)
        clear c24
        have H' := Aside0.mk H
        clear H
        obtain ⟨hcz25_0, hcz25_1, hcz25_2, hcz25_3, hcz25_4, hcz25_5, hcz25_6, hcz25_7, hfz25_0, hfz25_1, hfz25_2, hfz25_3, hfz25_4, hfz25_5, hfz25_6, hfz25_7⟩ := cellsF8 BK192.out
        go_wp2
        repeat (go_quiet (fail); try go_wp2)
        (first | go_meet | (refine Met.intro ?_; go_step; (try rw [show (a0_0 == 0) = true by assumption]); (try rw [show (a0_0 == 0) = false by assumption]); (try rw [show (a0_0 == 2) = true by assumption]); (try rw [show (a0_0 == 2) = false by assumption]); (repeat apply Exists.intro); refine ⟨?rel, rfl⟩))
        case rel => exact ⟨_, (true), q8_, H', ⟨q12_⟩, ⟨q1_⟩, ⟨q0_⟩⟩
       ·rw [if_neg c24] at H
        have c24b0 : decide (0 < (l0_4.length : Int)) = false := decide_eq_false c24
        have c24b1 : decide (0 < l0_4.length) = false := decide_eq_false (by omega)
        clear c24
        by_cases c26 : a0_5.toList = ([] : List UInt8)
        ·rw [if_pos c26] at H
         have c26b0 : (a0_5.toList == ([] : List UInt8)) = true := beq_iff_eq.mpr c26
         have c26b1 : (a0_5.toList != ([] : List UInt8)) = false := bne_eq_false_iff_eq.mpr c26
         clear c26
         by_cases c27 : a0_6.toList = ([] : List UInt8)
         ·rw [if_pos c27] at H
          have c27b0 : (a0_6.toList == ([] : List UInt8)) = true := beq_iff_eq.mpr c27
          have c27b1 : (a0_6.toList != ([] : List UInt8)) = false := bne_eq_false_iff_eq.mpr c27
          clear c27
          have H' := Aside0.mk H
          clear H
          obtain ⟨hcz28_0, hcz28_1, hcz28_2, hcz28_3, hcz28_4, hcz28_5, hcz28_6, hcz28_7, hfz28_0, hfz28_1, hfz28_2, hfz28_3, hfz28_4, hfz28_5, hfz28_6, hfz28_7⟩ := cellsF8 BK192.out
          go_wp2
          repeat (go_quiet (fail); try go_wp2)
          (first | go_meet | (refine Met.intro ?_; go_step; (try rw [show (a0_0 == 0) = true by assumption]); (try rw [show (a0_0 == 0) = false by assumption]); (try rw [show (a0_0 == 2) = true by assumption]); (try rw [show (a0_0 == 2) = false by assumption]); (repeat apply Exists.intro); refine ⟨?rel, rfl⟩))
          case rel => exact ⟨_, (decide ((l0_7.length : Int) > 0)), q8_, H', ⟨q12_⟩, ⟨q1_⟩, ⟨q0_⟩⟩
         ·rw [if_neg c27] at H
          have c27b0 : (a0_6.toList == ([] : List UInt8)) = false := beq_eq_false_iff_ne.mpr c27
          have c27b1 : (a0_6.toList != ([] : List UInt8)) = true := bne_iff_ne.mpr c27
          have H' := Aside0.mk H
          clear H
          obtain ⟨hcz29_0, hcz29_1, hcz29_2, hcz29_3, hcz29_4, hcz29_5, hcz29_6, hcz29_7, hfz29_0, hfz29_1, hfz29_2, hfz29_3, hfz29_4, hfz29_5, hfz29_6, hfz29_7⟩ := cellsF8 BK192.out
          go_wp2
          repeat (go_quiet (fail); try go_wp2)
          (first | go_meet | (refine Met.intro ?_; go_step; (try rw [show (a0_0 == 0) = true by assumption]); (try rw [show (a0_0 == 0) = false by assumption]); (try rw [show (a0_0 == 2) = true by assumption]); (try rw [show (a0_0 == 2) = false by assumption]); (repeat apply Exists.intro); refine ⟨?rel, rfl⟩))
          case rel => exact ⟨_, (true), q8_, H', ⟨q12_⟩, ⟨q1_⟩, ⟨q0_⟩⟩
        ·rw [if_neg c26] at H
         have c26b0 : (a0_5.toList == ([] : List UInt8)) = false := beq_eq_false_iff_ne.mpr c26
         have c26b1 : (a0_5.toList != ([] : List UInt8)) = true := bne_iff_ne.mpr c26
         have H' := Aside0.mk H
         clear H
         obtain ⟨hcz30_0, hcz30_1, hcz30_2, hcz30_3, hcz30_4, hcz30_5, hcz30_6, hcz30_7, hfz30_0, hfz30_1, hfz30_2, hfz30_3, hfz30_4, hfz30_5, hfz30_6, hfz30_7⟩ := cellsF8 BK192.out
         go_wp2
         repeat (go_quiet (fail); try go_wp2)
         (first | go_meet | (refine Met.intro ?_; go_step; (try rw [show (a0_0 == 0) = true by assumption]); (try rw [show (a0_0 == 0) = false by assumption]); (try rw [show (a0_0 == 2) = true by assumption]); (try rw [show (a0_0 == 2) = false by assumption]); (repeat apply Exists.intro); refine ⟨?rel, rfl⟩))
         case rel => exact ⟨_, (true), q8_, H', ⟨q12_⟩, ⟨q1_⟩, ⟨q0_⟩⟩
    ·rw [if_neg c9] at H
     have c9b0 : (a0_0 == 0) = false := beq_eq_false_iff_ne.mpr c9
     have c9b1 : (a0_0 != 0) = true := bne_iff_ne.mpr c9
     by_cases c31 : a0_3 = true
     ·subst c31
      have H1 : (script_Step_Right.j0 k true a0_0 a0_1 a0_2 true l0_4 a0_5 a0_6 l0_7) = some r := by rw [if_pos rfl] at H; exact H
      clear H
      have H := H1
      clear H1
      have H' := Aside0.mk H
      clear H
      obtain ⟨hcz32_0, hcz32_1, hcz32_2, hcz32_3, hcz32_4, hcz32_5, hcz32_6, hcz32_7, hfz32_0, hfz32_1, hfz32_2, hfz32_3, hfz32_4, hfz32_5, hfz32_6, hfz32_7⟩ := cellsF8 BK192.out
      go_wp2
      repeat (go_quiet (fail); try go_wp2)
      (first | go_meet | (refine Met.intro ?_; go_step; (try rw [show (a0_0 == 0) = true by assumption]); (try rw [show (a0_0 == 0) = false by assumption]); (try rw [show (a0_0 == 2) = true by assumption]); (try rw [show (a0_0 == 2) = false by assumption]); (repeat apply Exists.intro); refine ⟨?rel, rfl⟩))
      case rel => exact ⟨_, (true), q8_, H', ⟨q12_⟩, ⟨q1_⟩, ⟨q0_⟩⟩
     ·replace c31 := Bool.eq_false_iff.mpr c31
      subst c31
      have H1 : (if a0_2.toList = ([] : List UInt8) then (if a0_0 = 2 then (if a0_1.toList = ([] : List UInt8) then (if a0_0 = 1 then (script_Step_Right.j0 k false a0_0 a0_1 a0_2 false l0_4 a0_5 a0_6 l0_7) else (if (l0_4.length : Int) > 0 then (script_Step_Right.j0 k true a0_0 a0_1 a0_2 false l0_4 a0_5 a0_6 l0_7) else (script_Step_Right.j0 k false a0_0 a0_1 a0_2 false l0_4 a0_5 a0_6 l0_7))) else (script_Step_Right.j0 k true a0_0 a0_1 a0_2 false l0_4 a0_5 a0_6 l0_7)) else (if a0_0 = 1 then (if a0_5.toList = ([] : List UInt8) then (if a0_6.toList = ([] : List UInt8) then (script_Step_Right.j0 k (decide ((l0_7.length : Int) > 0)) a0_0 a0_1 a0_2 false l0_4 a0_5 a0_6 l0_7) else (script_Step_Right.j0 k true a0_0 a0_1 a0_2 false l0_4 a0_5 a0_6 l0_7)) else (script_Step_Right.j0 k true a0_0 a0_1 a0_2 false l0_4 a0_5 a0_6 l0_7)) else (if (l0_4.length : Int) > 0 then (script_Step_Right.j0 k true a0_0 a0_1 a0_2 false l0_4 a0_5 a0_6 l0_7) else (if a0_5.toList = ([] : List UInt8) then (if a0_6.toList = ([] : List UInt8) then (script_Step_Right.j0 k (decide ((l0_7.length : Int) > 0)) a0_0 a0_1 a0_2 false l0_4 a0_5 a0_6 l0_7) else (script_Step_Right.j0 k true a0_0 a0_1 a0_2 false l0_4 a0_5 a0_6 l0_7)) else (script_Step_Right.j0 k true a0_0 a0_1 a0_2 false l0_4 a0_5 a0_6 l0_7))))) else (script_Step_Right.j0 k true a0_0 a0_1 a0_2 false l0_4 a0_5 a0_6 l0_7)) = some r := by rw [if_neg (show ¬ (false = true) by decide)] at H; exact H
      clear H
      have H := H1
      clear H1
      by_cases c33 : a0_2.toList = ([] : List UInt8)
      ·rw [if_pos c33] at H
       have c33b0 : (a0_2.toList == ([] : List UInt8)) = true := beq_iff_eq.mpr c33
       have c33b1 : (a0_2.toList != ([] : List UInt8)) = false := bne_eq_false_iff_eq.mpr c33
       clear c33
       by_cases c34 : a0_0 = 2
       ·rw [if_pos c34] at H
        have c34b0 : (a0_0 == 2) = true := beq_iff_eq.mpr c34
        have c34b1 : (a0_0 != 2) = false := bne_eq_false_iff_eq.mpr c34
        clear c34
        by_cases c35 : a0_1.toList = ([] : List UInt8)
        ·rw [if_pos c35] at H
         have c35b0 : (a0_1.toList == ([] : List UInt8)) = true := beq_iff_eq.mpr c35
         have c35b1 : (a0_1.toList != ([] : List UInt8)) = false := bne_eq_false_iff_eq.mpr c35
         clear c35
         by_cases c36 : a0_0 = 1
         ·rw [if_pos c36] at H
          have c36b0 : (a0_0 == 1) = true := beq_iff_eq.mpr c36
          have c36b1 : (a0_0 != 1) = false := bne_eq_false_iff_eq.mpr c36
          clear c36
          have H' := Aside0.mk H
          clear H
          obtain ⟨hcz37_0, hcz37_1, hcz37_2, hcz37_3, hcz37_4, hcz37_5, hcz37_6, hcz37_7, hfz37_0, hfz37_1, hfz37_2, hfz37_3, hfz37_4, hfz37_5, hfz37_6, hfz37_7⟩ := cellsF8 BK192.out
          go_wp2
          repeat (go_quiet (fail); try go_wp2)
          (first | go_meet | (refine Met.intro ?_; go_step; (try rw [show (a0_0 == 0) = true by assumption]); (try rw [show (a0_0 == 0) = false by assumption]); (try rw [show (a0_0 == 2) = true by assumption]); (try rw [show (a0_0 == 2) = false by assumption]); (repeat apply Exists.intro); refine ⟨?rel, rfl⟩))
          case rel => exact ⟨_, (false), q8_, H', ⟨q12_⟩, ⟨q1_⟩, ⟨q0_⟩⟩
         ·rw [if_neg c36] at H
          have c36b0 : (a0_0 == 1) = false := beq_eq_false_iff_ne.mpr c36
          have c36b1 : (a0_0 != 1) = true := bne_iff_ne.mpr c36
          by_cases c38 : (l0_4.length : Int) > 0
          ·rw [if_pos c38] at H
           have c38b0 : decide (0 < (l0_4.length : Int)) = true := decide_eq_true c38
           have c38b1 : decide (0 < l0_4.length) = true := decide_eq_true (by omega)
           clear c38
           have H' := Aside0.mk H
           clear H
           obtain ⟨hcz39_0, hcz39_1, hcz39_2, hcz39_3, hcz39_4, hcz39_5, hcz39_6, hcz39_7, hfz39_0, hfz39_1, hfz39_2, hfz39_3, hfz39_4, hfz39_5, hfz39_6, hfz39_7⟩ := cellsF8 BK192.out
           go_wp2
           repeat (go_quiet (fail); try go_wp2)
           (first | go_meet | (refine Met.intro ?_; go_step; (try rw [show (a0_0 == 0) = true by assumption]); (try rw [show (a0_0 == 0) = false by assumption]); (try rw [show (a0_0 == 2) = true by assumption]); (try rw [show (a0_0 == 2) = false by assumption]); (repeat apply Exists.intro); refine ⟨?rel, rfl⟩))
           case rel => exact ⟨_, (true), q8_, H', ⟨q12_⟩, ⟨q1_⟩, ⟨q0_⟩⟩
          ·rw [if_neg c38] at H
           have c38b0 : decide (0 < (l0_4.length : Int)) = false := decide_eq_false c38
           have c38b1 : decide (0 < l0_4.length) = false := decide_eq_false (by omega)
           clear c38
           have H' := Aside0.mk H
           clear H
           obtain ⟨hcz40_0, hcz40_1, hcz40_2, hcz40_3, hcz40_4, hcz40_5, hcz40_6, hcz40_7, hfz40_0, hfz40_1, hfz40_2, hfz40_3, hfz40_4, hfz40_5, hfz40_6, hfz40_7⟩ := cellsF8 BK192.out
           go_wp2
           repeat (go_quiet (fail); try go_wp2)
           (first | go_meet | (refine Met.intro ?_; go_step; (try rw [show (a0_0 == 0) = true by assumption]); (try rw [show (a0_0 == 0) = false by assumption]); (try rw [show (a0_0 == 2) = true by assumption]); (try rw [show (a0_0 == 2) = false by assumption]); (repeat apply Exists.intro); refine ⟨?rel, rfl⟩))
           case rel => exact ⟨_, (false), q8_, H', ⟨q12_⟩, ⟨q1_⟩, ⟨q0_⟩⟩
        ·rw [if_neg c35] at H
         have c35b0 : (a0_1.toList == ([] : List UInt8)) = false := beq_eq_false_iff_ne.mpr c35
         have c35b1 : (a0_1.toList != ([] : List UInt8)) = true := bne_iff_ne.mpr c35
         have H' := Aside0.mk H
         clear H
         obtain ⟨hcz41_0, hcz41_1, hcz41_2, hcz41_3, hcz41_4, hcz41_5, hcz41_6, hcz41_7, hfz41_0, hfz41_1, hfz41_2, hfz41_3, hfz41_4, hfz41_5, hfz41_6, hfz41_7⟩ := cellsF8 BK192.out
         go_wp2
         repeat (go_quiet (fail); try go_wp2)
         (first | go_meet | (refine Met.intro ?_; go_step; (try rw [show (a0_0 == 0) = true by assumption]); (try rw [show (a0_0 == 0) = false by assumption]); (try rw [show (a0_0 == 2) = true by assumption]); (try rw [show (a0_0 == 2) = false by assumption]); (repeat apply Exists.intro); refine ⟨?rel, rfl⟩))
         case rel => exact ⟨_, (true), q8_, H', ⟨q12_⟩, ⟨q1_⟩, ⟨q0_⟩⟩
       ·rw [if_neg c34] at H
        have c34b0 : (a0_0 == 2) = false := beq_eq_false_iff_ne.mpr c34
        have c34b1 : (a0_0 != 2) = true := bne_iff_ne.mpr c34
        by_cases c42 : a0_0 = 1
        ·rw [if_pos c42] at H
         have c42b0 : (a0_0 == 1) = true := beq_iff_eq.mpr c42
         have c42b1 : (a0_0 != 1) = false := bne_eq_false_iff_eq.mpr c42
         clear c42
         by_cases c43 : a0_5.toList = ([] : List UInt8)
         ·rw [if_pos c43] at H
          have c43b0 : (a0_5.toList == ([] : List UInt8)) = true := beq_iff_eq.mpr c43
          have c43b1 : (a0_5.toList != ([] : List UInt8)) = false := bne_eq_false_iff_eq.mpr c43
          clear c43
          by_cases c44 : a0_6.toList = ([] : List UInt8)
          ·rw [if_pos c44] at H
           have c44b0 : (a0_6.toList == ([] : List UInt8)) = true := beq_iff_eq.mpr c44
           have c44b1 : (a0_6.toList != ([] : List UInt8)) = false := bne_eq_false_iff_eq.mpr c44
           clear c44
           have H' := Aside0.mk H
           clear H
           obtain ⟨hcz45_0, hcz45_1, hcz45_2, hcz45_3, hcz45_4, hcz45_5, hcz45_6, hcz45_7, hfz45_0, hfz45_1, hfz45_2, hfz45_3, hfz45_4, hfz45_5, hfz45_6, hfz45_7⟩ := cellsF8 BK192.out
           go_wp2
           repeat (go_quiet (fail); try go_wp2)
           (first | go_meet | (refine Met.intro ?_; go_step; (try rw [show (a0_0 == 0) = true by assumption]); (try rw [show (a0_0 == 0) = false by assumption]); (try rw [show (a0_0 == 2) = true by assumption]); (try rw [show (a0_0 == 2) = false by assumption]); (repeat apply Exists.intro); refine ⟨?rel, rfl⟩))
           case rel => exact ⟨_, (decide ((l0_7.length : Int) > 0)), q8_, H', ⟨q12_⟩, ⟨q1_⟩, ⟨q0_⟩⟩
          ·rw [if_neg c44] at H
           have c44b0 : (a0_6.toList == ([] : List UInt8)) = false := beq_eq_false_iff_ne.mpr c44
           have c44b1 : (a0_6.toList != ([] : List UInt8)) = true := bne_iff_ne.mpr c44
           have H' := Aside0.mk H
           clear H
           obtain ⟨hcz46_0, hcz46_1, hcz46_2, hcz46_3, hcz46_4, hcz46_5, hcz46_6, hcz46_7, hfz46_0, hfz46_1, hfz46_2, hfz46_3, hfz46_4, hfz46_5, hfz46_6, hfz46_7⟩ := cellsF8 BK192.out
           go_wp2
           repeat (go_quiet (fail); try go_wp2)
           (first | go_meet | (refine Met.intro ?_; go_step; (try rw [show (a0_0 == 0) = true by assumption]); (try rw [show (a0_0 == 0) = false by assumption]); (try rw [show (a0_0 == 2) = true by assumption]); (try rw [show (a0_0 == 2) = false by assumption]); (repeat apply Exists.intro); refine ⟨?rel, rfl⟩))
           case rel => exact ⟨_, (true), q8_, H', ⟨q12_⟩, ⟨q1_⟩, ⟨q0_⟩⟩
         ·rw [if_neg c43] at H
          have c43b0 : (a0_5.toList == ([] : List UInt8)) = false := beq_eq_false_iff_ne.mpr c43
          have c43b1 : (a0_5.toList != ([] : List UInt8)) = true := bne_iff_ne.mpr c43
          have H' := Aside0.mk H
          clear H
          obtain ⟨hcz47_0, hcz47_1, hcz47_2, hcz47_3, hcz47_4, hcz47_5, hcz47_6, hcz47_7, hfz47_0, hfz47_1, hfz47_2, hfz47_3, hfz47_4, hfz47_5, hfz47_6, hfz47_7⟩ := cellsF8 BK192.out
          go_wp2
          repeat (go_quiet (fail); try go_wp2)
          (first | go_meet | (refine Met.intro ?_; go_step; (try rw [show (a0_0 == 0) = true by assumption]); (try rw [show (a0_0 == 0) = false by assumption]); (try rw [show (a0_0 == 2) = true by assumption]); (try rw [show (a0_0 == 2) = false by assumption]); (repeat apply Exists.intro); refine ⟨?rel, rfl⟩))
          case rel => exact ⟨_, (true), q8_, H', ⟨q12_⟩, ⟨q1_⟩, ⟨q0_⟩⟩
        ·rw [if_neg c42] at H
         have c42b0 : (a0_0 == 1) = false := beq_eq_false_iff_ne.mpr c42
         have c42b1 : (a0_0 != 1) = true := bne_iff_ne.mpr c42
         by_cases c48 : (l0_4.length : Int) > 0
         ·rw [if_pos c48] at H
          have c48b0 : decide (0 < (l0_4.length : Int)) = true := decide_eq_true c48
          have c48b1 : decide (0 < l0_4.length) = true := decide_eq_true (by omega)
          clear c48
          have H' := Aside0.mk H
          clear H
          obtain ⟨hcz49_0, hcz49_1, hcz49_2, hcz49_3, hcz49_4, hcz49_5, hcz49_6, hcz49_7, hfz49_0, hfz49_1, hfz49_2, hfz49_3, hfz49_4, hfz49_5, hfz49_6, hfz49_7⟩ := cellsF8 BK192.out
          go_wp2
          repeat (go_quiet (fail); try go_wp2)
          (first | go_meet | (refine Met.intro ?_; go_step; (try rw [show (a0_0 == 0) = true by assumption]); (try rw [show (a0_0 == 0) = false by assumption]); (try rw [show (a0_0 == 2) = true by assumption]); (try rw [show (a0_0 == 2) = false by assumption]); (repeat apply Exists.intro); refine ⟨?rel, rfl⟩))
          case rel => exact ⟨_, (true), q8_, H', ⟨q12_⟩, ⟨q1_⟩, ⟨q0_⟩⟩
         ·rw [if_neg c48] at H
          have c48b0 : decide (0 < (l0_4.length : Int)) = false := decide_eq_false c48
          have c48b1 : decide (0 < l0_4.length) = false := decide_eq_false (by omega)
          clear c48
          by_cases c50 : a0_5.toList = ([] : List UInt8)
          ·rw [if_pos c50] at H
           have c50b0 : (a0_5.toList == ([] : List UInt8)) = true := beq_iff_eq.mpr c50
           have c50b1 : (a0_5.toList != ([] : List UInt8)) = false := bne_eq_false_iff_eq.mpr c50
           clear c50
           by_cases c51 : a0_6.toList = ([] : List UInt8)
           ·rw [if_pos c51] at H
            have c51b0 : (a0_6.toList == ([] : List UInt8)) = true := beq_iff_eq.mpr c51
            have c51b1 : (a0_6.toList != ([] : List UInt8)) = false := bne_eq_false_iff_eq.mpr c51
            clear c51
            have H' := Aside0.mk H
            clear H
            obtain ⟨hcz52_0, hcz52_1, hcz52_2, hcz52_3, hcz52_4, hcz52_5, hcz52_6, hcz52_7, hfz52_0, hfz52_1, hfz52_2, hfz52_3, hfz52_4, hfz52_5, hfz52_6, hfz52_7⟩ := cellsF8 BK192.out
            go_wp2
            repeat (go_quiet (fail); try go_wp2)
            (first | go_meet | (refine Met.intro ?_; go_step; (try rw [show (a0_0 == 0) = true by assumption]); (try rw [show (a0_0 == 0) = false by assumption]); (try rw [show (a0_0 == 2) = true by assumption]); (try rw [show (a0_0 == 2) = false by assumption]); (repeat apply Exists.intro); refine ⟨?rel, rfl⟩))
            case rel => exact ⟨_, (decide ((l0_7.length : Int) > 0)), q8_, H', ⟨q12_⟩, ⟨q1_⟩, ⟨q0_⟩⟩
           ·rw [if_neg c51] at H
            have c51b0 : (a0_6.toList == ([] : List UInt8)) = false := beq_eq_false_iff_ne.mpr c51
            have c51b1 : (a0_6.toList != ([] : List UInt8)) = true := bne_iff_ne.mpr c51
            have H' := Aside0.mk H
            clear H
            obtain ⟨hcz53_0, hcz53_1, hcz53_2, hcz53_3, hcz53_4, hcz53_5, hcz53_6, hcz53_7, hfz53_0, hfz53_1, hfz53_2, hfz53_3, hfz53_4, hfz53_5, hfz53_6, hfz53_7⟩ := cellsF8 BK192.out
            go_wp2
            repeat (go_quiet (fail); try go_wp2)
            (first | go_meet | (refine Met.intro ?_; go_step; (try rw [show (a0_0 == 0) = true by assumption]); (try rw [show (a0_0 == 0) = false by assumption]); (try rw [show (a0_0 == 2) = true by assumption]); (try rw [show (a0_0 == 2) = false by assumption]); (repeat apply Exists.intro); refine ⟨?rel, rfl⟩))
            case rel => exact ⟨_, (true), q8_, H', ⟨q12_⟩, ⟨q1_⟩, ⟨q0_⟩⟩
          ·rw [if_neg c50] at H
           have c50b0 : (a0_5.toList == ([] : List UInt8)) = false := beq_eq_false_iff_ne.mpr c50
           have c50b1 : (a0_5.toList != ([] : List UInt8)) = true := bne_iff_ne.mpr c50
           have H' := Aside0.mk H
           clear H
           obtain ⟨hcz54_0, hcz54_1, hcz54_2, hcz54_3, hcz54_4, hcz54_5, hcz54_6, hcz54_7, hfz54_0, hfz54_1, hfz54_2, hfz54_3, hfz54_4, hfz54_5, hfz54_6, hfz54_7⟩ := cellsF8 BK192.out
           go_wp2
           repeat (go_quiet (fail); try go_wp2)
           (first | go_meet | (refine Met.intro ?_; go_step; (try rw [show (a0_0 == 0) = true by assumption]); (try rw [show (a0_0 == 0) = false by assumption]); (try rw [show (a0_0 == 2) = true by assumption]); (try rw [show (a0_0 == 2) = false by assumption]); (repeat apply Exists.intro); refine ⟨?rel, rfl⟩))
           case rel => exact ⟨_, (true), q8_, H', ⟨q12_⟩, ⟨q1_⟩, ⟨q0_⟩⟩
      ·rw [if_neg c33] at H
       have c33b0 : (a0_2.toList == ([] : List UInt8)) = false := beq_eq_false_iff_ne.mpr c33
       have c33b1 : (a0_2.toList != ([] : List UInt8)) = true := bne_iff_ne.mpr c33
       have H' := Aside0.mk H
       clear H
       obtain ⟨hcz55_0, hcz55_1, hcz55_2, hcz55_3, hcz55_4, hcz55_5, hcz55_6, hcz55_7, hfz55_0, hfz55_1, hfz55_2, hfz55_3, hfz55_4, hfz55_5, hfz55_6, hfz55_7⟩ := cellsF8 BK192.out
       go_wp2
       repeat (go_quiet (fail); try go_wp2)
       (first | go_meet | (refine Met.intro ?_; go_step; (try rw [show (a0_0 == 0) = true by assumption]); (try rw [show (a0_0 == 0) = false by assumption]); (try rw [show (a0_0 == 2) = true by assumption]); (try rw [show (a0_0 == 2) = false by assumption]); (repeat apply Exists.intro); refine ⟨?rel, rfl⟩))
       case rel => exact ⟨_, (true), q8_, H', ⟨q12_⟩, ⟨q1_⟩, ⟨q0_⟩⟩
 case rest =>
  clear HC2
  try clear c1
  try clear c2
  try clear p2
  try clear c3
  try clear c4
  try clear c5
  try clear c9
  try clear c9b0
  try clear c9b1
  try clear c10
  try clear c10b0
  try clear c10b1
  try clear c18
  try clear c18b0
  try clear c18b1
  try clear c19
  try clear c19b0
  try clear c19b1
  try clear c20
  try clear c20b0
  try clear c20b1
  try clear c24
  try clear c24b0
  try clear c24b1
  try clear c26
  try clear c26b0
  try clear c26b1
  try clear c27
  try clear c27b0
  try clear c27b1
  try clear c31
  try clear c33
  try clear c33b0
  try clear c33b1
  try clear c34
  try clear c34b0
  try clear c34b1
  try clear c35
  try clear c35b0
  try clear c35b1
  try clear c36
  try clear c36b0
  try clear c36b1
  try clear c38
  try clear c38b0
  try clear c38b1
  try clear c42
  try clear c42b0
  try clear c42b1
  try clear c43
  try clear c43b0
  try clear c43b1
  try clear c44
  try clear c44b0
  try clear c44b1
  try clear c48
  try clear c48b0
  try clear c48b1
  try clear c50
  try clear c50b0
  try clear c50b1
  try clear c51
  try clear c51b0
  try clear c51b1
  try clear hcz21_0 hcz21_1 hcz21_2 hcz21_3 hcz21_4 hcz21_5 hcz21_6 hcz21_7
  try clear hcz22_0 hcz22_1 hcz22_2 hcz22_3 hcz22_4 hcz22_5 hcz22_6 hcz22_7
  try clear hcz23_0 hcz23_1 hcz23_2 hcz23_3 hcz23_4 hcz23_5 hcz23_6 hcz23_7
  try clear hcz25_0 hcz25_1 hcz25_2 hcz25_3 hcz25_4 hcz25_5 hcz25_6 hcz25_7
  try clear hcz28_0 hcz28_1 hcz28_2 hcz28_3 hcz28_4 hcz28_5 hcz28_6 hcz28_7
  try clear hcz29_0 hcz29_1 hcz29_2 hcz29_3 hcz29_4 hcz29_5 hcz29_6 hcz29_7
  try clear hcz30_0 hcz30_1 hcz30_2 hcz30_3 hcz30_4 hcz30_5 hcz30_6 hcz30_7
  try clear hcz32_0 hcz32_1 hcz32_2 hcz32_3 hcz32_4 hcz32_5 hcz32_6 hcz32_7
  try clear hcz37_0 hcz37_1 hcz37_2 hcz37_3 hcz37_4 hcz37_5 hcz37_6 hcz37_7
  try clear hcz39_0 hcz39_1 hcz39_2 hcz39_3 hcz39_4 hcz39_5 hcz39_6 hcz39_7
  try clear hcz40_0 hcz40_1 hcz40_2 hcz40_3 hcz40_4 hcz40_5 hcz40_6 hcz40_7
  try clear hcz41_0 hcz41_1 hcz41_2 hcz41_3 hcz41_4 hcz41_5 hcz41_6 hcz41_7
  try clear hcz45_0 hcz45_1 hcz45_2 hcz45_3 hcz45_4 hcz45_5 hcz45_6 hcz45_7
  try clear hcz46_0 hcz46_1 hcz46_2 hcz46_3 hcz46_4 hcz46_5 hcz46_6 hcz46_7
  try clear hcz47_0 hcz47_1 hcz47_2 hcz47_3 hcz47_4 hcz47_5 hcz47_6 hcz47_7
  try clear hcz49_0 hcz49_1 hcz49_2 hcz49_3 hcz49_4 hcz49_5 hcz49_6 hcz49_7
  try clear hcz52_0 hcz52_1 hcz52_2 hcz52_3 hcz52_4 hcz52_5 hcz52_6 hcz52_7
  try clear hcz53_0 hcz53_1 hcz53_2 hcz53_3 hcz53_4 hcz53_5 hcz53_6 hcz53_7
  try clear hcz54_0 hcz54_1 hcz54_2 hcz54_3 hcz54_4 hcz54_5 hcz54_6 hcz54_7
  try clear hcz55_0 hcz55_1 hcz55_2 hcz55_3 hcz55_4 hcz55_5 hcz55_6 hcz55_7
  try clear hfz21_0 hfz21_1 hfz21_2 hfz21_3 hfz21_4 hfz21_5 hfz21_6 hfz21_7
  try clear hfz22_0 hfz22_1 hfz22_2 hfz22_3 hfz22_4 hfz22_5 hfz22_6 hfz22_7
  try clear hfz23_0 hfz23_1 hfz23_2 hfz23_3 hfz23_4 hfz23_5 hfz23_6 hfz23_7
  try clear hfz25_0 hfz25_1 hfz25_2 hfz25_3 hfz25_4 hfz25_5 hfz25_6 hfz25_7
  try clear hfz28_0 hfz28_1 hfz28_2 hfz28_3 hfz28_4 hfz28_5 hfz28_6 hfz28_7
  try clear hfz29_0 hfz29_1 hfz29_2 hfz29_3 hfz29_4 hfz29_5 hfz29_6 hfz29_7
  try clear hfz30_0 hfz30_1 hfz30_2 hfz30_3 hfz30_4 hfz30_5 hfz30_6 hfz30_7
  try clear hfz32_0 hfz32_1 hfz32_2 hfz32_3 hfz32_4 hfz32_5 hfz32_6 hfz32_7
  try clear hfz37_0 hfz37_1 hfz37_2 hfz37_3 hfz37_4 hfz37_5 hfz37_6 hfz37_7
  try clear hfz39_0 hfz39_1 hfz39_2 hfz39_3 hfz39_4 hfz39_5 hfz39_6 hfz39_7
  try clear hfz40_0 hfz40_1 hfz40_2 hfz40_3 hfz40_4 hfz40_5 hfz40_6 hfz40_7
  try clear hfz41_0 hfz41_1 hfz41_2 hfz41_3 hfz41_4 hfz41_5 hfz41_6 hfz41_7
  try clear hfz45_0 hfz45_1 hfz45_2 hfz45_3 hfz45_4 hfz45_5 hfz45_6 hfz45_7
  try clear hfz46_0 hfz46_1 hfz46_2 hfz46_3 hfz46_4 hfz46_5 hfz46_6 hfz46_7
  try clear hfz47_0 hfz47_1 hfz47_2 hfz47_3 hfz47_4 hfz47_5 hfz47_6 hfz47_7
  try clear hfz49_0 hfz49_1 hfz49_2 hfz49_3 hfz49_4 hfz49_5 hfz49_6 hfz49_7
  try clear hfz52_0 hfz52_1 hfz52_2 hfz52_3 hfz52_4 hfz52_5 hfz52_6 hfz52_7
  try clear hfz53_0 hfz53_1 hfz53_2 hfz53_3 hfz53_4 hfz53_5 hfz53_6 hfz53_7
  try clear hfz54_0 hfz54_1 hfz54_2 hfz54_3 hfz54_4 hfz54_5 hfz54_6 hfz54_7
  try clear hfz55_0 hfz55_1 hfz55_2 hfz55_3 hfz55_4 hfz55_5 hfz55_6 hfz55_7
  obtain ⟨kq, x74_1, rfl, HA, HJ1, BK192, HB⟩ := hcut
  cases kq with
  | zero => exact absurd HA.out (by simp [script_Step_Right.j0])
  | succ kj1 =>
   have H := HA.out
   clear HA
   simp only [script_Step_Right.j0] at H
   by_cases c56 : x74_1 = true
   ·subst c56
    have H1 : (some false) = some r := by rw [if_pos rfl] at H; exact H
    clear H
    have H := H1
    clear H1
    obtain rfl := Option.some.inj H
    go_wp2
    repeat (go_quiet (fail); try go_wp2)
    go_ret
    exact ⟨q16_, q0_⟩
   ·replace c56 := Bool.eq_false_iff.mpr c56
    subst c56
    have H1 : (script_Step_Right.l0 kj1 l0_7 (l0_7.length : Int) 0) = some r := by rw [if_neg (show ¬ (false = true) by decide)] at H; exact H
    clear H
    have H := H1
    clear H1
    have H' := Aside0.mk H
    clear H
    obtain ⟨hcz57_0, hcz57_1, hcz57_2, hcz57_3, hcz57_4, hcz57_5, hcz57_6, hcz57_7, hfz57_0, hfz57_1, hfz57_2, hfz57_3, hfz57_4, hfz57_5, hfz57_6, hfz57_7⟩ := cellsF8 BK192.out
    go_wp2
    repeat (go_quiet (fail); try go_wp2)
    go_loopg [78] kj1 (fun kq v78 w' => ∃ (x78_2 : Int), v78 = .int .i64 x78_2 ∧ Aside0 (script_Step_Right.l0 kq l0_7 (l0_7.length : Int) x78_2 = some r) ∧ Aside0 (kq ≤ kj1) ∧ Aside0 (w'.heap[gb192]? = some (.cells #[.int .i64 a0_0, .string a0_1, .string a0_2, .bool a0_3, (.slice A0_4 l0_4.length c0_4), .string a0_5, .string a0_6, (.slice A0_7 l0_7.length c0_7)] 29 (0, 0))) ∧ Aside0 (Below w.heap.size w w'))
    case atStart => exact ⟨(0), q8_, H', ⟨Nat.le_refl _⟩, ⟨q1_⟩, ⟨q0_⟩⟩
    case round =>
     clear H'
     try clear c1
     try clear c2
     try clear p2 p2
     try clear c3
     try clear c4
     try clear c5
     try clear c9
     try clear c9b0
     try clear c9b1
     try clear c10
     try clear c10b0
     try clear c10b1
     try clear c18
     try clear c18b0
     try clear c18b1
     try clear c19
     try clear c19b0
     try clear c19b1
     try clear c20
     try clear c20b0
     try clear c20b1
     try clear c24
     try clear c24b0
     try clear c24b1
     try clear c26
     try clear c26b0
     try clear c26b1
     try clear c27
     try clear c27b0
     try clear c27b1
     try clear c31
     try clear c33
     try clear c33b0
     try clear c33b1
     try clear c34
     try clear c34b0
     try clear c34b1
     try clear c35
     try clear c35b0
     try clear c35b1
     try clear c36
     try clear c36b0
     try clear c36b1
     try clear c38
     try clear c38b0
     try clear c38b1
     try clear c42
     try clear c42b0
     try clear c42b1
     try clear c43
     try clear c43b0
     try clear c43b1
     try clear c44
     try clear c44b0
     try clear c44b1
     try clear c48
     try clear c48b0
     try clear c48b1
     try clear c50
     try clear c50b0
     try clear c50b1
     try clear c51
     try clear c51b0
     try clear c51b1
     try clear c56
     try clear hcz21_0 hcz21_1 hcz21_2 hcz21_3 hcz21_4 hcz21_5 hcz21_6 hcz21_7
     try clear hcz22_0 hcz22_1 hcz22_2 hcz22_3 hcz22_4 hcz22_5 hcz22_6 hcz22_7
     try clear hcz23_0 hcz23_1 hcz23_2 hcz23_3 hcz23_4 hcz23_5 hcz23_6 hcz23_7
     try clear hcz25_0 hcz25_1 hcz25_2 hcz25_3 hcz25_4 hcz25_5 hcz25_6 hcz25_7
     try clear hcz28_0 hcz28_1 hcz28_2 hcz28_3 hcz28_4 hcz28_5 hcz28_6 hcz28_7
     try clear hcz29_0 hcz29_1 hcz29_2 hcz29_3 hcz29_4 hcz29_5 hcz29_6 hcz29_7
     try clear hcz30_0 hcz30_1 hcz30_2 hcz30_3 hcz30_4 hcz30_5 hcz30_6 hcz30_7
     try clear hcz32_0 hcz32_1 hcz32_2 hcz32_3 hcz32_4 hcz32_5 hcz32_6 hcz32_7
     try clear hcz37_0 hcz37_1 hcz37_2 hcz37_3 hcz37_4 hcz37_5 hcz37_6 hcz37_7
     try clear hcz39_0 hcz39_1 hcz39_2 hcz39_3 hcz39_4 hcz39_5 hcz39_6 hcz39_7
     try clear hcz40_0 hcz40_1 hcz40_2 hcz40_3 hcz40_4 hcz40_5 hcz40_6 hcz40_7
     try clear hcz41_0 hcz41_1 hcz41_2 hcz41_3 hcz41_4 hcz41_5 hcz41_6 hcz41_7
     try clear hcz45_0 hcz45_1 hcz45_2 hcz45_3 hcz45_4 hcz45_5 hcz45_6 hcz45_7
     try clear hcz46_0 hcz46_1 hcz46_2 hcz46_3 hcz46_4 hcz46_5 hcz46_6 hcz46_7
     try clear hcz47_0 hcz47_1 hcz47_2 hcz47_3 hcz47_4 hcz47_5 hcz47_6 hcz47_7
     try clear hcz49_0 hcz49_1 hcz49_2 hcz49_3 hcz49_4 hcz49_5 hcz49_6 hcz49_7
     try clear hcz52_0 hcz52_1 hcz52_2 hcz52_3 hcz52_4 hcz52_5 hcz52_6 hcz52_7
     try clear hcz53_0 hcz53_1 hcz53_2 hcz53_3 hcz53_4 hcz53_5 hcz53_6 hcz53_7
     try clear hcz54_0 hcz54_1 hcz54_2 hcz54_3 hcz54_4 hcz54_5 hcz54_6 hcz54_7
     try clear hcz55_0 hcz55_1 hcz55_2 hcz55_3 hcz55_4 hcz55_5 hcz55_6 hcz55_7
     try clear hcz57_0 hcz57_1 hcz57_2 hcz57_3 hcz57_4 hcz57_5 hcz57_6 hcz57_7
     try clear hfz21_0 hfz21_1 hfz21_2 hfz21_3 hfz21_4 hfz21_5 hfz21_6 hfz21_7
     try clear hfz22_0 hfz22_1 hfz22_2 hfz22_3 hfz22_4 hfz22_5 hfz22_6 hfz22_7
     try clear hfz23_0 hfz23_1 hfz23_2 hfz23_3 hfz23_4 hfz23_5 hfz23_6 hfz23_7
     try clear hfz25_0 hfz25_1 hfz25_2 hfz25_3 hfz25_4 hfz25_5 hfz25_6 hfz25_7
     try clear hfz28_0 hfz28_1 hfz28_2 hfz28_3 hfz28_4 hfz28_5 hfz28_6 hfz28_7
     try clear hfz29_0 hfz29_1 hfz29_2 hfz29_3 hfz29_4 hfz29_5 hfz29_6 hfz29_7
     try clear hfz30_0 hfz30_1 hfz30_2 hfz30_3 hfz30_4 hfz30_5 hfz30_6 hfz30_7
     try clear hfz32_0 hfz32_1 hfz32_2 hfz32_3 hfz32_4 hfz32_5 hfz32_6 hfz32_7
     try clear hfz37_0 hfz37_1 hfz37_2 hfz37_3 hfz37_4 hfz37_5 hfz37_6 hfz37_7
     try clear hfz39_0 hfz39_1 hfz39_2 hfz39_3 hfz39_4 hfz39_5 hfz39_6 hfz39_7
     try clear hfz40_0 hfz40_1 hfz40_2 hfz40_3 hfz40_4 hfz40_5 hfz40_6 hfz40_7
     try clear hfz41_0 hfz41_1 hfz41_2 hfz41_3 hfz41_4 hfz41_5 hfz41_6 hfz41_7
     try clear hfz45_0 hfz45_1 hfz45_2 hfz45_3 hfz45_4 hfz45_5 hfz45_6 hfz45_7
     try clear hfz46_0 hfz46_1 hfz46_2 hfz46_3 hfz46_4 hfz46_5 hfz46_6 hfz46_7
     try clear hfz47_0 hfz47_1 hfz47_2 hfz47_3 hfz47_4 hfz47_5 hfz47_6 hfz47_7
     try clear hfz49_0 hfz49_1 hfz49_2 hfz49_3 hfz49_4 hfz49_5 hfz49_6 hfz49_7
     try clear hfz52_0 hfz52_1 hfz52_2 hfz52_3 hfz52_4 hfz52_5 hfz52_6 hfz52_7
     try clear hfz53_0 hfz53_1 hfz53_2 hfz53_3 hfz53_4 hfz53_5 hfz53_6 hfz53_7
     try clear hfz54_0 hfz54_1 hfz54_2 hfz54_3 hfz54_4 hfz54_5 hfz54_6 hfz54_7
     try clear hfz55_0 hfz55_1 hfz55_2 hfz55_3 hfz55_4 hfz55_5 hfz55_6 hfz55_7
     try clear hfz57_0 hfz57_1 hfz57_2 hfz57_3 hfz57_4 hfz57_5 hfz57_6 hfz57_7
     obtain ⟨x78_2, rfl, HA, HK2, BK192, HB⟩ := hrel
     cases gk with
     | zero => exact absurd HA.out (by simp [script_Step_Right.l0])
     | succ k2 =>
      have H := HA.out
      clear HA
      simp only [script_Step_Right.l0] at H
      by_cases c58 : x78_2 < (l0_7.length : Int)
      ·rw [if_pos c58] at H
       have c58b0 : decide (x78_2 < (l0_7.length : Int)) = true := decide_eq_true c58
       clear c58
       by_cases c59 : 0 ≤ x78_2
       ·rw [if_pos c59] at H
        have c59b0 : decide (0 ≤ x78_2) = true := decide_eq_true c59
        clear c59
        by_cases c60 : x78_2 < (l0_7.length : Int)
        ·rw [if_pos c60] at H
         have c60b0 : decide (x78_2 < (l0_7.length : Int)) = true := decide_eq_true c60
         clear c60
         replace H := Option.bind_eq_some_iff.mp H
         obtain ⟨⟨t195, t196, t197, t198, t199, t200, t201, t202, t203, t204, t205, t206, t207⟩, A610, H⟩ := H
         replace H : (if t207 = true then (script_Step_Right.l0 k2 l0_7 (l0_7.length : Int) (wrap64 (x78_2 + 1))) else (some false)) = some r := H
         have A61 := Aside0.mk A610
         clear A610
         by_cases c62 : t207 = true
         ·subst c62
          have H1 : (script_Step_Right.l0 k2 l0_7 (l0_7.length : Int) (wrap64 (x78_2 + 1))) = some r := by rw [if_pos rfl] at H; exact H
          clear H
          have H := H1
          clear H1
          have H' := Aside0.mk H
          clear H
          have p193 : 0 ≤ (x78_2 : Int) := of_decide_eq_true q18_
          have q193 : x78_2 < (l0_7.length : Int) := of_decide_eq_true q18_
          obtain ⟨ad193, e193, hx193_0, hx193_1, hx193_2⟩ := at_T44 HR0_7.out x78_2 p193 q193
          cases e193
          replace hx193_0 := (HB.out.cell (World.block_lt_of_cell? w _ hx193_0)).trans hx193_0
          replace hx193_1 := (HB.out.cell (World.block_lt_of_cell? w _ hx193_1)).trans hx193_1
          replace hx193_2 := (HB.out.cell (World.block_lt_of_cell? w _ hx193_2)).trans hx193_2
          replace p193 := eq_true p193
          replace q193 := eq_true q193
          go_wp2_with (first | ((with_reducible refine gate_dst (N := 6) rfl ?_); (try (refine gate_guard (by rfl) ?_; dsimp only)); refine box_event ?hg (N := 6) ?hd (cs := #[.string (⟨#[]⟩ : ByteArray), .int .i64 0, .string (⟨#[]⟩ : ByteArray)]) (t := 44) ?hr ?_; (case hd => rfl); (case hg => rfl); (case hr => exact u0_); intro gb194 hg w63 hbox hb; have BK194 := Aside0.mk (hbox); have GW194 := Aside0.mk ((q13_ : w.heap.size ≤ gb194)); have GE194 := Aside0.mk ((q13_ : w.heap.size ≤ gb194)); replace HB := Aside0.mk (below_step q0_ hb); have NB192_194 := Aside0.mk ((q5_ : gb192 ≠ gb194)); have NB194_192 := Aside0.mk ((q6_ : gb194 ≠ gb192)); replace BK192 := Aside0.mk (blk_below (g := gb192) (o := .cells #[.int .i64 a0_0, .string a0_1, .string a0_2, .bool a0_3, .slice A0_4 l0_4.length c0_4, .string a0_5, .string a0_6, .slice (some ad193) l0_7.length c0_7] 29 (0, 0)) q1_ hb); clear hb hbox hg; have hnb64 := NB194_192.out; have hnc64 := NB192_194.out; obtain ⟨hcz65_0, hcz65_1, hcz65_2, hfz65_0, hfz65_1, hfz65_2⟩ := cellsF3 BK194.out) | (go_at_call 17; (with_reducible refine (script_Arg_Value.calls ((rd_T44 l0_7 x78_2).f0) ((rd_T44 l0_7 x78_2).f1) ((rd_T44 l0_7 x78_2).f2) t195 t196 t197 t198 t199 t200 t201 t202 t203 t204 t205 t206 true _ A61.out).mono ?_); rintro e w66 ⟨rfl, hb⟩; replace BK192 := Aside0.mk (blk_below (g := gb192) (o := .cells #[.int .i64 a0_0, .string a0_1, .string a0_2, .bool a0_3, .slice A0_4 l0_4.length c0_4, .string a0_5, .string a0_6, .slice (some ad193) l0_7.length c0_7] 29 (0, 0)) q4_ hb); replace BK194 := Aside0.mk (blk_below (g := gb194) (o := .cells #[.string ((rd_T44 l0_7 x78_2).f0), .int .i64 ((rd_T44 l0_7 x78_2).f1), .string ((rd_T44 l0_7 x78_2).f2)] 44 (0, 0)) q3_ hb); replace HB := Aside0.mk (below_step q2_ hb); (try clear hb); (try clear hb2); (try clear hk); (try clear hi)) | ((with_reducible refine gate_dst (N := 7) rfl ?_); (try (refine gate_guard (by rfl) ?_; dsimp only)); refine box_event ?hg (N := 7) ?hd (cs := #[.int .i64 0, .string (⟨#[]⟩ : ByteArray), .bool false, .string (⟨#[]⟩ : ByteArray), .int .i64 0, .int .i64 0, .int .i64 0, .int .i64 0, .bool false, .bool false, .int .i64 0, .int .i64 0]) (t := 51) ?hr ?_; (case hd => rfl); (case hg => rfl); (case hr => exact u0_); intro gb208 hg w67 hbox hb; have BK208 := Aside0.mk (hbox); have GW208 := Aside0.mk ((q14_ : w.heap.size ≤ gb208)); have GE208 := Aside0.mk ((q14_ : w.heap.size ≤ gb208)); replace HB := Aside0.mk (below_step q2_ hb); have NB192_208 := Aside0.mk ((q5_ : gb192 ≠ gb208)); have NB208_192 := Aside0.mk ((q6_ : gb208 ≠ gb192)); replace BK192 := Aside0.mk (blk_below (g := gb192) (o := .cells #[.int .i64 a0_0, .string a0_1, .string a0_2, .bool a0_3, .slice A0_4 l0_4.length c0_4, .string a0_5, .string a0_6, .slice (some ad193) l0_7.length c0_7] 29 (0, 0)) q1_ hb); have NB194_208 := Aside0.mk ((q10_ : gb194 ≠ gb208)); have NB208_194 := Aside0.mk ((q11_ : gb208 ≠ gb194)); replace BK194 := Aside0.mk (blk_below (g := gb194) (o := .cells #[.string ((rd_T44 l0_7 x78_2).f0), .int .i64 ((rd_T44 l0_7 x78_2).f1), .string ((rd_T44 l0_7 x78_2).f2)] 44 (0, 0)) q7_ hb); clear hb hbox hg; have hnb68 := NB208_192.out; have hnc68 := NB192_208.out; have hnb69 := NB208_194.out; have hnc69 := NB194_208.out; obtain ⟨hcz70_0, hcz70_1, hcz70_2, hcz70_3, hcz70_4, hcz70_5, hcz70_6, hcz70_7, hcz70_8, hcz70_9, hcz70_10, hcz70_11, hfz70_0, hfz70_1, hfz70_2, hfz70_3, hfz70_4, hfz70_5, hfz70_6, hfz70_7, hfz70_8, hfz70_9, hfz70_10, hfz70_11⟩ := cellsF12 BK208.out))
          repeat (go_quiet (first | ((with_reducible refine gate_dst (N := 6) rfl ?_); (try (refine gate_guard (by rfl) ?_; dsimp only)); refine box_event ?hg (N := 6) ?hd (cs := #[.string (⟨#[]⟩ : ByteArray), .int .i64 0, .string (⟨#[]⟩ : ByteArray)]) (t := 44) ?hr ?_; (case hd => rfl); (case hg => rfl); (case hr => exact u0_); intro gb194 hg w63 hbox hb; have BK194 := Aside0.mk (hbox); have GW194 := Aside0.mk ((q13_ : w.heap.size ≤ gb194)); have GE194 := Aside0.mk ((q13_ : w.heap.size ≤ gb194)); replace HB := Aside0.mk (below_step q0_ hb); have NB192_194 := Aside0.mk ((q5_ : gb192 ≠ gb194)); have NB194_192 := Aside0.mk ((q6_ : gb194 ≠ gb192)); replace BK192 := Aside0.mk (blk_below (g := gb192) (o := .cells #[.int .i64 a0_0, .string a0_1, .string a0_2, .bool a0_3, .slice A0_4 l0_4.length c0_4, .string a0_5, .string a0_6, .slice (some ad193) l0_7.length c0_7] 29 (0, 0)) q1_ hb); clear hb hbox hg; have hnb64 := NB194_192.out; have hnc64 := NB192_194.out; obtain ⟨hcz65_0, hcz65_1, hcz65_2, hfz65_0, hfz65_1, hfz65_2⟩ := cellsF3 BK194.out) | (go_at_call 17; (with_reducible refine (script_Arg_Value.calls ((rd_T44 l0_7 x78_2).f0) ((rd_T44 l0_7 x78_2).f1) ((rd_T44 l0_7 x78_2).f2) t195 t196 t197 t198 t199 t200 t201 t202 t203 t204 t205 t206 true _ A61.out).mono ?_); rintro e w66 ⟨rfl, hb⟩; replace BK192 := Aside0.mk (blk_below (g := gb192) (o := .cells #[.int .i64 a0_0, .string a0_1, .string a0_2, .bool a0_3, .slice A0_4 l0_4.length c0_4, .string a0_5, .string a0_6, .slice (some ad193) l0_7.length c0_7] 29 (0, 0)) q4_ hb); replace BK194 := Aside0.mk (blk_below (g := gb194) (o := .cells #[.string ((rd_T44 l0_7 x78_2).f0), .int .i64 ((rd_T44 l0_7 x78_2).f1), .string ((rd_T44 l0_7 x78_2).f2)] 44 (0, 0)) q3_ hb); replace HB := Aside0.mk (below_step q2_ hb); (try clear hb); (try clear hb2); (try clear hk); (try clear hi)) | ((with_reducible refine gate_dst (N := 7) rfl ?_); (try (refine gate_guard (by rfl) ?_; dsimp only)); refine box_event ?hg (N := 7) ?hd (cs := #[.int .i64 0, .string (⟨#[]⟩ : ByteArray), .bool false, .string (⟨#[]⟩ : ByteArray), .int .i64 0, .int .i64 0, .int .i64 0, .int .i64 0, .bool false, .bool false, .int .i64 0, .int .i64 0]) (t := 51) ?hr ?_; (case hd => rfl); (case hg => rfl); (case hr => exact u0_); intro gb208 hg w67 hbox hb; have BK208 := Aside0.mk (hbox); have GW208 := Aside0.mk ((q14_ : w.heap.size ≤ gb208)); have GE208 := Aside0.mk ((q14_ : w.heap.size ≤ gb208)); replace HB := Aside0.mk (below_step q2_ hb); have NB192_208 := Aside0.mk ((q5_ : gb192 ≠ gb208)); have NB208_192 := Aside0.mk ((q6_ : gb208 ≠ gb192)); replace BK192 := Aside0.mk (blk_below (g := gb192) (o := .cells #[.int .i64 a0_0, .string a0_1, .string a0_2, .bool a0_3, .slice A0_4 l0_4.length c0_4, .string a0_5, .string a0_6, .slice (some ad193) l0_7.length c0_7] 29 (0, 0)) q1_ hb); have NB194_208 := Aside0.mk ((q10_ : gb194 ≠ gb208)); have NB208_194 := Aside0.mk ((q11_ : gb208 ≠ gb194)); replace BK194 := Aside0.mk (blk_below (g := gb194) (o := .cells #[.string ((rd_T44 l0_7 x78_2).f0), .int .i64 ((rd_T44 l0_7 x78_2).f1), .string ((rd_T44 l0_7 x78_2).f2)] 44 (0, 0)) q7_ hb); clear hb hbox hg; have hnb68 := NB208_192.out; have hnc68 := NB192_208.out; have hnb69 := NB208_194.out; have hnc69 := NB194_208.out; obtain ⟨hcz70_0, hcz70_1, hcz70_2, hcz70_3, hcz70_4, hcz70_5, hcz70_6, hcz70_7, hcz70_8, hcz70_9, hcz70_10, hcz70_11, hfz70_0, hfz70_1, hfz70_2, hfz70_3, hfz70_4, hfz70_5, hfz70_6, hfz70_7, hfz70_8, hfz70_9, hfz70_10, hfz70_11⟩ := cellsF12 BK208.out)); try go_wp2_with (first | ((with_reducible refine gate_dst (N := 6) rfl ?_); (try (refine gate_guard (by rfl) ?_; dsimp only)); refine box_event ?hg (N := 6) ?hd (cs := #[.string (⟨#[]⟩ : ByteArray), .int .i64 0, .string (⟨#[]⟩ : ByteArray)]) (t := 44) ?hr ?_; (case hd => rfl); (case hg => rfl); (case hr => exact u0_); intro gb194 hg w63 hbox hb; have BK194 := Aside0.mk (hbox); have GW194 := Aside0.mk ((q13_ : w.heap.size ≤ gb194)); have GE194 := Aside0.mk ((q13_ : w.heap.size ≤ gb194)); replace HB := Aside0.mk (below_step q0_ hb); have NB192_194 := Aside0.mk ((q5_ : gb192 ≠ gb194)); have NB194_192 := Aside0.mk ((q6_ : gb194 ≠ gb192)); replace BK192 := Aside0.mk (blk_below (g := gb192) (o := .cells #[.int .i64 a0_0, .string a0_1, .string a0_2, .bool a0_3, .slice A0_4 l0_4.length c0_4, .string a0_5, .string a0_6, .slice (some ad193) l0_7.length c0_7] 29 (0, 0)) q1_ hb); clear hb hbox hg; have hnb64 := NB194_192.out; have hnc64 := NB192_194.out; obtain ⟨hcz65_0, hcz65_1, hcz65_2, hfz65_0, hfz65_1, hfz65_2⟩ := cellsF3 BK194.out) | (go_at_call 17; (with_reducible refine (script_Arg_Value.calls ((rd_T44 l0_7 x78_2).f0) ((rd_T44 l0_7 x78_2).f1) ((rd_T44 l0_7 x78_2).f2) t195 t196 t197 t198 t199 t200 t201 t202 t203 t204 t205 t206 true _ A61.out).mono ?_); rintro e w66 ⟨rfl, hb⟩; replace BK192 := Aside0.mk (blk_below (g := gb192) (o := .cells #[.int .i64 a0_0, .string a0_1, .string a0_2, .bool a0_3, .slice A0_4 l0_4.length c0_4, .string a0_5, .string a0_6, .slice (some ad193) l0_7.length c0_7] 29 (0, 0)) q4_ hb); replace BK194 := Aside0.mk (blk_below (g := gb194) (o := .cells #[.string ((rd_T44 l0_7 x78_2).f0), .int .i64 ((rd_T44 l0_7 x78_2).f1), .string ((rd_T44 l0_7 x78_2).f2)] 44 (0, 0)) q3_ hb); replace HB := Aside0.mk (below_step q2_ hb); (try clear hb); (try clear hb2); (try clear hk); (try clear hi)) | ((with_reducible refine gate_dst (N := 7) rfl ?_); (try (refine gate_guard (by rfl) ?_; dsimp only)); refine box_event ?hg (N := 7) ?hd (cs := #[.int .i64 0, .string (⟨#[]⟩ : ByteArray), .bool false, .string (⟨#[]⟩ : ByteArray), .int .i64 0, .int .i64 0, .int .i64 0, .int .i64 0, .bool false, .bool false, .int .i64 0, .int .i64 0]) (t := 51) ?hr ?_; (case hd => rfl); (case hg => rfl); (case hr => exact u0_); intro gb208 hg w67 hbox hb; have BK208 := Aside0.mk (hbox); have GW208 := Aside0.mk ((q14_ : w.heap.size ≤ gb208)); have GE208 := Aside0.mk ((q14_ : w.heap.size ≤ gb208)); replace HB := Aside0.mk (below_step q2_ hb); have NB192_208 := Aside0.mk ((q5_ : gb192 ≠ gb208)); have NB208_192 := Aside0.mk ((q6_ : gb208 ≠ gb192)); replace BK192 := Aside0.mk (blk_below (g := gb192) (o := .cells #[.int .i64 a0_0, .string a0_1, .string a0_2, .bool a0_3, .slice A0_4 l0_4.length c0_4, .string a0_5, .string a0_6, .slice (some ad193) l0_7.length c0_7] 29 (0, 0)) q1_ hb); have NB194_208 := Aside0.mk ((q10_ : gb194 ≠ gb208)); have NB208_194 := Aside0.mk ((q11_ : gb208 ≠ gb194)); replace BK194 := Aside0.mk (blk_below (g := gb194) (o := .cells #[.string ((rd_T44 l0_7 x78_2).f0), .int .i64 ((rd_T44 l0_7 x78_2).f1), .string ((rd_T44 l0_7 x78_2).f2)] 44 (0, 0)) q7_ hb); clear hb hbox hg; have hnb68 := NB208_192.out; have hnc68 := NB192_208.out; have hnb69 := NB208_194.out; have hnc69 := NB194_208.out; obtain ⟨hcz70_0, hcz70_1, hcz70_2, hcz70_3, hcz70_4, hcz70_5, hcz70_6, hcz70_7, hcz70_8, hcz70_9, hcz70_10, hcz70_11, hfz70_0, hfz70_1, hfz70_2, hfz70_3, hfz70_4, hfz70_5, hfz70_6, hfz70_7, hfz70_8, hfz70_9, hfz70_10, hfz70_11⟩ := cellsF12 BK208.out)))
          go_roundg k2
          case measure => have := HJ1.out; have := HK2.out; omega
          case rel => exact ⟨(wrap64 (x78_2 + 1)), q8_, H', ⟨(by have := HJ1.out; have := HK2.out; omega)⟩, ⟨(by (with_reducible repeat (first | refine blk_drewN ?_ _ | refine blk_drew ?_ | refine blk_alloc ?_ _)); refine blk_far ?_ NB192_208.out _; (with_reducible repeat (first | refine blk_drewN ?_ _ | refine blk_drew ?_ | refine blk_alloc ?_ _)); refine blk_far ?_ NB192_208.out _; (with_reducible repeat (first | refine blk_drewN ?_ _ | refine blk_drew ?_ | refine blk_alloc ?_ _)); refine blk_far ?_ NB192_208.out _; (with_reducible repeat (first | refine blk_drewN ?_ _ | refine blk_drew ?_ | refine blk_alloc ?_ _)); refine blk_far ?_ NB192_208.out _; (with_reducible repeat (first | refine blk_drewN ?_ _ | refine blk_drew ?_ | refine blk_alloc ?_ _)); refine blk_far ?_ NB192_208.out _; (with_reducible repeat (first | refine blk_drewN ?_ _ | refine blk_drew ?_ | refine blk_alloc ?_ _)); refine blk_far ?_ NB192_208.out _; (with_reducible repeat (first | refine blk_drewN ?_ _ | refine blk_drew ?_ | refine blk_alloc ?_ _)); refine blk_far ?_ NB192_208.out _; (with_reducible repeat (first | refine blk_drewN ?_ _ | refine blk_drew ?_ | refine blk_alloc ?_ _)); refine blk_far ?_ NB192_208.out _; (with_reducible repeat (first | refine blk_drewN ?_ _ | refine blk_drew ?_ | refine blk_alloc ?_ _)); refine blk_far ?_ NB192_208.out _; (with_reducible repeat (first | refine blk_drewN ?_ _ | refine blk_drew ?_ | refine blk_alloc ?_ _)); refine blk_far ?_ NB192_208.out _; (with_reducible repeat (first | refine blk_drewN ?_ _ | refine blk_drew ?_ | refine blk_alloc ?_ _)); refine blk_far ?_ NB192_208.out _; (with_reducible repeat (first | refine blk_drewN ?_ _ | refine blk_drew ?_ | refine blk_alloc ?_ _)); refine blk_far ?_ NB192_208.out _; (with_reducible repeat (first | refine blk_drewN ?_ _ | refine blk_drew ?_ | refine blk_alloc ?_ _)); exact BK192.out)⟩, ⟨q15_⟩⟩
         ·replace c62 := Bool.eq_false_iff.mpr c62
          subst c62
          have H1 : (some false) = some r := by rw [if_neg (show ¬ (false = true) by decide)] at H; exact H
          clear H
          have H := H1
          clear H1
          obtain rfl := Option.some.inj H
          have p193 : 0 ≤ (x78_2 : Int) := of_decide_eq_true q18_
          have q193 : x78_2 < (l0_7.length : Int) := of_decide_eq_true q18_
          obtain ⟨ad193, e193, hx193_0, hx193_1, hx193_2⟩ := at_T44 HR0_7.out x78_2 p193 q193
          cases e193
          replace hx193_0 := (HB.out.cell (World.block_lt_of_cell? w _ hx193_0)).trans hx193_0
          replace hx193_1 := (HB.out.cell (World.block_lt_of_cell? w _ hx193_1)).trans hx193_1
          replace hx193_2 := (HB.out.cell (World.block_lt_of_cell? w _ hx193_2)).trans hx193_2
          replace p193 := eq_true p193
          replace q193 := eq_true q193
          go_wp2_with (first | ((with_reducible refine gate_dst (N := 6) rfl ?_); (try (refine gate_guard (by rfl) ?_; dsimp only)); refine box_event ?hg (N := 6) ?hd (cs := #[.string (⟨#[]⟩ : ByteArray), .int .i64 0, .string (⟨#[]⟩ : ByteArray)]) (t := 44) ?hr ?_; (case hd => rfl); (case hg => rfl); (case hr => exact u0_); intro gb194 hg w71 hbox hb; have BK194 := Aside0.mk (hbox); have GW194 := Aside0.mk ((q13_ : w.heap.size ≤ gb194)); have GE194 := Aside0.mk ((q13_ : w.heap.size ≤ gb194)); replace HB := Aside0.mk (below_step q0_ hb); have NB192_194 := Aside0.mk ((q5_ : gb192 ≠ gb194)); have NB194_192 := Aside0.mk ((q6_ : gb194 ≠ gb192)); replace BK192 := Aside0.mk (blk_below (g := gb192) (o := .cells #[.int .i64 a0_0, .string a0_1, .string a0_2, .bool a0_3, .slice A0_4 l0_4.length c0_4, .string a0_5, .string a0_6, .slice (some ad193) l0_7.length c0_7] 29 (0, 0)) q1_ hb); clear hb hbox hg; have hnb72 := NB194_192.out; have hnc72 := NB192_194.out; obtain ⟨hcz73_0, hcz73_1, hcz73_2, hfz73_0, hfz73_1, hfz73_2⟩ := cellsF3 BK194.out) | (go_at_call 17; (with_reducible refine (script_Arg_Value.calls ((rd_T44 l0_7 x78_2).f0) ((rd_T44 l0_7 x78_2).f1) ((rd_T44 l0_7 x78_2).f2) t195 t196 t197 t198 t199 t200 t201 t202 t203 t204 t205 t206 false _ A61.out).mono ?_); rintro e w74 ⟨rfl, hb⟩; replace BK192 := Aside0.mk (blk_below (g := gb192) (o := .cells #[.int .i64 a0_0, .string a0_1, .string a0_2, .bool a0_3, .slice A0_4 l0_4.length c0_4, .string a0_5, .string a0_6, .slice (some ad193) l0_7.length c0_7] 29 (0, 0)) q4_ hb); replace BK194 := Aside0.mk (blk_below (g := gb194) (o := .cells #[.string ((rd_T44 l0_7 x78_2).f0), .int .i64 ((rd_T44 l0_7 x78_2).f1), .string ((rd_T44 l0_7 x78_2).f2)] 44 (0, 0)) q3_ hb); replace HB := Aside0.mk (below_step q2_ hb); (try clear hb); (try clear hb2); (try clear hk); (try clear hi)) | ((with_reducible refine gate_dst (N := 7) rfl ?_); (try (refine gate_guard (by rfl) ?_; dsimp only)); refine box_event ?hg (N := 7) ?hd (cs := #[.int .i64 0, .string (⟨#[]⟩ : ByteArray), .bool false, .string (⟨#[]⟩ : ByteArray), .int .i64 0, .int .i64 0, .int .i64 0, .int .i64 0, .bool false, .bool false, .int .i64 0, .int .i64 0]) (t := 51) ?hr ?_; (case hd => rfl); (case hg => rfl); (case hr => exact u0_); intro gb208 hg w75 hbox hb; have BK208 := Aside0.mk (hbox); have GW208 := Aside0.mk ((q14_ : w.heap.size ≤ gb208)); have GE208 := Aside0.mk ((q14_ : w.heap.size ≤ gb208)); replace HB := Aside0.mk (below_step q2_ hb); have NB192_208 := Aside0.mk ((q5_ : gb192 ≠ gb208)); have NB208_192 := Aside0.mk ((q6_ : gb208 ≠ gb192)); replace BK192 := Aside0.mk (blk_below (g := gb192) (o := .cells #[.int .i64 a0_0, .string a0_1, .string a0_2, .bool a0_3, .slice A0_4 l0_4.length c0_4, .string a0_5, .string a0_6, .slice (some ad193) l0_7.length c0_7] 29 (0, 0)) q1_ hb); have NB194_208 := Aside0.mk ((q10_ : gb194 ≠ gb208)); have NB208_194 := Aside0.mk ((q11_ : gb208 ≠ gb194)); replace BK194 := Aside0.mk (blk_below (g := gb194) (o := .cells #[.string ((rd_T44 l0_7 x78_2).f0), .int .i64 ((rd_T44 l0_7 x78_2).f1), .string ((rd_T44 l0_7 x78_2).f2)] 44 (0, 0)) q7_ hb); clear hb hbox hg; have hnb76 := NB208_192.out; have hnc76 := NB192_208.out; have hnb77 := NB208_194.out; have hnc77 := NB194_208.out; obtain ⟨hcz78_0, hcz78_1, hcz78_2, hcz78_3, hcz78_4, hcz78_5, hcz78_6, hcz78_7, hcz78_8, hcz78_9, hcz78_10, hcz78_11, hfz78_0, hfz78_1, hfz78_2, hfz78_3, hfz78_4, hfz78_5, hfz78_6, hfz78_7, hfz78_8, hfz78_9, hfz78_10, hfz78_11⟩ := cellsF12 BK208.out))
          repeat (go_quiet (first | ((with_reducible refine gate_dst (N := 6) rfl ?_); (try (refine gate_guard (by rfl) ?_; dsimp only)); refine box_event ?hg (N := 6) ?hd (cs := #[.string (⟨#[]⟩ : ByteArray), .int .i64 0, .string (⟨#[]⟩ : ByteArray)]) (t := 44) ?hr ?_; (case hd => rfl); (case hg => rfl); (case hr => exact u0_); intro gb194 hg w71 hbox hb; have BK194 := Aside0.mk (hbox); have GW194 := Aside0.mk ((q13_ : w.heap.size ≤ gb194)); have GE194 := Aside0.mk ((q13_ : w.heap.size ≤ gb194)); replace HB := Aside0.mk (below_step q0_ hb); have NB192_194 := Aside0.mk ((q5_ : gb192 ≠ gb194)); have NB194_192 := Aside0.mk ((q6_ : gb194 ≠ gb192)); replace BK192 := Aside0.mk (blk_below (g := gb192) (o := .cells #[.int .i64 a0_0, .string a0_1, .string a0_2, .bool a0_3, .slice A0_4 l0_4.length c0_4, .string a0_5, .string a0_6, .slice (some ad193) l0_7.length c0_7] 29 (0, 0)) q1_ hb); clear hb hbox hg; have hnb72 := NB194_192.out; have hnc72 := NB192_194.out; obtain ⟨hcz73_0, hcz73_1, hcz73_2, hfz73_0, hfz73_1, hfz73_2⟩ := cellsF3 BK194.out) | (go_at_call 17; (with_reducible refine (script_Arg_Value.calls ((rd_T44 l0_7 x78_2).f0) ((rd_T44 l0_7 x78_2).f1) ((rd_T44 l0_7 x78_2).f2) t195 t196 t197 t198 t199 t200 t201 t202 t203 t204 t205 t206 false _ A61.out).mono ?_); rintro e w74 ⟨rfl, hb⟩; replace BK192 := Aside0.mk (blk_below (g := gb192) (o := .cells #[.int .i64 a0_0, .string a0_1, .string a0_2, .bool a0_3, .slice A0_4 l0_4.length c0_4, .string a0_5, .string a0_6, .slice (some ad193) l0_7.length c0_7] 29 (0, 0)) q4_ hb); replace BK194 := Aside0.mk (blk_below (g := gb194) (o := .cells #[.string ((rd_T44 l0_7 x78_2).f0), .int .i64 ((rd_T44 l0_7 x78_2).f1), .string ((rd_T44 l0_7 x78_2).f2)] 44 (0, 0)) q3_ hb); replace HB := Aside0.mk (below_step q2_ hb); (try clear hb); (try clear hb2); (try clear hk); (try clear hi)) | ((with_reducible refine gate_dst (N := 7) rfl ?_); (try (refine gate_guard (by rfl) ?_; dsimp only)); refine box_event ?hg (N := 7) ?hd (cs := #[.int .i64 0, .string (⟨#[]⟩ : ByteArray), .bool false, .string (⟨#[]⟩ : ByteArray), .int .i64 0, .int .i64 0, .int .i64 0, .int .i64 0, .bool false, .bool false, .int .i64 0, .int .i64 0]) (t := 51) ?hr ?_; (case hd => rfl); (case hg => rfl); (case hr => exact u0_); intro gb208 hg w75 hbox hb; have BK208 := Aside0.mk (hbox); have GW208 := Aside0.mk ((q14_ : w.heap.size ≤ gb208)); have GE208 := Aside0.mk ((q14_ : w.heap.size ≤ gb208)); replace HB := Aside0.mk (below_step q2_ hb); have NB192_208 := Aside0.mk ((q5_ : gb192 ≠ gb208)); have NB208_192 := Aside0.mk ((q6_ : gb208 ≠ gb192)); replace BK192 := Aside0.mk (blk_below (g := gb192) (o := .cells #[.int .i64 a0_0, .string a0_1, .string a0_2, .bool a0_3, .slice A0_4 l0_4.length c0_4, .string a0_5, .string a0_6, .slice (some ad193) l0_7.length c0_7] 29 (0, 0)) q1_ hb); have NB194_208 := Aside0.mk ((q10_ : gb194 ≠ gb208)); have NB208_194 := Aside0.mk ((q11_ : gb208 ≠ gb194)); replace BK194 := Aside0.mk (blk_below (g := gb194) (o := .cells #[.string ((rd_T44 l0_7 x78_2).f0), .int .i64 ((rd_T44 l0_7 x78_2).f1), .string ((rd_T44 l0_7 x78_2).f2)] 44 (0, 0)) q7_ hb); clear hb hbox hg; have hnb76 := NB208_192.out; have hnc76 := NB192_208.out; have hnb77 := NB208_194.out; have hnc77 := NB194_208.out; obtain ⟨hcz78_0, hcz78_1, hcz78_2, hcz78_3, hcz78_4, hcz78_5, hcz78_6, hcz78_7, hcz78_8, hcz78_9, hcz78_10, hcz78_11, hfz78_0, hfz78_1, hfz78_2, hfz78_3, hfz78_4, hfz78_5, hfz78_6, hfz78_7, hfz78_8, hfz78_9, hfz78_10, hfz78_11⟩ := cellsF12 BK208.out)); try go_wp2_with (first | ((with_reducible refine gate_dst (N := 6) rfl ?_); (try (refine gate_guard (by rfl) ?_; dsimp only)); refine box_event ?hg (N := 6) ?hd (cs := #[.string (⟨#[]⟩ : ByteArray), .int .i64 0, .string (⟨#[]⟩ : ByteArray)]) (t := 44) ?hr ?_; (case hd => rfl); (case hg => rfl); (case hr => exact u0_); intro gb194 hg w71 hbox hb; have BK194 := Aside0.mk (hbox); have GW194 := Aside0.mk ((q13_ : w.heap.size ≤ gb194)); have GE194 := Aside0.mk ((q13_ : w.heap.size ≤ gb194)); replace HB := Aside0.mk (below_step q0_ hb); have NB192_194 := Aside0.mk ((q5_ : gb192 ≠ gb194)); have NB194_192 := Aside0.mk ((q6_ : gb194 ≠ gb192)); replace BK192 := Aside0.mk (blk_below (g := gb192) (o := .cells #[.int .i64 a0_0, .string a0_1, .string a0_2, .bool a0_3, .slice A0_4 l0_4.length c0_4, .string a0_5, .string a0_6, .slice (some ad193) l0_7.length c0_7] 29 (0, 0)) q1_ hb); clear hb hbox hg; have hnb72 := NB194_192.out; have hnc72 := NB192_194.out; obtain ⟨hcz73_0, hcz73_1, hcz73_2, hfz73_0, hfz73_1, hfz73_2⟩ := cellsF3 BK194.out) | (go_at_call 17; (with_reducible refine (script_Arg_Value.calls ((rd_T44 l0_7 x78_2).f0) ((rd_T44 l0_7 x78_2).f1) ((rd_T44 l0_7 x78_2).f2) t195 t196 t197 t198 t199 t200 t201 t202 t203 t204 t205 t206 false _ A61.out).mono ?_); rintro e w74 ⟨rfl, hb⟩; replace BK192 := Aside0.mk (blk_below (g := gb192) (o := .cells #[.int .i64 a0_0, .string a0_1, .string a0_2, .bool a0_3, .slice A0_4 l0_4.length c0_4, .string a0_5, .string a0_6, .slice (some ad193) l0_7.length c0_7] 29 (0, 0)) q4_ hb); replace BK194 := Aside0.mk (blk_below (g := gb194) (o := .cells #[.string ((rd_T44 l0_7 x78_2).f0), .int .i64 ((rd_T44 l0_7 x78_2).f1), .string ((rd_T44 l0_7 x78_2).f2)] 44 (0, 0)) q3_ hb); replace HB := Aside0.mk (below_step q2_ hb); (try clear hb); (try clear hb2); (try clear hk); (try clear hi)) | ((with_reducible refine gate_dst (N := 7) rfl ?_); (try (refine gate_guard (by rfl) ?_; dsimp only)); refine box_event ?hg (N := 7) ?hd (cs := #[.int .i64 0, .string (⟨#[]⟩ : ByteArray), .bool false, .string (⟨#[]⟩ : ByteArray), .int .i64 0, .int .i64 0, .int .i64 0, .int .i64 0, .bool false, .bool false, .int .i64 0, .int .i64 0]) (t := 51) ?hr ?_; (case hd => rfl); (case hg => rfl); (case hr => exact u0_); intro gb208 hg w75 hbox hb; have BK208 := Aside0.mk (hbox); have GW208 := Aside0.mk ((q14_ : w.heap.size ≤ gb208)); have GE208 := Aside0.mk ((q14_ : w.heap.size ≤ gb208)); replace HB := Aside0.mk (below_step q2_ hb); have NB192_208 := Aside0.mk ((q5_ : gb192 ≠ gb208)); have NB208_192 := Aside0.mk ((q6_ : gb208 ≠ gb192)); replace BK192 := Aside0.mk (blk_below (g := gb192) (o := .cells #[.int .i64 a0_0, .string a0_1, .string a0_2, .bool a0_3, .slice A0_4 l0_4.length c0_4, .string a0_5, .string a0_6, .slice (some ad193) l0_7.length c0_7] 29 (0, 0)) q1_ hb); have NB194_208 := Aside0.mk ((q10_ : gb194 ≠ gb208)); have NB208_194 := Aside0.mk ((q11_ : gb208 ≠ gb194)); replace BK194 := Aside0.mk (blk_below (g := gb194) (o := .cells #[.string ((rd_T44 l0_7 x78_2).f0), .int .i64 ((rd_T44 l0_7 x78_2).f1), .string ((rd_T44 l0_7 x78_2).f2)] 44 (0, 0)) q7_ hb); clear hb hbox hg; have hnb76 := NB208_192.out; have hnc76 := NB192_208.out; have hnb77 := NB208_194.out; have hnc77 := NB194_208.out; obtain ⟨hcz78_0, hcz78_1, hcz78_2, hcz78_3, hcz78_4, hcz78_5, hcz78_6, hcz78_7, hcz78_8, hcz78_9, hcz78_10, hcz78_11, hfz78_0, hfz78_1, hfz78_2, hfz78_3, hfz78_4, hfz78_5, hfz78_6, hfz78_7, hfz78_8, hfz78_9, hfz78_10, hfz78_11⟩ := cellsF12 BK208.out)))
          go_ret
          exact ⟨q16_, q15_⟩
        ·rw [if_neg c60] at H
         exact absurd H (by simp)
       ·rw [if_neg c59] at H
        exact absurd H (by simp)
      ·rw [if_neg c58] at H
       have c58b0 : decide (x78_2 < (l0_7.length : Int)) = false := decide_eq_false c58
       clear c58
       obtain rfl := Option.some.inj H
       go_wp2
       repeat (go_quiet (fail); try go_wp2)
       go_ret
       exact ⟨q16_, q0_⟩
end Go.Proofs.YtdhpcofnddkcaaaGreatDoor.S
namespace Go.Proofs.YtdhpcofnddkcaaaGreatDoor.S
open Go.RowKit Go.Proofs.YtdhpcofnddkcaaaGreatDoor.G Go.Proofs.YtdhpcofnddkcaaaGreatDoorW.PrintWords Go.Proofs.YtdhpcofnddkcaaaGreatDoorW.PrintLast Go.Proofs.YtdhpcofnddkcaaaGreatDoorW.PrintMore
set_option linter.unusedVariables false
set_option linter.unusedSimpArgs false
theorem rd44 (l : List S44) (i : Nat) (h : i < l.length) : rd_T44 l (i : Int) = l[i] := by
  unfold rd_T44
  rw [Int.toNat_natCast, List.getD_eq_getElem?_getD, List.getElem?_eq_getElem h]
  rfl
def okS (a : S44) : Bool := okA (toAr a)
theorem flag_ok (a : S44) : (valF a.f1 a.f2).2.2.2.2.2.2.2.2.2.2.2.2 = okS a := valF_ok a.f0 a.f1 a.f2
theorem drop_all (l : List S44) (i : Nat) (h : i < l.length) : (l.drop i).all okS = (okS l[i] && (l.drop (i + 1)).all okS) := by
  rw [List.drop_eq_getElem_cons h, List.all_cons]
theorem right_loop (l : List S44) (hl : l.length ≤ 1000000) (hs : ∀ a ∈ l, a.f2.size ≤ 100000) : ∀ (d i : Nat), l.length - i ≤ d → i ≤ l.length → script_Step_Right.l0 (d + 1) l (l.length : Int) (i : Int) = some ((l.drop i).all okS) := by
  intro d
  induction d with
  | zero =>
    intro i h1 h2
    rw [script_Step_Right.l0, if_neg (by omega), List.drop_of_length_le (by omega)]
    rfl
  | succ d ih =>
    intro i h1 h2
    by_cases hi : i < l.length
    · rw [script_Step_Right.l0, if_pos (by omega), if_pos (by omega), if_pos (by omega), rd44 l i hi, value_f _ _ _ (hs _ (List.getElem_mem hi)), Option.bind_some, flag_ok, drop_all l i hi]
      cases h : okS l[i]
      · rfl
      · rw [if_pos rfl, w64 _ (by omega) (by omega), show (i : Int) + 1 = ((i + 1 : Nat) : Int) by omega, ih (i + 1) (by omega) (by omega)]
        rfl
    · rw [script_Step_Right.l0, if_neg (by omega), List.drop_of_length_le (by omega)]
      rfl
theorem lright_loop (l : List S44) (hl : l.length ≤ 1000000) (hs : ∀ a ∈ l, a.f2.size ≤ 100000) : ∃ k0, ∀ k, k0 ≤ k → ∀ a ∈ l, polyglotlaw18_Value.f k a.f0 a.f1 a.f2 = some (valF a.f1 a.f2) := by
  induction l with
  | nil => exact ⟨0, fun k _ a ha => by cases ha⟩
  | cons a t ih =>
    obtain ⟨k1, h1⟩ := ih (by simp at hl; omega) (fun x hx => hs x (.tail _ hx))
    obtain ⟨k2, h2⟩ := lvalue_f a.f0 a.f1 a.f2 (hs a (.head _))
    refine ⟨max k1 k2, fun k hk x hx => ?_⟩
    rcases List.mem_cons.1 hx with rfl | hx
    · exact h2 k (by omega)
    · exact h1 k (by omega) x hx
def rightS (s : S29) : Bool := Net.right okA (toSt s)
theorem toSt_all (l : List S44) : (l.map toAr).all okA = l.all okS := by
  rw [List.all_map]
  rfl
theorem em_iff (s : ByteArray) : s = Net.em ↔ s.toList = ([] : List UInt8) := by
  rw [tl]
  exact ⟨fun h => by rw [h]; rfl, fun h => ba_ext h⟩
theorem map_nil_iff (l : List S44) : l.map toAr = [] ↔ (l.length : Int) = 0 := by
  cases l with
  | nil => simp
  | cons a t => simp; omega
theorem len_nil_iff (l : List ByteArray) : l = [] ↔ (l.length : Int) = 0 := by
  cases l with
  | nil => simp
  | cons a t => simp; omega
def shapeS (s : S29) : Bool :=
  if s.f0 = 0 then decide (s.f5 = Net.em ∧ s.f6 = Net.em ∧ s.f7.map toAr = [] ∧ s.f4 = []) else if s.f0 = 1 then decide (s.f5 = Net.em ∧ s.f6 = Net.em ∧ s.f7.map toAr = [] ∧ s.f2 = Net.em ∧ s.f3 = false)
  else if s.f0 = 2 then decide (s.f2 = Net.em ∧ s.f3 = false ∧ s.f1 = Net.em ∧ s.f4 = []) else false
theorem rightS_eq (s : S29) : rightS s = (s.f7.all okS && shapeS s) := by
  unfold rightS
  show ((s.f7.map toAr).all okA && _) = _
  rw [toSt_all]
  rfl
theorem right_f (s : S29) (k : Nat) (hk : s.f7.length + 2 ≤ k) (hl : s.f7.length ≤ 1000000) (hs : ∀ a ∈ s.f7, a.f2.size ≤ 100000) :
    script_Step_Right.f k s.f0 s.f1 s.f2 s.f3 s.f4 s.f5 s.f6 s.f7 = some (rightS s) := by
  obtain ⟨m, rfl⟩ : ∃ m, k = m + 1 := ⟨k - 1, by omega⟩
  have hj0 : script_Step_Right.j0 (m + 1) true s.f0 s.f1 s.f2 s.f3 s.f4 s.f5 s.f6 s.f7 = some false := by rw [script_Step_Right.j0, if_pos rfl]
  have hj1 : script_Step_Right.j0 (m + 1) false s.f0 s.f1 s.f2 s.f3 s.f4 s.f5 s.f6 s.f7 = some (s.f7.all okS) := by
    obtain ⟨d, rfl⟩ : ∃ d, m = d + 1 := ⟨m - 1, by omega⟩
    have := right_loop s.f7 hl hs d 0 (by omega) (by omega)
    rw [List.drop_zero] at this
    rw [script_Step_Right.j0, if_neg (by decide)]
    exact this
  rw [rightS_eq]
  unfold script_Step_Right.f shapeS
  simp only [em_iff, map_nil_iff, len_nil_iff]
  have h4 : (s.f4.length : Int) = 0 ∨ (s.f4.length : Int) > 0 := by omega
  have h7 : (s.f7.length : Int) = 0 ∨ (s.f7.length : Int) > 0 := by omega
  generalize (s.f7.length : Int) = n7 at *
  generalize s.f7.all okS = A at *
  generalize (s.f4.length : Int) = n4 at *
  obtain ⟨f0, f1, f2, f3, f4, f5, f6, f7⟩ := s
  have hD : ∀ n : Int, n = 0 ∨ n > 0 → decide (n > 0) = !decide (n = 0) := by
    intro n hn
    rcases hn with rfl | h
    · rfl
    · rw [decide_eq_true h, decide_eq_false (by omega)]
      rfl
  have hJ : ∀ b : Bool, script_Step_Right.j0 (m + 1) b f0 f1 f2 f3 f4 f5 f6 f7 = some (!b && A) := by
    intro b
    cases b
    · rw [hj1]; rfl
    · rw [hj0]; rfl
  simp only [hJ, hD n7 h7, hD n4 h4] at *
  clear hj0 hj1 hJ hD hl hs hk
  have e4 : (n4 > 0) = ¬ (n4 = 0) := by
    rw [eq_iff_iff]
    omega
  have e7 : (n7 > 0) = ¬ (n7 = 0) := by
    rw [eq_iff_iff]
    omega
  simp only [e4, e7] at *
  have hf : f0 = 0 ∨ f0 = 1 ∨ f0 = 2 ∨ f0 < 0 ∨ f0 > 2 := by omega
  rcases hf with rfl | rfl | rfl | h | h
  · by_cases c4 : n4 = 0 <;> by_cases c5 : f5.toList = [] <;> by_cases c6 : f6.toList = [] <;> by_cases c7 : n7 = 0 <;> simp [c4, c5, c6, c7]
  · cases f3 <;> by_cases c2 : f2.toList = [] <;> by_cases c5 : f5.toList = [] <;> by_cases c6 : f6.toList = [] <;> by_cases c7 : n7 = 0 <;> simp [c2, c5, c6, c7]
  · cases f3 <;> by_cases c2 : f2.toList = [] <;> by_cases c1 : f1.toList = [] <;> by_cases c4 : n4 = 0 <;> simp [c1, c2, c4]
  · rw [if_pos h, if_neg (by omega), if_neg (by omega), if_neg (by omega)]
    simp
  · rw [if_neg (by omega), if_pos h, if_neg (by omega), if_neg (by omega), if_neg (by omega)]
    simp
end Go.Proofs.YtdhpcofnddkcaaaGreatDoor.S
namespace Go.Proofs.YtdhpcofnddkcaaaGreatDoor.S
open Go.RowKit Go.Proofs.YtdhpcofnddkcaaaGreatDoor.G Go.Proofs.YtdhpcofnddkcaaaGreatDoorW.PrintWords Go.Proofs.YtdhpcofnddkcaaaGreatDoorW.PrintLast Go.Proofs.YtdhpcofnddkcaaaGreatDoorW.PrintMore
attribute [local go_sem] max2_int min2_int max_two min_two max_three min_three max_four min_four
set_option linter.unusedVariables false
set_option linter.unusedSimpArgs false
def script_part.f (a0 : ByteArray) : Option (ByteArray) := (strconv_Itoa.f (a0.size : Int)).bind fun t400 => (if t400.size + 1 ≤ 9223372036854775807 then (if (t400 ++ (⟨#[58]⟩ : ByteArray)).size + a0.size ≤ 9223372036854775807 then (if ((t400 ++ (⟨#[58]⟩ : ByteArray)) ++ a0).size + 1 ≤ 9223372036854775807 then (some (((t400 ++ (⟨#[58]⟩ : ByteArray)) ++ a0) ++ (⟨#[44]⟩ : ByteArray))) else (none)) else (none)) else (none))
set_option maxHeartbeats 8000000 in
set_option maxRecDepth 100000 in
theorem script_part.calls (a0 : ByteArray) (r : ByteArray) (w : World) (h : script_part.f a0 = some r) (HP0_ : TabP_ w := by exact TabP_.step HP0_ (by repeat (first | (with_reducible first | exact HB.out | apply below_alloc | apply pw_below_drewN | apply below_drew1 | refine below_set ?_ (Aside0.out (by assumption))) | exact HB.out))) :
    Calls Tryz.prog 23 #[.string a0] w fun e w' => e = .returned (.string r) ∧ Below w.heap.size w w' := by
  have HB := Aside0.mk (Below.refl w.heap.size w)
  have H : ((strconv_Itoa.f (a0.size : Int)).bind fun t400 => (if t400.size + 1 ≤ 9223372036854775807 then (if (t400 ++ (⟨#[58]⟩ : ByteArray)).size + a0.size ≤ 9223372036854775807 then (if ((t400 ++ (⟨#[58]⟩ : ByteArray)) ++ a0).size + 1 ≤ 9223372036854775807 then (some (((t400 ++ (⟨#[58]⟩ : ByteArray)) ++ a0) ++ (⟨#[44]⟩ : ByteArray))) else (none)) else (none)) else (none))) = some r := h
  clear h
  replace H := Option.bind_eq_some_iff.mp H
  obtain ⟨t400, A20, H⟩ := H
  replace H : (if t400.size + 1 ≤ 9223372036854775807 then (if (t400 ++ (⟨#[58]⟩ : ByteArray)).size + a0.size ≤ 9223372036854775807 then (if ((t400 ++ (⟨#[58]⟩ : ByteArray)) ++ a0).size + 1 ≤ 9223372036854775807 then (some (((t400 ++ (⟨#[58]⟩ : ByteArray)) ++ a0) ++ (⟨#[44]⟩ : ByteArray))) else (none)) else (none)) else (none)) = some r := H
  have A2 := Aside0.mk A20
  clear A20
  by_cases c3 : t400.size + 1 ≤ 9223372036854775807
  · rw [if_pos c3] at H
    have c3b0 := eq_true c3
    have c3b1 : decide (t400.size + 1 ≤ 9223372036854775807) = true := decide_eq_true c3
    try have c3b2 : (9223372036854775807 < t400.size + 1) = False := eq_false (Nat.not_lt.2 c3)
    by_cases c4 : (t400 ++ (⟨#[58]⟩ : ByteArray)).size + a0.size ≤ 9223372036854775807
    · rw [if_pos c4] at H
      have c4b0 := eq_true c4
      try have c4n := c4
      try simp only [ByteArray.size_append, show (⟨#[58]⟩ : ByteArray).size = 1 from rfl] at c4n
      try have c4m := eq_false (Nat.not_lt.2 c4n)
      try have c4k := eq_true c4n
      have c4b1 : decide ((t400 ++ (⟨#[58]⟩ : ByteArray)).size + a0.size ≤ 9223372036854775807) = true := decide_eq_true c4
      try have c4b2 : (9223372036854775807 < (t400 ++ (⟨#[58]⟩ : ByteArray)).size + a0.size) = False := eq_false (Nat.not_lt.2 c4)
      by_cases c5 : ((t400 ++ (⟨#[58]⟩ : ByteArray)) ++ a0).size + 1 ≤ 9223372036854775807
      · rw [if_pos c5] at H
        have c5b0 := eq_true c5
        try have c5n := c5
        try simp only [ByteArray.size_append, show (⟨#[58]⟩ : ByteArray).size = 1 from rfl] at c5n
        try have c5m := eq_false (Nat.not_lt.2 c5n)
        try have c5k := eq_true c5n
        have c5b1 : decide (((t400 ++ (⟨#[58]⟩ : ByteArray)) ++ a0).size + 1 ≤ 9223372036854775807) = true := decide_eq_true c5
        try have c5b2 : (9223372036854775807 < ((t400 ++ (⟨#[58]⟩ : ByteArray)) ++ a0).size + 1) = False := eq_false (Nat.not_lt.2 c5)
        obtain rfl := Option.some.inj H
        go_enter Tryz.func23, Tryz.ntmps23
        go_wp2_with (first | ((with_reducible refine gate_callee (f := 20) rfl ?_); refine goesL_ (some 5) rfl rfl Tryz.func20 (by kernel_rfl) rfl #[.int .i64 (a0.size : Int)] rfl (by (try simp only [List.map_toArray, List.map_cons, List.map_nil]); first | done | rfl | (simp only [List.length_drop, List.length_take]; rfl)) ?_; (with_reducible refine (strconv_Itoa.calls (a0.size : Int) t400 _ A2.out).mono ?_); rintro e w6 ⟨rfl, hb⟩; refine ⟨_, rfl, ?_⟩; have n0_ := Aside0.mk (below_step (by repeat (first | (with_reducible first | exact HB.out | apply below_alloc | apply pw_below_drewN | apply below_drew1) | exact HB.out)) hb); clear HB; have HB := n0_; clear n0_; (try clear hb); (try clear hb2); (try clear hk); (try clear hi)))
        go_ret
        exact ⟨by first | rfl | (simp [errW_none, errW_some] <;> rfl) | (simp [*, errW_none, errW_some] <;> rfl), by repeat (first | (with_reducible first | exact HB.out | apply below_alloc | apply pw_below_drewN | apply below_drew1) | exact HB.out)⟩
      · rw [if_neg c5] at H
        exact absurd H (by simp)
    · rw [if_neg c4] at H
      exact absurd H (by simp)
  · rw [if_neg c3] at H
    exact absurd H (by simp)
end Go.Proofs.YtdhpcofnddkcaaaGreatDoor.S
namespace Go.Proofs.YtdhpcofnddkcaaaGreatDoor.S
open Go.RowKit Go.Proofs.YtdhpcofnddkcaaaGreatDoor.G Go.Proofs.YtdhpcofnddkcaaaGreatDoorW.PrintWords Go.Proofs.YtdhpcofnddkcaaaGreatDoorW.PrintLast Go.Proofs.YtdhpcofnddkcaaaGreatDoorW.PrintMore
attribute [local go_sem] max2_int min2_int max_two min_two max_three min_three max_four min_four
set_option linter.unusedVariables false
set_option linter.unusedSimpArgs false
namespace Sparts
theorem cells3 {w : World} {g : Nat} {t : TypeId} {a0 a1 a2 : Value} (h : w.heap[g]? = some (.cells #[a0, a1, a2] t (0, 0))) : w.cell? ⟨g, 0, none⟩ = some a0 ∧ w.cell? ⟨g, 1, none⟩ = some a1 ∧ w.cell? ⟨g, 2, none⟩ = some a2 := ⟨(blk_cell h 0).trans rfl, (blk_cell h 1).trans rfl, (blk_cell h 2).trans rfl⟩
theorem cellsF3 {w : World} {g : Nat} {t : TypeId} {a0 a1 a2 : Value} (h : w.heap[g]? = some (.cells #[a0, a1, a2] t (0, 0))) : w.cell? ⟨g, 0, none⟩ = some a0 ∧ w.cell? ⟨g, 1, none⟩ = some a1 ∧ w.cell? ⟨g, 2, none⟩ = some a2 ∧ w.frozen? ⟨g, 0, none⟩ = false ∧ w.frozen? ⟨g, 1, none⟩ = false ∧ w.frozen? ⟨g, 2, none⟩ = false := ⟨(blk_cell h 0).trans rfl, (blk_cell h 1).trans rfl, (blk_cell h 2).trans rfl, blk_frozen h 0, blk_frozen h 1, blk_frozen h 2⟩
theorem cells8 {w : World} {g : Nat} {t : TypeId} {a0 a1 a2 a3 a4 a5 a6 a7 : Value} (h : w.heap[g]? = some (.cells #[a0, a1, a2, a3, a4, a5, a6, a7] t (0, 0))) : w.cell? ⟨g, 0, none⟩ = some a0 ∧ w.cell? ⟨g, 1, none⟩ = some a1 ∧ w.cell? ⟨g, 2, none⟩ = some a2 ∧ w.cell? ⟨g, 3, none⟩ = some a3 ∧ w.cell? ⟨g, 4, none⟩ = some a4 ∧ w.cell? ⟨g, 5, none⟩ = some a5 ∧ w.cell? ⟨g, 6, none⟩ = some a6 ∧ w.cell? ⟨g, 7, none⟩ = some a7 := ⟨(blk_cell h 0).trans rfl, (blk_cell h 1).trans rfl, (blk_cell h 2).trans rfl, (blk_cell h 3).trans rfl, (blk_cell h 4).trans rfl, (blk_cell h 5).trans rfl, (blk_cell h 6).trans rfl, (blk_cell h 7).trans rfl⟩
theorem cellsF8 {w : World} {g : Nat} {t : TypeId} {a0 a1 a2 a3 a4 a5 a6 a7 : Value} (h : w.heap[g]? = some (.cells #[a0, a1, a2, a3, a4, a5, a6, a7] t (0, 0))) : w.cell? ⟨g, 0, none⟩ = some a0 ∧ w.cell? ⟨g, 1, none⟩ = some a1 ∧ w.cell? ⟨g, 2, none⟩ = some a2 ∧ w.cell? ⟨g, 3, none⟩ = some a3 ∧ w.cell? ⟨g, 4, none⟩ = some a4 ∧ w.cell? ⟨g, 5, none⟩ = some a5 ∧ w.cell? ⟨g, 6, none⟩ = some a6 ∧ w.cell? ⟨g, 7, none⟩ = some a7 ∧ w.frozen? ⟨g, 0, none⟩ = false ∧ w.frozen? ⟨g, 1, none⟩ = false ∧ w.frozen? ⟨g, 2, none⟩ = false ∧ w.frozen? ⟨g, 3, none⟩ = false ∧ w.frozen? ⟨g, 4, none⟩ = false ∧ w.frozen? ⟨g, 5, none⟩ = false ∧ w.frozen? ⟨g, 6, none⟩ = false ∧ w.frozen? ⟨g, 7, none⟩ = false := ⟨(blk_cell h 0).trans rfl, (blk_cell h 1).trans rfl, (blk_cell h 2).trans rfl, (blk_cell h 3).trans rfl, (blk_cell h 4).trans rfl, (blk_cell h 5).trans rfl, (blk_cell h 6).trans rfl, (blk_cell h 7).trans rfl, blk_frozen h 0, blk_frozen h 1, blk_frozen h 2, blk_frozen h 3, blk_frozen h 4, blk_frozen h 5, blk_frozen h 6, blk_frozen h 7⟩
theorem q0_ {p_ : Prop} (h_ : p_ := by repeat (first | (with_reducible first | exact HB.out | apply below_alloc | apply pw_below_drewN | apply below_drew1 | refine below_set ?_ GE401.out) | exact HB.out)) : p_ := h_
theorem q1_ {p_ : Prop} (h_ : p_ := by (with_reducible repeat (first | refine blk_drewN ?_ _ | refine blk_drew ?_ | refine blk_alloc ?_ _)); exact BK401.out) : p_ := h_
theorem q2_ {p_ : Prop} (h_ : p_ := by repeat (first | (with_reducible first | exact HB.out | apply below_alloc | apply pw_below_drewN | apply below_drew1) | exact HB.out)) : p_ := h_
theorem q3_ {p_ : Prop} (h_ : p_ := by repeat (first | (with_reducible first | exact HB.out | apply below_alloc | apply pw_below_drewN | apply below_drew1 | refine below_set ?_ GE401.out | refine below_set ?_ GE420.out) | exact HB.out)) : p_ := h_
theorem q4_ {p_ : Prop} (h_ : p_ := by (with_reducible repeat (first | apply Kd.R_alloc | apply Kd.R_drewN | apply Kd.R_drew)); exact HO_4.out) : p_ := h_
theorem q5_ {p_ : Prop} (h_ : p_ := by first | rfl | (simp [errW_none, errW_some] <;> rfl) | (simp [*, errW_none, errW_some] <;> rfl)) : p_ := h_
theorem q6_ {p_ : Prop} (h_ : p_ := by rw [hg]; exact (below_size q2_)) : p_ := h_
theorem q7_ {p_ : Prop} (h_ : p_ := by first | (with_reducible assumption) | assumption) : p_ := h_
theorem q8_ {p_ : Prop} (h_ : p_ := by (try simp only [List.map_toArray, List.map_cons, List.map_nil]); first | done | rfl | (simp only [List.length_drop, List.length_take]; rfl)) : p_ := h_
theorem u0_ {p_ : Prop} (h_ : p_ := by first | (go_simp; done) | (go_simp; rfl)) : p_ := h_
end Sparts
open Sparts
def script_Step_parts.l0 : Nat → List ByteArray → List (S44) → Int → Int → Option (List ByteArray)
 | 0, _, _, _, _ => none
 | k + 1, x4, x41, x42, x43 => if x43 < x42 then (if 0 ≤ x43 then (if x43 < (x41.length : Int) then (if 0 ≤ ((rd_T44 x41 x43).f1) then (if ((rd_T44 x41 x43).f1) < 3 then ((some (([(rd_T44 x41 x43).f0, Utf8.encode (bt (⟨#[116, 110, 109]⟩ : ByteArray) ((rd_T44 x41 x43).f1)), (rd_T44 x41 x43).f2] : List ByteArray) : List ByteArray)).bind fun y421 => (if x4.length + y421.length < 8796093022208 then (script_Step_parts.l0 k (x4 ++ y421) x41 x42 (wrap64 (x43 + 1))) else (none))) else (none)) else (none)) else (none)) else (none)) else (some x4)
def script_Step_parts.f (k : Nat) (a0_0 : Int) (a0_1 : ByteArray) (a0_2 : ByteArray) (a0_3 : Bool) (l0_4 : List ByteArray) (a0_5 : ByteArray) (a0_6 : ByteArray) (l0_7 : List (S44)) : Option (List ByteArray) := if a0_0 = 0 then (if a0_3 = true then (some (([(⟨#[97]⟩ : ByteArray), a0_1, (⟨#[49]⟩ : ByteArray), a0_2] : List ByteArray))) else (some (([(⟨#[97]⟩ : ByteArray), a0_1, (⟨#[48]⟩ : ByteArray), a0_2] : List ByteArray)))) else (if a0_0 = 1 then ((strconv_Itoa.f (l0_4.length : Int)).bind fun t408 => ((some (([(⟨#[99]⟩ : ByteArray), a0_1, t408] : List ByteArray) : List ByteArray)).bind fun y409 => (if y409.length + l0_4.length < 8796093022208 then (some (y409 ++ l0_4)) else (none)))) else ((strconv_Itoa.f (l0_7.length : Int)).bind fun t415 => (script_Step_parts.l0 k (([(⟨#[113]⟩ : ByteArray), a0_5, a0_6, t415] : List ByteArray)) l0_7 (l0_7.length : Int) 0)))
theorem script_Step_parts.mono_l : ∀ k, (∀ y0 y1 y2 y3, LeO (script_Step_parts.l0 k y0 y1 y2 y3) (script_Step_parts.l0 (k + 1) y0 y1 y2 y3))
 | 0 => fun _ _ _ _ r h => by simp [script_Step_parts.l0] at h
 | k + 1 => by
  have ih0 := script_Step_parts.mono_l k
  ·intro y0 y1 y2 y3
   unfold script_Step_parts.l0
   repeat' first
   | (with_reducible exact ih0 _ _ _ _)
   | (with_reducible exact LeO.refl _)
   | (with_reducible exact LeO.none _)
   | (with_reducible refine LeO.ite ?_ ?_)
   | (with_reducible refine LeO.bind ?_ (fun _ => ?_))
   | exact ih0 _ _ _ _
   | exact LeO.none _
   | refine LeO.ite ?_ ?_
   | refine LeO.bind ?_ (fun _ => ?_)
theorem script_Step_parts.mono : ∀ a0 a1 a2 a3 a4 a5 a6 a7 k, LeO (script_Step_parts.f k a0 a1 a2 a3 a4 a5 a6 a7) (script_Step_parts.f (k + 1) a0 a1 a2 a3 a4 a5 a6 a7) := by
 intro a0 a1 a2 a3 a4 a5 a6 a7 k
 have ih0 := script_Step_parts.mono_l k
 unfold script_Step_parts.f
 repeat' first
   | (with_reducible exact ih0 _ _ _ _)
   | (with_reducible exact LeO.refl _)
   | (with_reducible exact LeO.none _)
   | (with_reducible refine LeO.ite ?_ ?_)
   | (with_reducible refine LeO.bind ?_ (fun _ => ?_))
   | exact ih0 _ _ _ _
   | exact LeO.none _
   | refine LeO.ite ?_ ?_
   | refine LeO.bind ?_ (fun _ => ?_)
def script_Step_parts.T8 : Bool × List (List Nat × List Nat) := (true, [([], []), ([0], [0]), ([], []), ([2], [2]), ([3], [3]), ([4], [4]), ([1, 5], [1, 5]), ([], []), ([7], [7]), ([6, 8, 5], [6, 8]), ([9, 9, 0, 1, 2, 3, 4, 5, 6, 7, 8, 9], [9])])
def script_Step_parts.B8 : List Nat := [0, 1, 0, 4, 12, 28, 63, 0, 128, 511, 1023]
theorem script_Step_parts.tab8 : rtab .any (opsOf Tryz.f21 8) = script_Step_parts.T8 := by kernel_rfl
theorem script_Step_parts.bits8 : waitsOk script_Step_parts.T8.2 script_Step_parts.B8 = true := by kernel_rfl
def script_Step_parts.T9 : Bool × List (List Nat × List Nat) := (true, [([], []), ([0], [0]), ([], []), ([2], [2]), ([], []), ([4], [4]), ([5], [5]), ([6], [6]), ([1, 3, 7], [1, 3, 7]), ([8, 7, 0, 1, 2, 3, 4, 5, 6, 7, 8], [8])])
def script_Step_parts.B9 : List Nat := [0, 1, 0, 4, 0, 16, 48, 112, 255, 511]
theorem script_Step_parts.tab9 : rtab .any (opsOf Tryz.f21 9) = script_Step_parts.T9 := by kernel_rfl
theorem script_Step_parts.bits9 : waitsOk script_Step_parts.T9.2 script_Step_parts.B9 = true := by kernel_rfl
def script_Step_parts.T13 : Bool × List (List Nat × List Nat) := (true, [([], []), ([], []), ([1], [1]), ([], []), ([3], [3]), ([4], [4]), ([5], [5]), ([], []), ([7], [7]), ([2, 6, 8], [2, 6, 8]), ([0, 9], [0, 9]), ([10, 10, 0, 1, 2, 3, 4, 5, 6, 7, 8, 9, 10], [0, 10])])
def script_Step_parts.B13 : List Nat := [0, 0, 2, 0, 8, 24, 56, 0, 128, 510, 1023, 2047]
theorem script_Step_parts.tab13 : rtab .any (opsOf Tryz.f21 13) = script_Step_parts.T13 := by kernel_rfl
theorem script_Step_parts.bits13 : waitsOk script_Step_parts.T13.2 script_Step_parts.B13 = true := by kernel_rfl
set_option maxHeartbeats 8000000 in
set_option maxRecDepth 100000 in
theorem script_Step_parts.calls (k : Nat) (a0_0 : Int) (a0_1 : ByteArray) (a0_2 : ByteArray) (a0_3 : Bool) (A0_4 : Option Addr) (c0_4 : Nat) (l0_4 : List ByteArray) (a0_5 : ByteArray) (a0_6 : ByteArray) (A0_7 : Option Addr) (c0_7 : Nat) (l0_7 : List (S44)) (r : List ByteArray) (w : World) (hr0_4 : Kd.C Kd.string w A0_4 l0_4.length l0_4) (hc0_4 : l0_4.length ≤ c0_4) (hr0_7 : Kd.C k44 w A0_7 l0_7.length l0_7) (hc0_7 : l0_7.length ≤ c0_7) (h : script_Step_parts.f k a0_0 a0_1 a0_2 a0_3 l0_4 a0_5 a0_6 l0_7 = some r) (HP0_ : TabP_ w := by exact TabP_.step HP0_ (by repeat (first | (with_reducible first | exact HB.out | apply below_alloc | apply pw_below_drewN | apply below_drew1 | refine below_set ?_ (Aside0.out (by assumption))) | exact HB.out))) :
  Calls Tryz.prog 21 #[.agg #[.int .i64 a0_0, .string a0_1, .string a0_2, .bool a0_3, .slice A0_4 l0_4.length c0_4, .string a0_5, .string a0_6, .slice A0_7 l0_7.length c0_7]] w fun e w' => ∃ v0_ : Value, e = .returned (v0_) ∧ Kd.R Kd.string 9 w' w.heap.size (fun _ => True) v0_ r ∧ Below w.heap.size w w' := by
 have hu29 := Tryz.underlying29
 have hu44 := Tryz.underlying44
 have HR0_4 := Aside0.mk hr0_4
 have HC0_4 := Aside0.mk hc0_4
 clear hr0_4 hc0_4
 have HR0_7 := Aside0.mk hr0_7
 have HC0_7 := Aside0.mk hc0_7
 clear hr0_7 hc0_7
 have HB := Aside0.mk (Below.refl w.heap.size w)
 have H : (if a0_0 = 0 then (if a0_3 = true then (some (([(⟨#[97]⟩ : ByteArray), a0_1, (⟨#[49]⟩ : ByteArray), a0_2] : List ByteArray))) else (some (([(⟨#[97]⟩ : ByteArray), a0_1, (⟨#[48]⟩ : ByteArray), a0_2] : List ByteArray)))) else (if a0_0 = 1 then ((strconv_Itoa.f (l0_4.length : Int)).bind fun t408 => ((some (([(⟨#[99]⟩ : ByteArray), a0_1, t408] : List ByteArray) : List ByteArray)).bind fun y409 => (if y409.length + l0_4.length < 8796093022208 then (some (y409 ++ l0_4)) else (none)))) else ((strconv_Itoa.f (l0_7.length : Int)).bind fun t415 => (script_Step_parts.l0 k (([(⟨#[113]⟩ : ByteArray), a0_5, a0_6, t415] : List ByteArray)) l0_7 (l0_7.length : Int) 0)))) = some r := h
 clear h
 by_cases c2 : a0_0 = 0
 ·rw [if_pos c2] at H
  have c2b0 : (a0_0 == 0) = true := beq_iff_eq.mpr c2
  have c2b1 : (a0_0 != 0) = false := bne_eq_false_iff_eq.mpr c2
  clear c2
  by_cases c3 : a0_3 = true
  ·subst c3
   have H1 : (some (([(⟨#[97]⟩ : ByteArray), a0_1, (⟨#[49]⟩ : ByteArray), a0_2] : List ByteArray))) = some r := by rw [if_pos rfl] at H; exact H
   clear H
   have H := H1
   clear H1
   obtain ⟨y402, hy402⟩ : ∃ y_ : List ByteArray, y_ = (([(⟨#[97]⟩ : ByteArray), a0_1, (⟨#[49]⟩ : ByteArray), a0_2] : List ByteArray)) := ⟨_, rfl⟩
   replace H : (some y402) = some r := by first | (rw [hy402]; with_reducible exact H) | (have H2_ := (Option.bind_some _ _).symm.trans H; rw [hy402]; with_reducible exact H2_) | (have H2_ := (Option.bind_some _ _).symm.trans H; with_reducible exact H2_) | with_reducible exact H | (rw [hy402]; exact H) | exact H
   have Ny402 := Aside0.mk hy402
   clear hy402
   obtain rfl := Option.some.inj H
   go_enter Tryz.func21, Tryz.ntmps21
   go_wp2_with (first | ((with_reducible refine gate_dst (N := 1) rfl ?_); refine box_event ?hg (N := 1) ?hd (cs := #[.int .i64 a0_0, .string a0_1, .string a0_2, .bool true, .slice A0_4 l0_4.length c0_4, .string a0_5, .string a0_6, .slice A0_7 l0_7.length c0_7]) (t := 29) ?hr ?_; (case hd => rfl); (case hg => rfl); (case hr => exact u0_); intro gb401 hg w4 hbox hb; have BK401 := Aside0.mk (hbox); have GW401 := Aside0.mk ((q6_ : w.heap.size ≤ gb401)); have GE401 := Aside0.mk ((q6_ : w.heap.size ≤ gb401)); replace HB := Aside0.mk (below_step q2_ hb); clear hb hbox hg; obtain ⟨hcz5_0, hcz5_1, hcz5_2, hcz5_3, hcz5_4, hcz5_5, hcz5_6, hcz5_7, hfz5_0, hfz5_1, hfz5_2, hfz5_3, hfz5_4, hfz5_5, hfz5_6, hfz5_7⟩ := cellsF8 BK401.out) | ((with_reducible refine gate_dst (N := 18) rfl ?_); refine Kd.R_lit Kd.string _ 9 ?hg (N := 18) ?hd (xs := ([(⟨#[97]⟩ : ByteArray), a0_1, (⟨#[49]⟩ : ByteArray), a0_2] : List ByteArray)) (inner := [.string (⟨#[97]⟩ : ByteArray), .string a0_1, .string (⟨#[49]⟩ : ByteArray), .string a0_2]) (ok := fun _ => True) (okp := fun _ => True) ?hr ?hp (fun _ hk => hk) trivial (Below.refl _ _) (Nat.le_refl _) (by simp) ?_; (case hd => rfl); (case hg => rfl); (case hr => exact u0_); (case hp => exact (Reps.one (show Kd.M Kd.string _ _ _ (⟨#[97]⟩ : ByteArray) [.string (⟨#[97]⟩ : ByteArray)] from rfl) (Reps.one (show Kd.M Kd.string _ _ _ a0_1 [.string a0_1] from rfl) (Reps.one (show Kd.M Kd.string _ _ _ (⟨#[49]⟩ : ByteArray) [.string (⟨#[49]⟩ : ByteArray)] from rfl) (Reps.one (show Kd.M Kd.string _ _ _ a0_2 [.string a0_2] from rfl) (Reps.none _ _)))))); intro v403 w6 ho7 hb hg_ hnew_; clear hg_ hnew_; (first | rw [← Ny402.out] at ho7 | (simp only [Int.reduceToNat] at ho7; rw [← Ny402.out] at ho7)); have HO404 := Aside0.mk (Kd.R_lower ho7 (below_size q0_)); replace BK401 := Aside0.mk (blk_below (g := gb401) (o := .cells #[.int .i64 a0_0, .string a0_1, .string a0_2, .bool true, .slice A0_4 l0_4.length c0_4, .string a0_5, .string a0_6, .slice A0_7 l0_7.length c0_7] 29 (0, 0)) q1_ hb); replace HB := Aside0.mk (below_step q0_ hb); clear hb ho7))
   go_ret
   exact ⟨_, q5_, (by (with_reducible repeat (first | apply Kd.R_alloc | apply Kd.R_drewN | apply Kd.R_drew)); exact HO404.out), q0_⟩
  ·replace c3 := Bool.eq_false_iff.mpr c3
   subst c3
   have H1 : (some (([(⟨#[97]⟩ : ByteArray), a0_1, (⟨#[48]⟩ : ByteArray), a0_2] : List ByteArray))) = some r := by rw [if_neg (show ¬ (false = true) by decide)] at H; exact H
   clear H
   have H := H1
   clear H1
   obtain ⟨y405, hy405⟩ : ∃ y_ : List ByteArray, y_ = (([(⟨#[97]⟩ : ByteArray), a0_1, (⟨#[48]⟩ : ByteArray), a0_2] : List ByteArray)) := ⟨_, rfl⟩
   replace H : (some y405) = some r := by first | (rw [hy405]; with_reducible exact H) | (have H2_ := (Option.bind_some _ _).symm.trans H; rw [hy405]; with_reducible exact H2_) | (have H2_ := (Option.bind_some _ _).symm.trans H; with_reducible exact H2_) | with_reducible exact H | (rw [hy405]; exact H) | exact H
   have Ny405 := Aside0.mk hy405
   clear hy405
   obtain rfl := Option.some.inj H
   go_enter Tryz.func21, Tryz.ntmps21
   go_wp2_with (first | ((with_reducible refine gate_dst (N := 1) rfl ?_); refine box_event ?hg (N := 1) ?hd (cs := #[.int .i64 a0_0, .string a0_1, .string a0_2, .bool false, .slice A0_4 l0_4.length c0_4, .string a0_5, .string a0_6, .slice A0_7 l0_7.length c0_7]) (t := 29) ?hr ?_; (case hd => rfl); (case hg => rfl); (case hr => exact u0_); intro gb401 hg w8 hbox hb; have BK401 := Aside0.mk (hbox); have GW401 := Aside0.mk ((q6_ : w.heap.size ≤ gb401)); have GE401 := Aside0.mk ((q6_ : w.heap.size ≤ gb401)); replace HB := Aside0.mk (below_step q2_ hb); clear hb hbox hg; obtain ⟨hcz9_0, hcz9_1, hcz9_2, hcz9_3, hcz9_4, hcz9_5, hcz9_6, hcz9_7, hfz9_0, hfz9_1, hfz9_2, hfz9_3, hfz9_4, hfz9_5, hfz9_6, hfz9_7⟩ := cellsF8 BK401.out) | ((with_reducible refine gate_dst (N := 18) rfl ?_); refine Kd.R_lit Kd.string _ 9 ?hg (N := 18) ?hd (xs := ([(⟨#[97]⟩ : ByteArray), a0_1, (⟨#[48]⟩ : ByteArray), a0_2] : List ByteArray)) (inner := [.string (⟨#[97]⟩ : ByteArray), .string a0_1, .string (⟨#[48]⟩ : ByteArray), .string a0_2]) (ok := fun _ => True) (okp := fun _ => True) ?hr ?hp (fun _ hk => hk) trivial (Below.refl _ _) (Nat.le_refl _) (by simp) ?_; (case hd => rfl); (case hg => rfl); (case hr => exact u0_); (case hp => exact (Reps.one (show Kd.M Kd.string _ _ _ (⟨#[97]⟩ : ByteArray) [.string (⟨#[97]⟩ : ByteArray)] from rfl) (Reps.one (show Kd.M Kd.string _ _ _ a0_1 [.string a0_1] from rfl) (Reps.one (show Kd.M Kd.string _ _ _ (⟨#[48]⟩ : ByteArray) [.string (⟨#[48]⟩ : ByteArray)] from rfl) (Reps.one (show Kd.M Kd.string _ _ _ a0_2 [.string a0_2] from rfl) (Reps.none _ _)))))); intro v406 w10 ho11 hb hg_ hnew_; clear hg_ hnew_; (first | rw [← Ny405.out] at ho11 | (simp only [Int.reduceToNat] at ho11; rw [← Ny405.out] at ho11)); have HO407 := Aside0.mk (Kd.R_lower ho11 (below_size q0_)); replace BK401 := Aside0.mk (blk_below (g := gb401) (o := .cells #[.int .i64 a0_0, .string a0_1, .string a0_2, .bool false, .slice A0_4 l0_4.length c0_4, .string a0_5, .string a0_6, .slice A0_7 l0_7.length c0_7] 29 (0, 0)) q1_ hb); replace HB := Aside0.mk (below_step q0_ hb); clear hb ho11))
   go_ret
   exact ⟨_, q5_, (by (with_reducible repeat (first | apply Kd.R_alloc | apply Kd.R_drewN | apply Kd.R_drew)); exact HO407.out), q0_⟩
 ·rw [if_neg c2] at H
  have c2b0 : (a0_0 == 0) = false := beq_eq_false_iff_ne.mpr c2
  have c2b1 : (a0_0 != 0) = true := bne_iff_ne.mpr c2
  by_cases c12 : a0_0 = 1
  ·rw [if_pos c12] at H
   have c12b0 : (a0_0 == 1) = true := beq_iff_eq.mpr c12
   have c12b1 : (a0_0 != 1) = false := bne_eq_false_iff_eq.mpr c12
   clear c12
   replace H := Option.bind_eq_some_iff.mp H
   obtain ⟨t408, A130, H⟩ := H
   replace H : ((some (([(⟨#[99]⟩ : ByteArray), a0_1, t408] : List ByteArray) : List ByteArray)).bind fun y409 => (if y409.length + l0_4.length < 8796093022208 then (some (y409 ++ l0_4)) else (none))) = some r := H
   have A13 := Aside0.mk A130
   clear A130
   obtain ⟨y409, hy409⟩ : ∃ y_ : List ByteArray, y_ = (([(⟨#[99]⟩ : ByteArray), a0_1, t408] : List ByteArray)) := ⟨_, rfl⟩
   replace H : (if y409.length + l0_4.length < 8796093022208 then (some (y409 ++ l0_4)) else (none)) = some r := by first | (rw [hy409]; with_reducible exact H) | (have H2_ := (Option.bind_some _ _).symm.trans H; rw [hy409]; with_reducible exact H2_) | (have H2_ := (Option.bind_some _ _).symm.trans H; with_reducible exact H2_) | with_reducible exact H | (rw [hy409]; exact H) | exact H
   have Ny409 := Aside0.mk hy409
   clear hy409
   by_cases c14 : y409.length + l0_4.length < 8796093022208
   ·rw [if_pos c14] at H
    have LMc14 := Aside0.mk c14
    clear c14
    obtain ⟨y412, hy412⟩ : ∃ y_ : List ByteArray, y_ = (y409 ++ l0_4) := ⟨_, rfl⟩
    replace H : (some y412) = some r := by first | (rw [hy412]; with_reducible exact H) | (have H2_ := (Option.bind_some _ _).symm.trans H; rw [hy412]; with_reducible exact H2_) | (have H2_ := (Option.bind_some _ _).symm.trans H; with_reducible exact H2_) | with_reducible exact H | (rw [hy412]; exact H) | exact H
    have Ny412 := Aside0.mk hy412
    clear hy412
    obtain rfl := Option.some.inj H
    go_enter Tryz.func21, Tryz.ntmps21
    try go_wp2_with (first | ((with_reducible refine gate_dst (N := 1) rfl ?_); refine box_event ?hg (N := 1) ?hd (cs := #[.int .i64 a0_0, .string a0_1, .string a0_2, .bool a0_3, .slice A0_4 l0_4.length c0_4, .string a0_5, .string a0_6, .slice A0_7 l0_7.length c0_7]) (t := 29) ?hr ?_; (case hd => rfl); (case hg => rfl); (case hr => exact u0_); intro gb401 hg w15 hbox hb; have BK401 := Aside0.mk (hbox); have GW401 := Aside0.mk ((q6_ : w.heap.size ≤ gb401)); have GE401 := Aside0.mk ((q6_ : w.heap.size ≤ gb401)); replace HB := Aside0.mk (below_step q2_ hb); clear hb hbox hg; obtain ⟨hcz16_0, hcz16_1, hcz16_2, hcz16_3, hcz16_4, hcz16_5, hcz16_6, hcz16_7, hfz16_0, hfz16_1, hfz16_2, hfz16_3, hfz16_4, hfz16_5, hfz16_6, hfz16_7⟩ := cellsF8 BK401.out))
    replace BK401 := Aside0.mk (blk_drew BK401.out)
    replace HB := Aside0.mk (below_drew1 HB.out)
    refine start_ (n := 11) (S := fun w' => w'.cell? ⟨gb401, 0, none⟩ = some (.int .i64 a0_0) ∧ w'.cell? ⟨gb401, 1, none⟩ = some (.string a0_1) ∧ w'.cell? ⟨gb401, 2, none⟩ = some (.string a0_2) ∧ w'.cell? ⟨gb401, 3, none⟩ = some (.bool a0_3) ∧ w'.cell? ⟨gb401, 4, none⟩ = some (.slice A0_4 l0_4.length c0_4) ∧ w'.cell? ⟨gb401, 5, none⟩ = some (.string a0_5) ∧ w'.cell? ⟨gb401, 6, none⟩ = some (.string a0_6) ∧ w'.cell? ⟨gb401, 7, none⟩ = some (.slice A0_7 l0_7.length c0_7)) (ds := []) #[false, false, false, false, false, false, false, false, false, false, false] (by kernel_rfl) rfl rfl ⟨(blk_cell BK401.out 0).trans rfl, (blk_cell BK401.out 1).trans rfl, (blk_cell BK401.out 2).trans rfl, (blk_cell BK401.out 3).trans rfl, (blk_cell BK401.out 4).trans rfl, (blk_cell BK401.out 5).trans rfl, (blk_cell BK401.out 6).trans rfl, (blk_cell BK401.out 7).trans rfl⟩ (fun hHeld => ?_); refine with_tabW script_Step_parts.tab8 script_Step_parts.bits8 (fun HT_ HW_ => ?_)
    generalize w15.drew = w17 at BK401 HB hHeld ⊢
    refine pure_ (i := 0) (N := some 21) (v := ?_) (a' := ?_) #[true, false, false, false, false, false, false, false, false, false, false] rfl rfl (any_of HT_.out (by kernel_rfl)) (fun _ _ _ h => h) (Or.inl ⟨(by rfl), ?_⟩) ?_ ?_
    rotate_left
    ·intro w'
     go_simp
     with_reducible rfl
    rotate_left
    ·simp only [Act.put, List.setIfInBounds_toArray, List.set_cons_zero, List.set_cons_succ, i64_w, i32_w]
     rfl
    refine pure_ (i := 2) (N := some 23) (v := ?_) (a' := ?_) #[true, false, true, false, false, false, false, false, false, false, false] rfl rfl (any_of HT_.out (by kernel_rfl)) (fun _ _ _ h => h) (Or.inl ⟨(by rfl), ?_⟩) ?_ ?_
    rotate_left
    ·intro w'
     go_simp
     with_reducible rfl
    rotate_left
    ·simp only [Act.put, List.setIfInBounds_toArray, List.set_cons_zero, List.set_cons_succ, i64_w, i32_w]
     rfl
    refine pure_ (i := 7) (N := some 28) (v := ?_) (a' := ?_) #[true, false, true, false, false, false, false, true, false, false, false] rfl rfl (any_of HT_.out (by kernel_rfl)) (fun _ _ _ h => h) (Or.inl ⟨(by rfl), ?_⟩) ?_ ?_
    rotate_left
    ·intro w'
     go_simp
     with_reducible rfl
    rotate_left
    ·simp only [Act.put, List.setIfInBounds_toArray, List.set_cons_zero, List.set_cons_succ, i64_w, i32_w]
     rfl
    refine take_ (i := 1) (N := some 22) (v := ?_) (a' := ?_) #[true, true, true, false, false, false, false, true, false, false, false] rfl rfl (take_ofW HT_.out HW_.out (by kernel_rfl)) (fun _ _ _ h => h) (Or.inl ⟨(by rfl), ?_⟩) hHeld ?_ ?_
    rotate_left
    ·rintro w' ⟨s0, s1, s2, s3, s4, s5, s6, s7⟩
     go_simp
     with_reducible rfl
    rotate_left
    ·simp only [Act.put, List.setIfInBounds_toArray, List.set_cons_zero, List.set_cons_succ, i64_w, i32_w]
     rfl
    refine take_ (i := 3) (N := some 24) (v := ?_) (a' := ?_) #[true, true, true, true, false, false, false, true, false, false, false] rfl rfl (take_ofW HT_.out HW_.out (by kernel_rfl)) (fun _ _ _ h => h) (Or.inl ⟨(by rfl), ?_⟩) hHeld ?_ ?_
    rotate_left
    ·rintro w' ⟨s0, s1, s2, s3, s4, s5, s6, s7⟩
     go_simp
     with_reducible rfl
    rotate_left
    ·simp only [Act.put, List.setIfInBounds_toArray, List.set_cons_zero, List.set_cons_succ, i64_w, i32_w]
     rfl
    refine pure_ (i := 4) (N := some 25) (v := ?_) (a' := ?_) #[true, true, true, true, true, false, false, true, false, false, false] rfl rfl (any_of HT_.out (by kernel_rfl)) (fun _ _ _ h => h) (Or.inl ⟨(by rfl), ?_⟩) ?_ ?_
    rotate_left
    ·intro w'
     go_simp
     with_reducible rfl
    rotate_left
    ·simp only [Act.put, List.setIfInBounds_toArray, List.set_cons_zero, List.set_cons_succ, i64_w, i32_w]
     rfl
    refine take_ (i := 8) (N := some 29) (v := ?_) (a' := ?_) #[true, true, true, true, true, false, false, true, true, false, false] rfl rfl (take_ofW HT_.out HW_.out (by kernel_rfl)) (fun _ _ _ h => h) (Or.inl ⟨(by rfl), ?_⟩) hHeld ?_ ?_
    rotate_left
    ·rintro w' ⟨s0, s1, s2, s3, s4, s5, s6, s7⟩
     go_simp
     with_reducible rfl
    rotate_left
    ·simp only [Act.put, List.setIfInBounds_toArray, List.set_cons_zero, List.set_cons_succ, i64_w, i32_w]
     rfl
    refine one_ (i := 5) (N := some 26) #[true, true, true, true, true, true, false, true, true, false, false] rfl rfl (one_of HT_.out (by kernel_rfl)) (by decide) (fun K hK => ?_)
    refine goes_ Tryz.func20 (by kernel_rfl) rfl #[.int .i64 (l0_4.length : Int)] (by rfl) rfl rfl q8_ ?_
    with_reducible refine (strconv_Itoa.calls (l0_4.length : Int) t408 _ A13.out).mono ?_
    rintro e w18 ⟨rfl, hb⟩
    refine ⟨_, rfl, ?_⟩
    replace BK401 := Aside0.mk (blk_below (g := gb401) (o := .cells #[.int .i64 a0_0, .string a0_1, .string a0_2, .bool a0_3, .slice A0_4 l0_4.length c0_4, .string a0_5, .string a0_6, .slice A0_7 l0_7.length c0_7] 29 (0, 0)) q1_ hb)
    replace HB := Aside0.mk (below_step q0_ hb)
    (try clear hb)
    (try clear hb2)
    (try clear hk)
    (try clear hi)
    refine hK.out _ _ ⟨(blk_cell BK401.out 0).trans rfl, (blk_cell BK401.out 1).trans rfl, (blk_cell BK401.out 2).trans rfl, (blk_cell BK401.out 3).trans rfl, (blk_cell BK401.out 4).trans rfl, (blk_cell BK401.out 5).trans rfl, (blk_cell BK401.out 6).trans rfl, (blk_cell BK401.out 7).trans rfl⟩ (fun hHeld => ?_)
    clear hK K
    refine norm_ (a' := ?_) ?_ ?_
    rotate_left
    ·show Act.put _ (some 26) _ = _
     simp only [Act.put, List.setIfInBounds_toArray, List.set_cons_zero, List.set_cons_succ, i64_w, i32_w]
     rfl
    refine one_ (i := 6) (N := some 27) #[true, true, true, true, true, true, true, true, true, false, false] rfl rfl (one_of HT_.out (by kernel_rfl)) (by decide) (fun K hK => ?_)
    refine Kd.R_lit_step Kd.string _ 9 ?hg (N := 27) ?hd (xs := ([(⟨#[99]⟩ : ByteArray), a0_1, t408] : List ByteArray)) (inner := [.string (⟨#[99]⟩ : ByteArray), .string a0_1, .string t408]) (ok := fun _ => True) (okp := fun _ => True) ?hr ?hp (fun _ hk => hk) trivial (Below.refl _ _) (Nat.le_refl _) (by simp) ?_; (case hd => rfl); (case hg => rfl); (case hr => exact u0_); (case hp => exact (Reps.one (show Kd.M Kd.string _ _ _ (⟨#[99]⟩ : ByteArray) [.string (⟨#[99]⟩ : ByteArray)] from rfl) (Reps.one (show Kd.M Kd.string _ _ _ a0_1 [.string a0_1] from rfl) (Reps.one (show Kd.M Kd.string _ _ _ t408 [.string t408] from rfl) (Reps.none _ _)))))
    intro v410 w19 ho20 hb hg_ hnew_
    clear hg_ hnew_
    (first | rw [← Ny409.out] at ho20 | (simp only [Int.reduceToNat] at ho20; rw [← Ny409.out] at ho20))
    have HO411 := Aside0.mk (Kd.R_lower ho20 (below_size q0_))
    replace BK401 := Aside0.mk (blk_below (g := gb401) (o := .cells #[.int .i64 a0_0, .string a0_1, .string a0_2, .bool a0_3, .slice A0_4 l0_4.length c0_4, .string a0_5, .string a0_6, .slice A0_7 l0_7.length c0_7] 29 (0, 0)) q1_ hb)
    replace HB := Aside0.mk (below_step q0_ hb)
    clear hb ho20
    refine hK.out _ _ ⟨(blk_cell BK401.out 0).trans rfl, (blk_cell BK401.out 1).trans rfl, (blk_cell BK401.out 2).trans rfl, (blk_cell BK401.out 3).trans rfl, (blk_cell BK401.out 4).trans rfl, (blk_cell BK401.out 5).trans rfl, (blk_cell BK401.out 6).trans rfl, (blk_cell BK401.out 7).trans rfl⟩ (fun hHeld => ?_)
    clear hK K
    refine norm_ (a' := ?_) ?_ ?_
    rotate_left
    ·show Act.put _ (some 27) _ = _
     simp only [Act.put, List.setIfInBounds_toArray, List.set_cons_zero, List.set_cons_succ, i64_w, i32_w]
     rfl
    refine one_ (i := 9) (N := some 30) #[true, true, true, true, true, true, true, true, true, true, false] rfl rfl (one_of HT_.out (by kernel_rfl)) (by decide) (fun K hK => ?_)
    refine Kd.R_append_rows_step Kd.string (w0 := w) w.heap.size (by rfl) (.tmp 27) (.tmp 29) 26 9 (.string ⟨#[]⟩) 16 rfl Tryz.underlying26 info9 rfl (by decide) (by omega) v410 y409 l0_4 _ _ _ (fun _ => True) (fun _ => False) rfl rfl ?aO ?aR (fun _ _ h => h) (fun _ h => h.elim) ?aF ?aB ?aS ?aL ?_
    (case aR => repeat (first | exact (Kd.C_below HR0_4.out HB.out) | (with_reducible refine Kd.C_alloc ?_ _) | (with_reducible refine Kd.C_drewN ?_ _) | (with_reducible refine Kd.C_drew ?_)))
    (case aB => exact q0_)
    (case aF => exact (fun _ _ => trivial))
    (case aO => exact (by (with_reducible repeat (first | apply Kd.R_alloc | apply Kd.R_drewN | apply Kd.R_drew)); exact HO411.out))
    (case aS => exact (below_size q0_))
    (case aL => have := LMc14.out; omega)
    intro v413 w21 ho hb hg hat
    rw [← Ny412.out] at ho
    replace BK401 := Aside0.mk (blk_grown (g := gb401) (o := .cells #[.int .i64 a0_0, .string a0_1, .string a0_2, .bool a0_3, .slice A0_4 l0_4.length c0_4, .string a0_5, .string a0_6, .slice A0_7 l0_7.length c0_7] 29 (0, 0)) q1_ hg (Kd.R_ne HO411.out BK401.out (by decide)))
    replace HB := Aside0.mk (hb)
    have HO414 := Aside0.mk (ho)
    clear HO411 ho hb hg hat
    refine hK.out _ _ ⟨(blk_cell BK401.out 0).trans rfl, (blk_cell BK401.out 1).trans rfl, (blk_cell BK401.out 2).trans rfl, (blk_cell BK401.out 3).trans rfl, (blk_cell BK401.out 4).trans rfl, (blk_cell BK401.out 5).trans rfl, (blk_cell BK401.out 6).trans rfl, (blk_cell BK401.out 7).trans rfl⟩ (fun hHeld => ?_)
    clear hK K
    refine norm_ (a' := ?_) ?_ ?_
    rotate_left
    ·show Act.put _ (some 30) _ = _
     simp only [Act.put, List.setIfInBounds_toArray, List.set_cons_zero, List.set_cons_succ, i64_w, i32_w]
     rfl
    refine pure_ (i := 10) (N := some 2) (v := ?_) (a' := ?_) #[true, true, true, true, true, true, true, true, true, true, true] rfl rfl (any_of HT_.out (by kernel_rfl)) (fun _ _ _ h => h) (Or.inl ⟨(by rfl), ?_⟩) ?_ ?_
    rotate_left
    ·intro w'
     go_simp
     with_reducible rfl
    rotate_left
    ·simp only [Act.put, List.setIfInBounds_toArray, List.set_cons_zero, List.set_cons_succ, i64_w, i32_w]
     rfl
    refine done_ (done_of HT_.out (by kernel_rfl)) ?_
    try go_wp2
    go_ret
    exact ⟨_, q5_, (by (with_reducible repeat (first | apply Kd.R_alloc | apply Kd.R_drewN | apply Kd.R_drew)); exact HO414.out), q0_⟩
   ·rw [if_neg c14] at H
    exact absurd H (by simp)
  ·rw [if_neg c12] at H
   have c12b0 : (a0_0 == 1) = false := beq_eq_false_iff_ne.mpr c12
   have c12b1 : (a0_0 != 1) = true := bne_iff_ne.mpr c12
   replace H := Option.bind_eq_some_iff.mp H
   obtain ⟨t415, A220, H⟩ := H
   replace H : (script_Step_parts.l0 k (([(⟨#[113]⟩ : ByteArray), a0_5, a0_6, t415] : List ByteArray)) l0_7 (l0_7.length : Int) 0) = some r := H
   have A22 := Aside0.mk A220
   clear A220
   obtain ⟨y416, hy416⟩ : ∃ y_ : List ByteArray, y_ = (([(⟨#[113]⟩ : ByteArray), a0_5, a0_6, t415] : List ByteArray)) := ⟨_, rfl⟩
   replace H : (script_Step_parts.l0 k y416 l0_7 (l0_7.length : Int) 0) = some r := by first | (rw [hy416]; with_reducible exact H) | (have H2_ := (Option.bind_some _ _).symm.trans H; rw [hy416]; with_reducible exact H2_) | (have H2_ := (Option.bind_some _ _).symm.trans H; with_reducible exact H2_) | with_reducible exact H | (rw [hy416]; exact H) | exact H
   have Ny416 := Aside0.mk hy416
   clear hy416
   have H' := Aside0.mk H
   clear H
   go_enter Tryz.func21, Tryz.ntmps21
   try go_wp2_with (first | ((with_reducible refine gate_dst (N := 1) rfl ?_); refine box_event ?hg (N := 1) ?hd (cs := #[.int .i64 a0_0, .string a0_1, .string a0_2, .bool a0_3, .slice A0_4 l0_4.length c0_4, .string a0_5, .string a0_6, .slice A0_7 l0_7.length c0_7]) (t := 29) ?hr ?_; (case hd => rfl); (case hg => rfl); (case hr => exact u0_); intro gb401 hg w23 hbox hb; have BK401 := Aside0.mk (hbox); have GW401 := Aside0.mk ((q6_ : w.heap.size ≤ gb401)); have GE401 := Aside0.mk ((q6_ : w.heap.size ≤ gb401)); replace HB := Aside0.mk (below_step q2_ hb); clear hb hbox hg; obtain ⟨hcz24_0, hcz24_1, hcz24_2, hcz24_3, hcz24_4, hcz24_5, hcz24_6, hcz24_7, hfz24_0, hfz24_1, hfz24_2, hfz24_3, hfz24_4, hfz24_5, hfz24_6, hfz24_7⟩ := cellsF8 BK401.out))
   replace BK401 := Aside0.mk (blk_drew BK401.out)
   replace HB := Aside0.mk (below_drew1 HB.out)
   refine start_ (n := 10) (S := fun w' => w'.cell? ⟨gb401, 0, none⟩ = some (.int .i64 a0_0) ∧ w'.cell? ⟨gb401, 1, none⟩ = some (.string a0_1) ∧ w'.cell? ⟨gb401, 2, none⟩ = some (.string a0_2) ∧ w'.cell? ⟨gb401, 3, none⟩ = some (.bool a0_3) ∧ w'.cell? ⟨gb401, 4, none⟩ = some (.slice A0_4 l0_4.length c0_4) ∧ w'.cell? ⟨gb401, 5, none⟩ = some (.string a0_5) ∧ w'.cell? ⟨gb401, 6, none⟩ = some (.string a0_6) ∧ w'.cell? ⟨gb401, 7, none⟩ = some (.slice A0_7 l0_7.length c0_7)) (ds := []) #[false, false, false, false, false, false, false, false, false, false] (by kernel_rfl) rfl rfl ⟨(blk_cell BK401.out 0).trans rfl, (blk_cell BK401.out 1).trans rfl, (blk_cell BK401.out 2).trans rfl, (blk_cell BK401.out 3).trans rfl, (blk_cell BK401.out 4).trans rfl, (blk_cell BK401.out 5).trans rfl, (blk_cell BK401.out 6).trans rfl, (blk_cell BK401.out 7).trans rfl⟩ (fun hHeld => ?_); refine with_tabW script_Step_parts.tab9 script_Step_parts.bits9 (fun HT_ HW_ => ?_)
   generalize w23.drew = w25 at BK401 HB hHeld ⊢
   refine pure_ (i := 0) (N := some 31) (v := ?_) (a' := ?_) #[true, false, false, false, false, false, false, false, false, false] rfl rfl (any_of HT_.out (by kernel_rfl)) (fun _ _ _ h => h) (Or.inl ⟨(by rfl), ?_⟩) ?_ ?_
   rotate_left
   ·intro w'
    go_simp
    with_reducible rfl
   rotate_left
   ·simp only [Act.put, List.setIfInBounds_toArray, List.set_cons_zero, List.set_cons_succ, i64_w, i32_w]
    rfl
   refine pure_ (i := 2) (N := some 33) (v := ?_) (a' := ?_) #[true, false, true, false, false, false, false, false, false, false] rfl rfl (any_of HT_.out (by kernel_rfl)) (fun _ _ _ h => h) (Or.inl ⟨(by rfl), ?_⟩) ?_ ?_
   rotate_left
   ·intro w'
    go_simp
    with_reducible rfl
   rotate_left
   ·simp only [Act.put, List.setIfInBounds_toArray, List.set_cons_zero, List.set_cons_succ, i64_w, i32_w]
    rfl
   refine pure_ (i := 4) (N := some 35) (v := ?_) (a' := ?_) #[true, false, true, false, true, false, false, false, false, false] rfl rfl (any_of HT_.out (by kernel_rfl)) (fun _ _ _ h => h) (Or.inl ⟨(by rfl), ?_⟩) ?_ ?_
   rotate_left
   ·intro w'
    go_simp
    with_reducible rfl
   rotate_left
   ·simp only [Act.put, List.setIfInBounds_toArray, List.set_cons_zero, List.set_cons_succ, i64_w, i32_w]
    rfl
   refine take_ (i := 1) (N := some 32) (v := ?_) (a' := ?_) #[true, true, true, false, true, false, false, false, false, false] rfl rfl (take_ofW HT_.out HW_.out (by kernel_rfl)) (fun _ _ _ h => h) (Or.inl ⟨(by rfl), ?_⟩) hHeld ?_ ?_
   rotate_left
   ·rintro w' ⟨s0, s1, s2, s3, s4, s5, s6, s7⟩
    go_simp
    with_reducible rfl
   rotate_left
   ·simp only [Act.put, List.setIfInBounds_toArray, List.set_cons_zero, List.set_cons_succ, i64_w, i32_w]
    rfl
   refine take_ (i := 3) (N := some 34) (v := ?_) (a' := ?_) #[true, true, true, true, true, false, false, false, false, false] rfl rfl (take_ofW HT_.out HW_.out (by kernel_rfl)) (fun _ _ _ h => h) (Or.inl ⟨(by rfl), ?_⟩) hHeld ?_ ?_
   rotate_left
   ·rintro w' ⟨s0, s1, s2, s3, s4, s5, s6, s7⟩
    go_simp
    with_reducible rfl
   rotate_left
   ·simp only [Act.put, List.setIfInBounds_toArray, List.set_cons_zero, List.set_cons_succ, i64_w, i32_w]
    rfl
   refine take_ (i := 5) (N := some 36) (v := ?_) (a' := ?_) #[true, true, true, true, true, true, false, false, false, false] rfl rfl (take_ofW HT_.out HW_.out (by kernel_rfl)) (fun _ _ _ h => h) (Or.inl ⟨(by rfl), ?_⟩) hHeld ?_ ?_
   rotate_left
   ·rintro w' ⟨s0, s1, s2, s3, s4, s5, s6, s7⟩
    go_simp
    with_reducible rfl
   rotate_left
   ·simp only [Act.put, List.setIfInBounds_toArray, List.set_cons_zero, List.set_cons_succ, i64_w, i32_w]
    rfl
   refine pure_ (i := 6) (N := some 37) (v := ?_) (a' := ?_) #[true, true, true, true, true, true, true, false, false, false] rfl rfl (any_of HT_.out (by kernel_rfl)) (fun _ _ _ h => h) (Or.inl ⟨(by rfl), ?_⟩) ?_ ?_
   rotate_left
   ·intro w'
    go_simp
    with_reducible rfl
   rotate_left
   ·simp only [Act.put, List.setIfInBounds_toArray, List.set_cons_zero, List.set_cons_succ, i64_w, i32_w]
    rfl
   refine one_ (i := 7) (N := some 38) #[true, true, true, true, true, true, true, true, false, false] rfl rfl (one_of HT_.out (by kernel_rfl)) (by decide) (fun K hK => ?_)
   refine goes_ Tryz.func20 (by kernel_rfl) rfl #[.int .i64 (l0_7.length : Int)] (by rfl) rfl rfl q8_ ?_
   with_reducible refine (strconv_Itoa.calls (l0_7.length : Int) t415 _ A22.out).mono ?_
   rintro e w26 ⟨rfl, hb⟩
   refine ⟨_, rfl, ?_⟩
   replace BK401 := Aside0.mk (blk_below (g := gb401) (o := .cells #[.int .i64 a0_0, .string a0_1, .string a0_2, .bool a0_3, .slice A0_4 l0_4.length c0_4, .string a0_5, .string a0_6, .slice A0_7 l0_7.length c0_7] 29 (0, 0)) q1_ hb)
   replace HB := Aside0.mk (below_step q0_ hb)
   (try clear hb)
   (try clear hb2)
   (try clear hk)
   (try clear hi)
   refine hK.out _ _ ⟨(blk_cell BK401.out 0).trans rfl, (blk_cell BK401.out 1).trans rfl, (blk_cell BK401.out 2).trans rfl, (blk_cell BK401.out 3).trans rfl, (blk_cell BK401.out 4).trans rfl, (blk_cell BK401.out 5).trans rfl, (blk_cell BK401.out 6).trans rfl, (blk_cell BK401.out 7).trans rfl⟩ (fun hHeld => ?_)
   clear hK K
   refine norm_ (a' := ?_) ?_ ?_
   rotate_left
   ·show Act.put _ (some 38) _ = _
    simp only [Act.put, List.setIfInBounds_toArray, List.set_cons_zero, List.set_cons_succ, i64_w, i32_w]
    rfl
   refine one_ (i := 8) (N := some 39) #[true, true, true, true, true, true, true, true, true, false] rfl rfl (one_of HT_.out (by kernel_rfl)) (by decide) (fun K hK => ?_)
   refine Kd.R_lit_step Kd.string _ 9 ?hg (N := 39) ?hd (xs := ([(⟨#[113]⟩ : ByteArray), a0_5, a0_6, t415] : List ByteArray)) (inner := [.string (⟨#[113]⟩ : ByteArray), .string a0_5, .string a0_6, .string t415]) (ok := fun _ => True) (okp := fun _ => True) ?hr ?hp (fun _ hk => hk) trivial (Below.refl _ _) (Nat.le_refl _) (by simp) ?_; (case hd => rfl); (case hg => rfl); (case hr => exact u0_); (case hp => exact (Reps.one (show Kd.M Kd.string _ _ _ (⟨#[113]⟩ : ByteArray) [.string (⟨#[113]⟩ : ByteArray)] from rfl) (Reps.one (show Kd.M Kd.string _ _ _ a0_5 [.string a0_5] from rfl) (Reps.one (show Kd.M Kd.string _ _ _ a0_6 [.string a0_6] from rfl) (Reps.one (show Kd.M Kd.string _ _ _ t415 [.string t415] from rfl) (Reps.none _ _))))))
   intro v417 w27 ho28 hb hg_ hnew_
   clear hg_ hnew_
   (first | rw [← Ny416.out] at ho28 | (simp only [Int.reduceToNat] at ho28; rw [← Ny416.out] at ho28))
   have HO418 := Aside0.mk (Kd.R_lower ho28 (below_size q0_))
   replace BK401 := Aside0.mk (blk_below (g := gb401) (o := .cells #[.int .i64 a0_0, .string a0_1, .string a0_2, .bool a0_3, .slice A0_4 l0_4.length c0_4, .string a0_5, .string a0_6, .slice A0_7 l0_7.length c0_7] 29 (0, 0)) q1_ hb)
   replace HB := Aside0.mk (below_step q0_ hb)
   clear hb ho28
   refine hK.out _ _ ⟨(blk_cell BK401.out 0).trans rfl, (blk_cell BK401.out 1).trans rfl, (blk_cell BK401.out 2).trans rfl, (blk_cell BK401.out 3).trans rfl, (blk_cell BK401.out 4).trans rfl, (blk_cell BK401.out 5).trans rfl, (blk_cell BK401.out 6).trans rfl, (blk_cell BK401.out 7).trans rfl⟩ (fun hHeld => ?_)
   clear hK K
   refine norm_ (a' := ?_) ?_ ?_
   rotate_left
   ·show Act.put _ (some 39) _ = _
    simp only [Act.put, List.setIfInBounds_toArray, List.set_cons_zero, List.set_cons_succ, i64_w, i32_w]
    rfl
   refine pure_ (i := 9) (N := some 4) (v := ?_) (a' := ?_) #[true, true, true, true, true, true, true, true, true, true] rfl rfl (any_of HT_.out (by kernel_rfl)) (fun _ _ _ h => h) (Or.inl ⟨(by rfl), ?_⟩) ?_ ?_
   rotate_left
   ·intro w'
    go_simp
    with_reducible rfl
   rotate_left
   ·simp only [Act.put, List.setIfInBounds_toArray, List.set_cons_zero, List.set_cons_succ, i64_w, i32_w]
    rfl
   refine done_ (done_of HT_.out (by kernel_rfl)) ?_
   obtain ⟨hcz29_0, hcz29_1, hcz29_2, hcz29_3, hcz29_4, hcz29_5, hcz29_6, hcz29_7, hfz29_0, hfz29_1, hfz29_2, hfz29_3, hfz29_4, hfz29_5, hfz29_6, hfz29_7⟩ := cellsF8 BK401.out
   try go_wp2
   go_loopg [4, 43] k (fun kq v4 v43 w' => ∃ (x4_1 : List ByteArray) (x43_1 : Int), v43 = .int .i64 x43_1 ∧ Aside0 (script_Step_parts.l0 kq x4_1 l0_7 (l0_7.length : Int) x43_1 = some r) ∧ Aside0 (kq ≤ k) ∧ Aside0 (Kd.R Kd.string 9 w' w.heap.size (fun _ => True) v4 x4_1) ∧ Aside0 (w'.heap[gb401]? = some (.cells #[.int .i64 a0_0, .string a0_1, .string a0_2, .bool a0_3, (.slice A0_4 l0_4.length c0_4), .string a0_5, .string a0_6, (.slice A0_7 l0_7.length c0_7)] 29 (0, 0))) ∧ Aside0 (Below w.heap.size w w'))
   case atStart => exact ⟨(y416), (0), (by first | rfl | (simp; done) | (simp [*]; done)), H', ⟨Nat.le_refl _⟩, ⟨(by (with_reducible repeat (first | apply Kd.R_alloc | apply Kd.R_drewN | apply Kd.R_drew)); exact HO418.out)⟩, ⟨q1_⟩, ⟨q0_⟩⟩
   case round =>
    clear H'
    try clear c1
    try clear c2
    try clear c2b0
    try clear c2b1
    try clear p2
    try clear c3
    try clear c12
    try clear c12b0
    try clear c12b1
    try clear c14
    try clear c20
    try clear c21
    try clear hcz16_0 hcz16_1 hcz16_2 hcz16_3 hcz16_4 hcz16_5 hcz16_6 hcz16_7
    try clear hcz24_0 hcz24_1 hcz24_2 hcz24_3 hcz24_4 hcz24_5 hcz24_6 hcz24_7
    try clear hcz29_0 hcz29_1 hcz29_2 hcz29_3 hcz29_4 hcz29_5 hcz29_6 hcz29_7
    try clear hcz5_0 hcz5_1 hcz5_2 hcz5_3 hcz5_4 hcz5_5 hcz5_6 hcz5_7
    try clear hcz9_0 hcz9_1 hcz9_2 hcz9_3 hcz9_4 hcz9_5 hcz9_6 hcz9_7
    try clear hfz16_0 hfz16_1 hfz16_2 hfz16_3 hfz16_4 hfz16_5 hfz16_6 hfz16_7
    try clear hfz24_0 hfz24_1 hfz24_2 hfz24_3 hfz24_4 hfz24_5 hfz24_6 hfz24_7
    try clear hfz29_0 hfz29_1 hfz29_2 hfz29_3 hfz29_4 hfz29_5 hfz29_6 hfz29_7
    try clear hfz5_0 hfz5_1 hfz5_2 hfz5_3 hfz5_4 hfz5_5 hfz5_6 hfz5_7
    try clear hfz9_0 hfz9_1 hfz9_2 hfz9_3 hfz9_4 hfz9_5 hfz9_6 hfz9_7
    obtain ⟨x4_1, x43_1, rfl, HA, HK1, HO_4, BK401, HB⟩ := hrel
    cases gk with
    | zero => exact absurd HA.out (by simp [script_Step_parts.l0])
    | succ k1 =>
     have H := HA.out
     clear HA
     simp only [script_Step_parts.l0] at H
     by_cases c30 : x43_1 < (l0_7.length : Int)
     ·rw [if_pos c30] at H
      have c30b0 : decide (x43_1 < (l0_7.length : Int)) = true := decide_eq_true c30
      clear c30
      by_cases c31 : 0 ≤ x43_1
      ·rw [if_pos c31] at H
       have c31b0 : decide (0 ≤ x43_1) = true := decide_eq_true c31
       clear c31
       by_cases c32 : x43_1 < (l0_7.length : Int)
       ·rw [if_pos c32] at H
        have c32b0 : decide (x43_1 < (l0_7.length : Int)) = true := decide_eq_true c32
        clear c32
        by_cases c33 : 0 ≤ ((rd_T44 l0_7 x43_1).f1)
        ·rw [if_pos c33] at H
         have c33b0 : decide (0 ≤ ((rd_T44 l0_7 x43_1).f1)) = true := decide_eq_true c33
         clear c33
         by_cases c34 : ((rd_T44 l0_7 x43_1).f1) < 3
         ·rw [if_pos c34] at H
          have c34b0 : decide (((rd_T44 l0_7 x43_1).f1) < 3) = true := decide_eq_true c34
          clear c34
          obtain ⟨y421, hy421⟩ : ∃ y_ : List ByteArray, y_ = (([(rd_T44 l0_7 x43_1).f0, Utf8.encode (bt (⟨#[116, 110, 109]⟩ : ByteArray) ((rd_T44 l0_7 x43_1).f1)), (rd_T44 l0_7 x43_1).f2] : List ByteArray)) := ⟨_, rfl⟩
          replace H : (if x4_1.length + y421.length < 8796093022208 then (script_Step_parts.l0 k1 (x4_1 ++ y421) l0_7 (l0_7.length : Int) (wrap64 (x43_1 + 1))) else (none)) = some r := by first | (rw [hy421]; with_reducible exact H) | (have H2_ := (Option.bind_some _ _).symm.trans H; rw [hy421]; with_reducible exact H2_) | (have H2_ := (Option.bind_some _ _).symm.trans H; with_reducible exact H2_) | with_reducible exact H | (rw [hy421]; exact H) | exact H
          have Ny421 := Aside0.mk hy421
          clear hy421
          by_cases c36 : x4_1.length + y421.length < 8796093022208
          ·rw [if_pos c36] at H
           have LMc36 := Aside0.mk c36
           clear c36
           obtain ⟨y424, hy424⟩ : ∃ y_ : List ByteArray, y_ = (x4_1 ++ y421) := ⟨_, rfl⟩
           replace H : (script_Step_parts.l0 k1 y424 l0_7 (l0_7.length : Int) (wrap64 (x43_1 + 1))) = some r := by first | (rw [hy424]; with_reducible exact H) | (have H2_ := (Option.bind_some _ _).symm.trans H; rw [hy424]; with_reducible exact H2_) | (have H2_ := (Option.bind_some _ _).symm.trans H; with_reducible exact H2_) | with_reducible exact H | (rw [hy424]; exact H) | exact H
           have Ny424 := Aside0.mk hy424
           clear hy424
           have H' := Aside0.mk H
           clear H
           have p419 : 0 ≤ (x43_1 : Int) := of_decide_eq_true q7_
           have q419 : x43_1 < (l0_7.length : Int) := of_decide_eq_true q7_
           obtain ⟨ad419, e419, hx419_0, hx419_1, hx419_2⟩ := at_T44 HR0_7.out x43_1 p419 q419
           cases e419
           replace hx419_0 := (HB.out.cell (World.block_lt_of_cell? w _ hx419_0)).trans hx419_0
           replace hx419_1 := (HB.out.cell (World.block_lt_of_cell? w _ hx419_1)).trans hx419_1
           replace hx419_2 := (HB.out.cell (World.block_lt_of_cell? w _ hx419_2)).trans hx419_2
           replace p419 := eq_true p419
           replace q419 := eq_true q419
           try go_wp2_with (first | ((with_reducible refine gate_dst (N := 6) rfl ?_); refine box_event ?hg (N := 6) ?hd (cs := #[.string (⟨#[]⟩ : ByteArray), .int .i64 0, .string (⟨#[]⟩ : ByteArray)]) (t := 44) ?hr ?_; (case hd => rfl); (case hg => rfl); (case hr => exact u0_); intro gb420 hg w37 hbox hb; replace HO_4 := Aside0.mk (Kd.R_below q4_ hb); have BK420 := Aside0.mk (hbox); have GW420 := Aside0.mk (((by rw [hg]; exact (below_size q0_)) : w.heap.size ≤ gb420)); have GE420 := Aside0.mk (((by rw [hg]; exact (below_size q0_)) : w.heap.size ≤ gb420)); replace HB := Aside0.mk (below_step q0_ hb); have NB401_420 := Aside0.mk (((by rw [hg]; exact Nat.ne_of_lt (blk_lt (g := gb401) (o := .cells #[.int .i64 a0_0, .string a0_1, .string a0_2, .bool a0_3, .slice A0_4 l0_4.length c0_4, .string a0_5, .string a0_6, .slice (some ad419) l0_7.length c0_7] 29 (0, 0)) q1_)) : gb401 ≠ gb420)); have NB420_401 := Aside0.mk (((by rw [hg]; exact Nat.ne_of_gt (blk_lt (g := gb401) (o := .cells #[.int .i64 a0_0, .string a0_1, .string a0_2, .bool a0_3, .slice A0_4 l0_4.length c0_4, .string a0_5, .string a0_6, .slice (some ad419) l0_7.length c0_7] 29 (0, 0)) q1_)) : gb420 ≠ gb401)); replace BK401 := Aside0.mk (blk_below (g := gb401) (o := .cells #[.int .i64 a0_0, .string a0_1, .string a0_2, .bool a0_3, .slice A0_4 l0_4.length c0_4, .string a0_5, .string a0_6, .slice (some ad419) l0_7.length c0_7] 29 (0, 0)) q1_ hb); clear hb hbox hg; have hnb38 := NB420_401.out; have hnc38 := NB401_420.out; obtain ⟨hcz39_0, hcz39_1, hcz39_2, hfz39_0, hfz39_1, hfz39_2⟩ := cellsF3 BK420.out))
           have n0_ : Aside0 (Kd.R Kd.string 9 (((w37.setCell ⟨gb420, 0, none⟩ (.string ((rd_T44 l0_7 x43_1).f0))).setCell ⟨gb420, 1, none⟩ (.int .i64 ((rd_T44 l0_7 x43_1).f1))).setCell ⟨gb420, 2, none⟩ (.string ((rd_T44 l0_7 x43_1).f2))) w.heap.size (fun _ => True) u4 x4_1) := ⟨(by (with_reducible repeat (first | apply Kd.R_alloc | apply Kd.R_drewN | apply Kd.R_drew)); exact Kd.R_mono (Kd.R_far (p := ⟨gb420, 2, none⟩) (Kd.R_far (p := ⟨gb420, 1, none⟩) (Kd.R_far (p := ⟨gb420, 0, none⟩) (Kd.R_types HO_4.out BK420.out (by decide)) (fun _ hk => hk.2) (.string ((rd_T44 l0_7 x43_1).f0))) (fun _ hk => hk.2) (.int .i64 ((rd_T44 l0_7 x43_1).f1))) (fun _ hk => hk.2) (.string ((rd_T44 l0_7 x43_1).f2))) (fun _ hk => trivial))⟩
           have n1_ : Aside0 ((((w37.setCell ⟨gb420, 0, none⟩ (.string ((rd_T44 l0_7 x43_1).f0))).setCell ⟨gb420, 1, none⟩ (.int .i64 ((rd_T44 l0_7 x43_1).f1))).setCell ⟨gb420, 2, none⟩ (.string ((rd_T44 l0_7 x43_1).f2))).heap[gb401]? = some (.cells #[.int .i64 a0_0, .string a0_1, .string a0_2, .bool a0_3, .slice A0_4 l0_4.length c0_4, .string a0_5, .string a0_6, .slice (some ad419) l0_7.length c0_7] 29 (0, 0))) := ⟨(by (with_reducible repeat (first | refine blk_drewN ?_ _ | refine blk_drew ?_ | refine blk_alloc ?_ _)); refine blk_far ?_ NB401_420.out _; (with_reducible repeat (first | refine blk_drewN ?_ _ | refine blk_drew ?_ | refine blk_alloc ?_ _)); refine blk_far ?_ NB401_420.out _; (with_reducible repeat (first | refine blk_drewN ?_ _ | refine blk_drew ?_ | refine blk_alloc ?_ _)); refine blk_far ?_ NB401_420.out _; (with_reducible repeat (first | refine blk_drewN ?_ _ | refine blk_drew ?_ | refine blk_alloc ?_ _)); exact BK401.out)⟩
           have n2_ : Aside0 ((((w37.setCell ⟨gb420, 0, none⟩ (.string ((rd_T44 l0_7 x43_1).f0))).setCell ⟨gb420, 1, none⟩ (.int .i64 ((rd_T44 l0_7 x43_1).f1))).setCell ⟨gb420, 2, none⟩ (.string ((rd_T44 l0_7 x43_1).f2))).heap[gb420]? = some (.cells #[.string ((rd_T44 l0_7 x43_1).f0), .int .i64 ((rd_T44 l0_7 x43_1).f1), .string ((rd_T44 l0_7 x43_1).f2)] 44 (0, 0))) := ⟨(by (with_reducible repeat (first | refine blk_drewN ?_ _ | refine blk_drew ?_ | refine blk_alloc ?_ _)); refine blk_put (cs := #[.string ((rd_T44 l0_7 x43_1).f0), .int .i64 ((rd_T44 l0_7 x43_1).f1), .string (⟨#[]⟩ : ByteArray)]) ?_ 2 _ rfl; (with_reducible repeat (first | refine blk_drewN ?_ _ | refine blk_drew ?_ | refine blk_alloc ?_ _)); refine blk_put (cs := #[.string ((rd_T44 l0_7 x43_1).f0), .int .i64 0, .string (⟨#[]⟩ : ByteArray)]) ?_ 1 _ rfl; (with_reducible repeat (first | refine blk_drewN ?_ _ | refine blk_drew ?_ | refine blk_alloc ?_ _)); refine blk_put (cs := #[.string (⟨#[]⟩ : ByteArray), .int .i64 0, .string (⟨#[]⟩ : ByteArray)]) ?_ 0 _ rfl; (with_reducible repeat (first | refine blk_drewN ?_ _ | refine blk_drew ?_ | refine blk_alloc ?_ _)); exact BK420.out)⟩
           have n3_ : Aside0 (Below w.heap.size w (((w37.setCell ⟨gb420, 0, none⟩ (.string ((rd_T44 l0_7 x43_1).f0))).setCell ⟨gb420, 1, none⟩ (.int .i64 ((rd_T44 l0_7 x43_1).f1))).setCell ⟨gb420, 2, none⟩ (.string ((rd_T44 l0_7 x43_1).f2)))) := ⟨q3_⟩
           (try clear HO_4)
           (try clear BK401)
           (try clear BK420)
           (try clear HB)
           generalize (((w37.setCell ⟨gb420, 0, none⟩ (.string ((rd_T44 l0_7 x43_1).f0))).setCell ⟨gb420, 1, none⟩ (.int .i64 ((rd_T44 l0_7 x43_1).f1))).setCell ⟨gb420, 2, none⟩ (.string ((rd_T44 l0_7 x43_1).f2))) = w40 at n0_ n1_ n2_ n3_ ⊢
           have HO_4 := n0_
           have BK401 := n1_
           have BK420 := n2_
           have HB := n3_
           clear n0_ n1_ n2_ n3_
           replace HO_4 := Aside0.mk (Kd.R_drew HO_4.out)
           replace BK401 := Aside0.mk (blk_drew BK401.out)
           replace BK420 := Aside0.mk (blk_drew BK420.out)
           replace HB := Aside0.mk (below_drew1 HB.out)
           have p35 : 0 ≤ (((rd_T44 l0_7 x43_1).f1) : Int) := of_decide_eq_true q7_
           have q35 : ((rd_T44 l0_7 x43_1).f1) < (3 : Int) := of_decide_eq_true q7_
           have hx35 := bt_at (⟨#[116, 110, 109]⟩ : ByteArray) ((rd_T44 l0_7 x43_1).f1)
           replace p35 := eq_true p35
           replace q35 := eq_true q35
           refine start_ (n := 12) (S := fun w' => w'.cell? ⟨gb420, 0, none⟩ = some (.string ((rd_T44 l0_7 x43_1).f0)) ∧ w'.cell? ⟨gb420, 1, none⟩ = some (.int .i64 ((rd_T44 l0_7 x43_1).f1)) ∧ w'.cell? ⟨gb420, 2, none⟩ = some (.string ((rd_T44 l0_7 x43_1).f2))) (ds := []) #[false, false, false, false, false, false, false, false, false, false, false, false] (by kernel_rfl) rfl rfl ⟨(blk_cell BK420.out 0).trans rfl, (blk_cell BK420.out 1).trans rfl, (blk_cell BK420.out 2).trans rfl⟩ (fun hHeld => ?_); refine with_tabW script_Step_parts.tab13 script_Step_parts.bits13 (fun HT_ HW_ => ?_)
           generalize w40.drew = w41 at HO_4 BK401 BK420 HB hHeld ⊢
           refine pure_ (i := 0) (N := some 47) (v := ?_) (a' := ?_) #[true, false, false, false, false, false, false, false, false, false, false, false] rfl rfl (any_of HT_.out (by kernel_rfl)) (fun _ _ _ h => h) (Or.inl ⟨(by rfl), ?_⟩) ?_ ?_
           rotate_left
           ·intro w'
            go_simp
            with_reducible rfl
           rotate_left
           ·simp only [Act.put, List.setIfInBounds_toArray, List.set_cons_zero, List.set_cons_succ, i64_w, i32_w]
            rfl
           refine pure_ (i := 1) (N := some 48) (v := ?_) (a' := ?_) #[true, true, false, false, false, false, false, false, false, false, false, false] rfl rfl (any_of HT_.out (by kernel_rfl)) (fun _ _ _ h => h) (Or.inl ⟨(by rfl), ?_⟩) ?_ ?_
           rotate_left
           ·intro w'
            go_simp
            with_reducible rfl
           rotate_left
           ·simp only [Act.put, List.setIfInBounds_toArray, List.set_cons_zero, List.set_cons_succ, i64_w, i32_w]
            rfl
           refine pure_ (i := 3) (N := some 50) (v := ?_) (a' := ?_) #[true, true, false, true, false, false, false, false, false, false, false, false] rfl rfl (any_of HT_.out (by kernel_rfl)) (fun _ _ _ h => h) (Or.inl ⟨(by rfl), ?_⟩) ?_ ?_
           rotate_left
           ·intro w'
            go_simp
            with_reducible rfl
           rotate_left
           ·simp only [Act.put, List.setIfInBounds_toArray, List.set_cons_zero, List.set_cons_succ, i64_w, i32_w]
            rfl
           refine pure_ (i := 7) (N := some 54) (v := ?_) (a' := ?_) #[true, true, false, true, false, false, false, true, false, false, false, false] rfl rfl (any_of HT_.out (by kernel_rfl)) (fun _ _ _ h => h) (Or.inl ⟨(by rfl), ?_⟩) ?_ ?_
           rotate_left
           ·intro w'
            go_simp
            with_reducible rfl
           rotate_left
           ·simp only [Act.put, List.setIfInBounds_toArray, List.set_cons_zero, List.set_cons_succ, i64_w, i32_w]
            rfl
           refine take_ (i := 2) (N := some 49) (v := ?_) (a' := ?_) #[true, true, true, true, false, false, false, true, false, false, false, false] rfl rfl (take_ofW HT_.out HW_.out (by kernel_rfl)) (fun _ _ _ h => h) (Or.inl ⟨(by rfl), ?_⟩) hHeld ?_ ?_
           rotate_left
           ·rintro w' ⟨s0, s1, s2⟩
            go_simp
            with_reducible rfl
           rotate_left
           ·simp only [Act.put, List.setIfInBounds_toArray, List.set_cons_zero, List.set_cons_succ, i64_w, i32_w]
            rfl
           refine take_ (i := 4) (N := some 51) (v := ?_) (a' := ?_) #[true, true, true, true, true, false, false, true, false, false, false, false] rfl rfl (take_ofW HT_.out HW_.out (by kernel_rfl)) (fun _ _ _ h => h) (Or.inl ⟨(by rfl), ?_⟩) hHeld ?_ ?_
           rotate_left
           ·rintro w' ⟨s0, s1, s2⟩
            go_simp
            with_reducible rfl
           rotate_left
           ·simp only [Act.put, List.setIfInBounds_toArray, List.set_cons_zero, List.set_cons_succ, i64_w, i32_w]
            rfl
           refine take_ (i := 5) (N := some 52) (v := ?_) (a' := ?_) #[true, true, true, true, true, true, false, true, false, false, false, false] rfl rfl (take_ofW HT_.out HW_.out (by kernel_rfl)) (fun _ _ _ h => h) (Or.inl ⟨(by rfl), ?_⟩) hHeld ?_ ?_
           rotate_left
           ·rintro w' ⟨s0, s1, s2⟩
            go_simp
            with_reducible rfl
           rotate_left
           ·simp only [Act.put, List.setIfInBounds_toArray, List.set_cons_zero, List.set_cons_succ, i64_w, i32_w]
            rfl
           refine pure_ (i := 6) (N := some 53) (v := ?_) (a' := ?_) #[true, true, true, true, true, true, true, true, false, false, false, false] rfl rfl (any_of HT_.out (by kernel_rfl)) (fun _ _ _ h => h) (Or.inl ⟨(by rfl), ?_⟩) ?_ ?_
           rotate_left
           ·intro w'
            go_simp
            with_reducible rfl
           rotate_left
           ·simp only [Act.put, List.setIfInBounds_toArray, List.set_cons_zero, List.set_cons_succ, i64_w, i32_w]
            rfl
           refine take_ (i := 8) (N := some 55) (v := ?_) (a' := ?_) #[true, true, true, true, true, true, true, true, true, false, false, false] rfl rfl (take_ofW HT_.out HW_.out (by kernel_rfl)) (fun _ _ _ h => h) (Or.inl ⟨(by rfl), ?_⟩) hHeld ?_ ?_
           rotate_left
           ·rintro w' ⟨s0, s1, s2⟩
            go_simp
            with_reducible rfl
           rotate_left
           ·simp only [Act.put, List.setIfInBounds_toArray, List.set_cons_zero, List.set_cons_succ, i64_w, i32_w]
            rfl
           refine one_ (i := 9) (N := some 56) #[true, true, true, true, true, true, true, true, true, true, false, false] rfl rfl (one_of HT_.out (by kernel_rfl)) (by decide) (fun K hK => ?_)
           refine Kd.R_lit_step Kd.string _ 9 ?hg (N := 56) ?hd (xs := ([(rd_T44 l0_7 x43_1).f0, Utf8.encode (bt (⟨#[116, 110, 109]⟩ : ByteArray) ((rd_T44 l0_7 x43_1).f1)), (rd_T44 l0_7 x43_1).f2] : List ByteArray)) (inner := [.string ((rd_T44 l0_7 x43_1).f0), .string (Utf8.encode (bt (⟨#[116, 110, 109]⟩ : ByteArray) ((rd_T44 l0_7 x43_1).f1))), .string ((rd_T44 l0_7 x43_1).f2)]) (ok := fun _ => True) (okp := fun _ => True) ?hr ?hp (fun _ hk => hk) trivial (Below.refl _ _) (Nat.le_refl _) (by simp) ?_; (case hd => rfl); (case hg => rfl); (case hr => exact u0_); (case hp => exact (Reps.one (show Kd.M Kd.string _ _ _ ((rd_T44 l0_7 x43_1).f0) [.string ((rd_T44 l0_7 x43_1).f0)] from rfl) (Reps.one (show Kd.M Kd.string _ _ _ (Utf8.encode (bt (⟨#[116, 110, 109]⟩ : ByteArray) ((rd_T44 l0_7 x43_1).f1))) [.string (Utf8.encode (bt (⟨#[116, 110, 109]⟩ : ByteArray) ((rd_T44 l0_7 x43_1).f1)))] from rfl) (Reps.one (show Kd.M Kd.string _ _ _ ((rd_T44 l0_7 x43_1).f2) [.string ((rd_T44 l0_7 x43_1).f2)] from rfl) (Reps.none _ _)))))
           intro v422 w42 ho43 hb hg_ hnew_
           clear hg_ hnew_
           (first | rw [← Ny421.out] at ho43 | (simp only [Int.reduceToNat] at ho43; rw [← Ny421.out] at ho43))
           have HO423 := Aside0.mk (Kd.R_lower (Kd.R_new' ho43 (Kd.R_lt q4_)) (below_size q3_))
           replace HO_4 := Aside0.mk (Kd.R_elder' q4_ (Kd.R_base ho43) hb)
           replace BK401 := Aside0.mk (blk_below (g := gb401) (o := .cells #[.int .i64 a0_0, .string a0_1, .string a0_2, .bool a0_3, .slice A0_4 l0_4.length c0_4, .string a0_5, .string a0_6, .slice (some ad419) l0_7.length c0_7] 29 (0, 0)) q1_ hb)
           replace BK420 := Aside0.mk (blk_below (g := gb420) (o := .cells #[.string ((rd_T44 l0_7 x43_1).f0), .int .i64 ((rd_T44 l0_7 x43_1).f1), .string ((rd_T44 l0_7 x43_1).f2)] 44 (0, 0)) (by (with_reducible repeat (first | refine blk_drewN ?_ _ | refine blk_drew ?_ | refine blk_alloc ?_ _)); exact BK420.out) hb)
           replace HB := Aside0.mk (below_step q3_ hb)
           clear hb ho43
           obtain ⟨Ao45, co45, eo45⟩ := Kd.R_slice HO423.out
           (first | subst eo45 | (injection eo45 with f1_ f2_ f3_; have f4_ := f1_.symm; have f5_ := f3_.symm; clear f1_ f2_ f3_; subst f4_; subst f5_))
           refine hK.out _ _ ⟨(blk_cell BK420.out 0).trans rfl, (blk_cell BK420.out 1).trans rfl, (blk_cell BK420.out 2).trans rfl⟩ (fun hHeld => ?_)
           clear hK K
           refine norm_ (a' := ?_) ?_ ?_
           rotate_left
           ·show Act.put _ (some 56) _ = _
            simp only [Act.put, List.setIfInBounds_toArray, List.set_cons_zero, List.set_cons_succ, i64_w, i32_w]
            rfl
           refine one_ (i := 10) (N := some 57) #[true, true, true, true, true, true, true, true, true, true, true, false] rfl rfl (one_of HT_.out (by kernel_rfl)) (by decide) (fun K hK => ?_)
           refine Kd.R_append_rows_step Kd.string (w0 := w) w.heap.size (by rfl) (.tmp 47) (.tmp 56) 26 9 (.string ⟨#[]⟩) 16 rfl Tryz.underlying26 info9 rfl (by decide) (by omega) u4 x4_1 y421 _ _ _ (fun k_ => some k_ ≠ (.slice Ao45 y421.length co45 : Value).ownBlock) (fun _ => False) rfl rfl ?aO ?aR (fun _ _ h => h) (fun _ h => h.elim) ?aF ?aB ?aS ?aL ?_
           (case aR => repeat (first | exact (Kd.R_reads' HO423.out).2.2 | (with_reducible refine Kd.C_alloc ?_ _) | (with_reducible refine Kd.C_drewN ?_ _) | (with_reducible refine Kd.C_drew ?_)))
           (case aB => exact q3_)
           (case aF => exact (fun k_ hk => Kd.fresh' (Kd.R_lt (by (with_reducible repeat (first | apply Kd.R_alloc | apply Kd.R_drewN | apply Kd.R_drew)); exact HO423.out)) k_ hk))
           (case aO => exact (by (with_reducible repeat (first | apply Kd.R_alloc | apply Kd.R_drewN | apply Kd.R_drew)); exact Kd.R_mono HO_4.out (fun _ hk => hk.2)))
           (case aS => exact (below_size q3_))
           (case aL => have := LMc36.out; omega)
           intro v425 w44 ho hb hg hat
           rw [← Ny424.out] at ho
           replace BK401 := Aside0.mk (blk_grown (g := gb401) (o := .cells #[.int .i64 a0_0, .string a0_1, .string a0_2, .bool a0_3, .slice A0_4 l0_4.length c0_4, .string a0_5, .string a0_6, .slice (some ad419) l0_7.length c0_7] 29 (0, 0)) q1_ hg (Kd.R_ne HO_4.out BK401.out (by decide)))
           replace BK420 := Aside0.mk (blk_grown (g := gb420) (o := .cells #[.string ((rd_T44 l0_7 x43_1).f0), .int .i64 ((rd_T44 l0_7 x43_1).f1), .string ((rd_T44 l0_7 x43_1).f2)] 44 (0, 0)) (by (with_reducible repeat (first | refine blk_drewN ?_ _ | refine blk_drew ?_ | refine blk_alloc ?_ _)); exact BK420.out) hg (Kd.R_ne HO_4.out BK420.out (by decide)))
           replace HO423 := Aside0.mk (Kd.R_after (ok := (fun _ => True)) (by (with_reducible repeat (first | apply Kd.R_alloc | apply Kd.R_drewN | apply Kd.R_drew)); exact HO423.out) hg hat)
           replace HB := Aside0.mk (hb)
           have HO426 := Aside0.mk (ho)
           clear HO_4 ho hb hg hat
           refine hK.out _ _ ⟨(blk_cell BK420.out 0).trans rfl, (blk_cell BK420.out 1).trans rfl, (blk_cell BK420.out 2).trans rfl⟩ (fun hHeld => ?_)
           clear hK K
           refine norm_ (a' := ?_) ?_ ?_
           rotate_left
           ·show Act.put _ (some 57) _ = _
            simp only [Act.put, List.setIfInBounds_toArray, List.set_cons_zero, List.set_cons_succ, i64_w, i32_w]
            rfl
           refine pure_ (i := 11) (N := some 4) (v := ?_) (a' := ?_) #[true, true, true, true, true, true, true, true, true, true, true, true] rfl rfl (any_of HT_.out (by kernel_rfl)) (fun _ _ _ h => h) (Or.inl ⟨(by rfl), ?_⟩) ?_ ?_
           rotate_left
           ·intro w'
            go_simp
            with_reducible rfl
           rotate_left
           ·simp only [Act.put, List.setIfInBounds_toArray, List.set_cons_zero, List.set_cons_succ, i64_w, i32_w]
            rfl
           refine done_ (done_of HT_.out (by kernel_rfl)) ?_
           try go_wp2
           go_roundg k1
           case measure => have := HK1.out; omega
           case rel => exact ⟨(y424), (wrap64 (x43_1 + 1)), (by first | rfl | (simp; done) | (simp [*]; done)), H', ⟨(by have := HK1.out; omega)⟩, ⟨(by (with_reducible repeat (first | apply Kd.R_alloc | apply Kd.R_drewN | apply Kd.R_drew)); exact Kd.R_mono HO426.out (fun _ hk => trivial))⟩, ⟨q1_⟩, ⟨q3_⟩⟩
          ·rw [if_neg c36] at H
           exact absurd H (by simp)
         ·rw [if_neg c34] at H
          exact absurd H (by simp)
        ·rw [if_neg c33] at H
         exact absurd H (by simp)
       ·rw [if_neg c32] at H
        exact absurd H (by simp)
      ·rw [if_neg c31] at H
       exact absurd H (by simp)
     ·rw [if_neg c30] at H
      have c30b0 : decide (x43_1 < (l0_7.length : Int)) = false := decide_eq_false c30
      clear c30
      obtain rfl := Option.some.inj H
      go_wp2
      go_ret
      exact ⟨_, q5_, q4_, q0_⟩
end Go.Proofs.YtdhpcofnddkcaaaGreatDoor.S
namespace Go.Proofs.YtdhpcofnddkcaaaGreatDoor.S
open Go.RowKit Go.Proofs.YtdhpcofnddkcaaaGreatDoor.G Go.Proofs.YtdhpcofnddkcaaaGreatDoorW.PrintWords Go.Proofs.YtdhpcofnddkcaaaGreatDoorW.PrintLast Go.Proofs.YtdhpcofnddkcaaaGreatDoorW.PrintMore
set_option linter.unusedVariables false
set_option linter.unusedSimpArgs false
theorem dig20 (n0 : Nat) (ht : n0 ≤ 1000000) : (Lib.decDigits n0).length ≤ 20 := by
  rw [Lib.decDigits_length]
  have : ∀ (n u : Nat), u ≤ n → Lib.nDigits u ≤ u + 1 := by
    intro n
    induction n with
    | zero =>
      intro u hu
      rw [Lib.nDigits_small (by omega)]
      omega
    | succ n ih =>
      intro u hu
      by_cases h : u < 10
      · rw [Lib.nDigits_small h]; omega
      · rw [Lib.nDigits_big h]
        have := ih (u / 10) (by omega)
        omega
  have h1 : Lib.nDigits n0 ≤ 7 := by
    rcases Nat.lt_or_ge n0 1000000 with h | h
    · rcases Nat.lt_or_ge (Lib.nDigits n0) 8 with h2 | h2
      · omega
      · exfalso
        have key : ∀ (k u : Nat), k + 1 < Lib.nDigits u → 10 ^ (k + 1) ≤ u := by
          intro k
          induction k with
          | zero =>
            intro u hk
            by_cases h : u < 10
            · rw [Lib.nDigits_small h] at hk; omega
            · omega
          | succ k ih =>
            intro u hk
            by_cases h : u < 10
            · rw [Lib.nDigits_small h] at hk; omega
            · rw [Lib.nDigits_big h] at hk
              have := ih (u / 10) (by omega)
              rw [Nat.pow_succ]
              omega
        have := key 6 n0 (by omega)
        omega
    · have : n0 = 1000000 := by omega
      rw [this]
      rw [show (1000000 : Nat) = 10 ^ 6 from rfl] at *
      rw [Lib.nDigits_unique 6 _ (Nat.le_refl _) (by decide)]
      decide
  omega
theorem bl_bs (l : List UInt8) : bl (Net.bs l) = l := Net.lb_bs l
theorem bs_app (a b : List UInt8) : Net.bs a ++ Net.bs b = Net.bs (a ++ b) := ba_ext (by rw [bl_app, bl_bs, bl_bs, bl_bs])
theorem sz_bs (l : List UInt8) : (Net.bs l).size = l.length := by rw [sz, bl_bs]
theorem encB_ge (t : ByteArray) : t.size ≤ (Net.encB t).length := by
  unfold Net.encB
  rw [Net.enc_length, sz]
  show (bl t).length ≤ _ + (bl t).length + 2
  omega
theorem itoa_f (n : Nat) (h : n ≤ 1000000) : strconv_Itoa.f (n : Int) = some (Net.itoaB n) := by
  unfold strconv_Itoa.f
  rw [if_pos (by omega), Lib.itoa_nonneg]
  rfl
theorem rightS_kind {s : S29} (h : rightS s = true) : (s.f0 = 0 ∨ s.f0 = 1 ∨ s.f0 = 2) ∧ ∀ a ∈ s.f7, a.f1 = 0 ∨ a.f1 = 1 ∨ a.f1 = 2 := by
  rw [rightS_eq] at h
  obtain ⟨h1, h2⟩ := Bool.and_eq_true _ _ ▸ h
  refine ⟨?_, fun a ha => okA_kind _ (List.all_eq_true.1 h1 a ha)⟩
  unfold shapeS at h2
  split at h2
  · rename_i c; exact Or.inl c
  · split at h2
    · rename_i c; exact Or.inr (Or.inl c)
    · split at h2
      · rename_i c; exact Or.inr (Or.inr c)
      · cases h2
theorem part_f (t : ByteArray) (ht : t.size ≤ 1000000) : script_part.f t = some (Net.bs (Net.encB t)) := by
  have hz : t.size = (bl t).length := sz t
  unfold script_part.f strconv_Itoa.f
  rw [if_pos (by omega), Option.bind_some, Lib.itoa_nonneg]
  have hd := dig20 t.size ht
  have h1 : (⟨(Lib.decDigits t.size).toArray⟩ : ByteArray).size = (Lib.decDigits t.size).length := sz _
  rw [if_pos (by rw [h1]; omega), if_pos (by rw [sz_app, h1]; show _ + 1 + _ ≤ _; omega), if_pos (by rw [sz_app, sz_app, h1]; show _ + 1 + _ + 1 ≤ _; omega)]
  refine congrArg some (ba_ext ?_)
  rw [bl_app, bl_app, bl_app]
  show Lib.decDigits t.size ++ [58] ++ bl t ++ [44] = bl (Net.bs (Net.encB t))
  have : bl (Net.bs (Net.encB t)) = Net.encB t := Net.lb_bs _
  rw [this]
  unfold Net.encB Net.enc
  rw [hz]
  simp
theorem tnm_enc (k : Int) (h : k = 0 ∨ k = 1 ∨ k = 2) : Utf8.encode (bt (⟨#[116, 110, 109]⟩ : ByteArray) k) = Net.tnm k := by
  rcases h with rfl | rfl | rfl <;> decide
theorem parts_l0 (l : List S44) (hl : l.length ≤ 1000000) (hk : ∀ a ∈ l, a.f1 = 0 ∨ a.f1 = 1 ∨ a.f1 = 2) : ∀ (d i : Nat) (acc : List ByteArray), l.length - i ≤ d → i ≤ l.length → acc.length ≤ 10 + 3 * i → ∀ k, d + 1 ≤ k →
    script_Step_parts.l0 k acc l (l.length : Int) (i : Int) = some (acc ++ Net.argsT ((l.drop i).map toAr)) := by
  intro d
  induction d with
  | zero =>
    intro i acc h1 h2 h3 k hkk
    obtain ⟨m, rfl⟩ : ∃ m, k = m + 1 := ⟨k - 1, by omega⟩
    rw [script_Step_parts.l0, if_neg (by omega), List.drop_of_length_le (by omega)]
    show _ = some (acc ++ [])
    rw [List.append_nil]
  | succ d ih =>
    intro i acc h1 h2 h3 k hkk
    obtain ⟨m, rfl⟩ : ∃ m, k = m + 1 := ⟨k - 1, by omega⟩
    by_cases hi : i < l.length
    · have hki := hk _ (List.getElem_mem hi)
      rw [script_Step_parts.l0, if_pos (by omega), if_pos (by omega), if_pos (by omega), rd44 l i hi, if_pos (by omega), if_pos (by omega), Option.bind_some, if_pos (by show acc.length + 3 < _; omega), tnm_enc _ hki, w64 _ (by omega) (by omega),
        show (i : Int) + 1 = ((i + 1 : Nat) : Int) by omega, ih (i + 1) _ (by omega) (by omega) (by rw [List.length_append]; show _ + 3 ≤ _; omega) m (by omega), List.drop_eq_getElem_cons hi, List.map_cons, Net.argsT_cons, List.append_assoc]
      rfl
    · rw [script_Step_parts.l0, if_neg (by omega), List.drop_of_length_le (by omega)]
      show _ = some (acc ++ [])
      rw [List.append_nil]
theorem parts_f (s : S29) (hr : rightS s = true) (hl : s.f7.length ≤ 1000000) (hw : s.f4.length ≤ 1000000) (k : Nat) (hk : s.f7.length + 2 ≤ k) :
    script_Step_parts.f k s.f0 s.f1 s.f2 s.f3 s.f4 s.f5 s.f6 s.f7 = some (Net.parts (toSt s)) := by
  obtain ⟨hk0, hk7⟩ := rightS_kind hr
  obtain ⟨f0, f1, f2, f3, f4, f5, f6, f7⟩ := s
  simp only at *
  unfold script_Step_parts.f
  show _ = some (if f0 = 0 then [Net.cA, f1, if f3 = true then Net.c1 else Net.c0, f2] else if f0 = 1 then [Net.cC, f1, Net.itoaB f4.length] ++ f4 else [Net.cQ, f5, f6, Net.itoaB (f7.map toAr).length] ++ Net.argsT (f7.map toAr))
  by_cases h0 : f0 = 0
  · rw [if_pos h0, if_pos h0]
    cases f3 <;> rfl
  · rw [if_neg h0, if_neg h0]
    by_cases h1 : f0 = 1
    · rw [if_pos h1, if_pos h1, itoa_f _ (by omega), Option.bind_some, Option.bind_some, if_pos (by show 3 + _ < _; omega)]
      rfl
    · rw [if_neg h1, if_neg h1, itoa_f _ (by omega), Option.bind_some, List.length_map]
      have := parts_l0 f7 (by omega) hk7 f7.length 0 [(⟨#[113]⟩ : ByteArray), f5, f6, Net.itoaB f7.length] (by omega) (by omega) (by show 4 ≤ 10 + 3 * 0; omega) k (by omega)
      rw [List.drop_zero] at this
      exact this
theorem toAr_of (a : Net.Ar) : toAr (ofAr a) = a := rfl
theorem toSt_of (s : Net.St) : toSt (ofSt s) = s := by
  obtain ⟨k, tag, by_, ov, ws, nm, at_, ags⟩ := s
  show (k, tag, by_, ov, ws, nm, at_, (ags.map ofAr).map toAr) = _
  rw [List.map_map]
  have : (toAr ∘ ofAr) = id := rfl
  rw [this, List.map_id]
end Go.Proofs.YtdhpcofnddkcaaaGreatDoor.S
