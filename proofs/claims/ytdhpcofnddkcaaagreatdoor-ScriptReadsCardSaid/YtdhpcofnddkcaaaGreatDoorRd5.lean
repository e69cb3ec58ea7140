/- polyglotlaw18.ScriptReads: for every slice of bytes the call returns true and leaves it unchanged. (Text 6 of 9: what the law's proof rests on, joined; walks printed by the kit's print over given contracts, walks and plain laws by hand.) -/
import Derived.Test.YtdhpcofnddkcaaaGreatDoorRd0
import Derived.Test.YtdhpcofnddkcaaaGreatDoorRd1
import Derived.Test.YtdhpcofnddkcaaaGreatDoorRd2
import Derived.Test.YtdhpcofnddkcaaaGreatDoorRd3
import Derived.Test.YtdhpcofnddkcaaaGreatDoorRd4
namespace Go.Proofs.YtdhpcofnddkcaaaGreatDoor.S
open Go.RowKit Go.Proofs.YtdhpcofnddkcaaaGreatDoor.G Go.Proofs.YtdhpcofnddkcaaaGreatDoorW.PrintWords Go.Proofs.YtdhpcofnddkcaaaGreatDoorW.PrintLast Go.Proofs.YtdhpcofnddkcaaaGreatDoorW.PrintMore
attribute [local go_sem] max2_int min2_int max_two min_two max_three min_three max_four min_four
set_option linter.unusedVariables false
set_option linter.unusedSimpArgs false
namespace Sx13
theorem cells3 {w : World} {g : Nat} {t : TypeId} {a0 a1 a2 : Value} (h : w.heap[g]? = some (.cells #[a0, a1, a2] t (0, 0))) : w.cell? ⟨g, 0, none⟩ = some a0 ∧ w.cell? ⟨g, 1, none⟩ = some a1 ∧ w.cell? ⟨g, 2, none⟩ = some a2 := ⟨(blk_cell h 0).trans rfl, (blk_cell h 1).trans rfl, (blk_cell h 2).trans rfl⟩
theorem cellsF3 {w : World} {g : Nat} {t : TypeId} {a0 a1 a2 : Value} (h : w.heap[g]? = some (.cells #[a0, a1, a2] t (0, 0))) : w.cell? ⟨g, 0, none⟩ = some a0 ∧ w.cell? ⟨g, 1, none⟩ = some a1 ∧ w.cell? ⟨g, 2, none⟩ = some a2 ∧ w.frozen? ⟨g, 0, none⟩ = false ∧ w.frozen? ⟨g, 1, none⟩ = false ∧ w.frozen? ⟨g, 2, none⟩ = false := ⟨(blk_cell h 0).trans rfl, (blk_cell h 1).trans rfl, (blk_cell h 2).trans rfl, blk_frozen h 0, blk_frozen h 1, blk_frozen h 2⟩
theorem cells8 {w : World} {g : Nat} {t : TypeId} {a0 a1 a2 a3 a4 a5 a6 a7 : Value} (h : w.heap[g]? = some (.cells #[a0, a1, a2, a3, a4, a5, a6, a7] t (0, 0))) : w.cell? ⟨g, 0, none⟩ = some a0 ∧ w.cell? ⟨g, 1, none⟩ = some a1 ∧ w.cell? ⟨g, 2, none⟩ = some a2 ∧ w.cell? ⟨g, 3, none⟩ = some a3 ∧ w.cell? ⟨g, 4, none⟩ = some a4 ∧ w.cell? ⟨g, 5, none⟩ = some a5 ∧ w.cell? ⟨g, 6, none⟩ = some a6 ∧ w.cell? ⟨g, 7, none⟩ = some a7 := ⟨(blk_cell h 0).trans rfl, (blk_cell h 1).trans rfl, (blk_cell h 2).trans rfl, (blk_cell h 3).trans rfl, (blk_cell h 4).trans rfl, (blk_cell h 5).trans rfl, (blk_cell h 6).trans rfl, (blk_cell h 7).trans rfl⟩
theorem cellsF8 {w : World} {g : Nat} {t : TypeId} {a0 a1 a2 a3 a4 a5 a6 a7 : Value} (h : w.heap[g]? = some (.cells #[a0, a1, a2, a3, a4, a5, a6, a7] t (0, 0))) : w.cell? ⟨g, 0, none⟩ = some a0 ∧ w.cell? ⟨g, 1, none⟩ = some a1 ∧ w.cell? ⟨g, 2, none⟩ = some a2 ∧ w.cell? ⟨g, 3, none⟩ = some a3 ∧ w.cell? ⟨g, 4, none⟩ = some a4 ∧ w.cell? ⟨g, 5, none⟩ = some a5 ∧ w.cell? ⟨g, 6, none⟩ = some a6 ∧ w.cell? ⟨g, 7, none⟩ = some a7 ∧ w.frozen? ⟨g, 0, none⟩ = false ∧ w.frozen? ⟨g, 1, none⟩ = false ∧ w.frozen? ⟨g, 2, none⟩ = false ∧ w.frozen? ⟨g, 3, none⟩ = false ∧ w.frozen? ⟨g, 4, none⟩ = false ∧ w.frozen? ⟨g, 5, none⟩ = false ∧ w.frozen? ⟨g, 6, none⟩ = false ∧ w.frozen? ⟨g, 7, none⟩ = false := ⟨(blk_cell h 0).trans rfl, (blk_cell h 1).trans rfl, (blk_cell h 2).trans rfl, (blk_cell h 3).trans rfl, (blk_cell h 4).trans rfl, (blk_cell h 5).trans rfl, (blk_cell h 6).trans rfl, (blk_cell h 7).trans rfl, blk_frozen h 0, blk_frozen h 1, blk_frozen h 2, blk_frozen h 3, blk_frozen h 4, blk_frozen h 5, blk_frozen h 6, blk_frozen h 7⟩
theorem cells12 {w : World} {g : Nat} {t : TypeId} {a0 a1 a2 a3 a4 a5 a6 a7 a8 a9 a10 a11 : Value} (h : w.heap[g]? = some (.cells #[a0, a1, a2, a3, a4, a5, a6, a7, a8, a9, a10, a11] t (0, 0))) : w.cell? ⟨g, 0, none⟩ = some a0 ∧ w.cell? ⟨g, 1, none⟩ = some a1 ∧ w.cell? ⟨g, 2, none⟩ = some a2 ∧ w.cell? ⟨g, 3, none⟩ = some a3 ∧ w.cell? ⟨g, 4, none⟩ = some a4 ∧ w.cell? ⟨g, 5, none⟩ = some a5 ∧ w.cell? ⟨g, 6, none⟩ = some a6 ∧ w.cell? ⟨g, 7, none⟩ = some a7 ∧ w.cell? ⟨g, 8, none⟩ = some a8 ∧ w.cell? ⟨g, 9, none⟩ = some a9 ∧ w.cell? ⟨g, 10, none⟩ = some a10 ∧ w.cell? ⟨g, 11, none⟩ = some a11 := ⟨(blk_cell h 0).trans rfl, (blk_cell h 1).trans rfl, (blk_cell h 2).trans rfl, (blk_cell h 3).trans rfl, (blk_cell h 4).trans rfl, (blk_cell h 5).trans rfl, (blk_cell h 6).trans rfl, (blk_cell h 7).trans rfl, (blk_cell h 8).trans rfl, (blk_cell h 9).trans rfl, (blk_cell h 10).trans rfl, (blk_cell h 11).trans rfl⟩
theorem cellsF12 {w : World} {g : Nat} {t : TypeId} {a0 a1 a2 a3 a4 a5 a6 a7 a8 a9 a10 a11 : Value} (h : w.heap[g]? = some (.cells #[a0, a1, a2, a3, a4, a5, a6, a7, a8, a9, a10, a11] t (0, 0))) : w.cell? ⟨g, 0, none⟩ = some a0 ∧ w.cell? ⟨g, 1, none⟩ = some a1 ∧ w.cell? ⟨g, 2, none⟩ = some a2 ∧ w.cell? ⟨g, 3, none⟩ = some a3 ∧ w.cell? ⟨g, 4, none⟩ = some a4 ∧ w.cell? ⟨g, 5, none⟩ = some a5 ∧ w.cell? ⟨g, 6, none⟩ = some a6 ∧ w.cell? ⟨g, 7, none⟩ = some a7 ∧ w.cell? ⟨g, 8, none⟩ = some a8 ∧ w.cell? ⟨g, 9, none⟩ = some a9 ∧ w.cell? ⟨g, 10, none⟩ = some a10 ∧ w.cell? ⟨g, 11, none⟩ = some a11 ∧ w.frozen? ⟨g, 0, none⟩ = false ∧ w.frozen? ⟨g, 1, none⟩ = false ∧ w.frozen? ⟨g, 2, none⟩ = false ∧ w.frozen? ⟨g, 3, none⟩ = false ∧ w.frozen? ⟨g, 4, none⟩ = false ∧ w.frozen? ⟨g, 5, none⟩ = false ∧ w.frozen? ⟨g, 6, none⟩ = false ∧ w.frozen? ⟨g, 7, none⟩ = false ∧ w.frozen? ⟨g, 8, none⟩ = false ∧ w.frozen? ⟨g, 9, none⟩ = false ∧ w.frozen? ⟨g, 10, none⟩ = false ∧ w.frozen? ⟨g, 11, none⟩ = false := ⟨(blk_cell h 0).trans rfl, (blk_cell h 1).trans rfl, (blk_cell h 2).trans rfl, (blk_cell h 3).trans rfl, (blk_cell h 4).trans rfl, (blk_cell h 5).trans rfl, (blk_cell h 6).trans rfl, (blk_cell h 7).trans rfl, (blk_cell h 8).trans rfl, (blk_cell h 9).trans rfl, (blk_cell h 10).trans rfl, (blk_cell h 11).trans rfl, blk_frozen h 0, blk_frozen h 1, blk_frozen h 2, blk_frozen h 3, blk_frozen h 4, blk_frozen h 5, blk_frozen h 6, blk_frozen h 7, blk_frozen h 8, blk_frozen h 9, blk_frozen h 10, blk_frozen h 11⟩
theorem q0_ {p_ : Prop} (h_ : p_ := by repeat (first | (with_reducible first | exact HB.out | apply below_alloc | apply pw_below_drewN | apply below_drew1 | refine below_set ?_ GE256.out) | exact HB.out)) : p_ := h_
theorem q1_ {p_ : Prop} (h_ : p_ := by (with_reducible repeat (first | refine blk_drewN ?_ _ | refine blk_drew ?_ | refine blk_alloc ?_ _)); exact BK256.out) : p_ := h_
theorem q2_ {p_ : Prop} (h_ : p_ := by repeat (first | (with_reducible first | exact HB.out | apply below_alloc | apply pw_below_drewN | apply below_drew1 | refine below_set ?_ GE256.out | refine below_set ?_ GE258.out) | exact HB.out)) : p_ := h_
theorem q3_ {p_ : Prop} (h_ : p_ := by (with_reducible repeat (first | refine blk_drewN ?_ _ | refine blk_drew ?_ | refine blk_alloc ?_ _)); refine blk_put (cs := #[.string ((rd_T44 l0_7 x12_1).f0), .int .i64 ((rd_T44 l0_7 x12_1).f1), .string (⟨#[]⟩ : ByteArray)]) ?_ 2 _ rfl; (with_reducible repeat (first | refine blk_drewN ?_ _ | refine blk_drew ?_ | refine blk_alloc ?_ _)); refine blk_put (cs := #[.string ((rd_T44 l0_7 x12_1).f0), .int .i64 0, .string (⟨#[]⟩ : ByteArray)]) ?_ 1 _ rfl; (with_reducible repeat (first | refine blk_drewN ?_ _ | refine blk_drew ?_ | refine blk_alloc ?_ _)); refine blk_put (cs := #[.string (⟨#[]⟩ : ByteArray), .int .i64 0, .string (⟨#[]⟩ : ByteArray)]) ?_ 0 _ rfl; (with_reducible repeat (first | refine blk_drewN ?_ _ | refine blk_drew ?_ | refine blk_alloc ?_ _)); exact BK258.out) : p_ := h_
theorem q4_ {p_ : Prop} (h_ : p_ := by first | rfl | (simp [errW_none, errW_some] <;> rfl) | (simp [*, errW_none, errW_some] <;> rfl)) : p_ := h_
theorem q5_ {p_ : Prop} (h_ : p_ := by rw [hg]; exact Nat.ne_of_lt (blk_lt (g := gb256) (o := .cells #[.int .i64 a0_0, .string a0_1, .string a0_2, .bool a0_3, .slice A0_4 l0_4.length c0_4, .string a0_5, .string a0_6, .slice (some ad257) l0_7.length c0_7] 29 (0, 0)) q1_)) : p_ := h_
theorem q6_ {p_ : Prop} (h_ : p_ := by rw [hg]; exact Nat.ne_of_gt (blk_lt (g := gb256) (o := .cells #[.int .i64 a0_0, .string a0_1, .string a0_2, .bool a0_3, .slice A0_4 l0_4.length c0_4, .string a0_5, .string a0_6, .slice (some ad257) l0_7.length c0_7] 29 (0, 0)) q1_)) : p_ := h_
theorem q7_ {p_ : Prop} (h_ : p_ := by (with_reducible repeat (first | refine blk_drewN ?_ _ | refine blk_drew ?_ | refine blk_alloc ?_ _)); exact BK258.out) : p_ := h_
theorem q8_ {p_ : Prop} (h_ : p_ := by (with_reducible repeat (first | refine blk_drewN ?_ _ | refine blk_drew ?_ | refine blk_alloc ?_ _)); refine blk_far ?_ NB256_258.out _; (with_reducible repeat (first | refine blk_drewN ?_ _ | refine blk_drew ?_ | refine blk_alloc ?_ _)); refine blk_far ?_ NB256_258.out _; (with_reducible repeat (first | refine blk_drewN ?_ _ | refine blk_drew ?_ | refine blk_alloc ?_ _)); refine blk_far ?_ NB256_258.out _; (with_reducible repeat (first | refine blk_drewN ?_ _ | refine blk_drew ?_ | refine blk_alloc ?_ _)); exact BK256.out) : p_ := h_
theorem q9_ {p_ : Prop} (h_ : p_ := by first | rfl | (simp; done) | (simp [*]; done)) : p_ := h_
theorem q10_ {p_ : Prop} (h_ : p_ := by repeat (first | (with_reducible first | exact HB.out | apply below_alloc | apply pw_below_drewN | apply below_drew1) | exact HB.out)) : p_ := h_
theorem q11_ {p_ : Prop} (h_ : p_ := by repeat (first | (with_reducible first | exact HB.out | apply below_alloc | apply pw_below_drewN | apply below_drew1 | refine below_set ?_ GE256.out | refine below_set ?_ GE258.out | refine below_set ?_ GE272.out) | exact HB.out)) : p_ := h_
theorem q12_ {p_ : Prop} (h_ : p_ := by rw [hg]; exact Nat.ne_of_lt (blk_lt (g := gb258) (o := .cells #[.string ((rd_T44 l0_7 x12_1).f0), .int .i64 ((rd_T44 l0_7 x12_1).f1), .string ((rd_T44 l0_7 x12_1).f2)] 44 (0, 0)) q7_)) : p_ := h_
theorem q13_ {p_ : Prop} (h_ : p_ := by rw [hg]; exact Nat.ne_of_gt (blk_lt (g := gb258) (o := .cells #[.string ((rd_T44 l0_7 x12_1).f0), .int .i64 ((rd_T44 l0_7 x12_1).f1), .string ((rd_T44 l0_7 x12_1).f2)] 44 (0, 0)) q7_)) : p_ := h_
theorem q14_ {p_ : Prop} (h_ : p_ := by first | (with_reducible assumption) | assumption) : p_ := h_
theorem q15_ {p_ : Prop} (h_ : p_ := by (try simp only [List.map_toArray, List.map_cons, List.map_nil]); first | done | rfl | (simp only [List.length_drop, List.length_take]; rfl)) : p_ := h_
theorem u0_ {p_ : Prop} (h_ : p_ := by first | (go_simp; done) | (go_simp; rfl)) : p_ := h_
end Sx13
open Sx13
mutual
def polyglotlaw18_Right.l0 : Nat → List (S44) → Int → Int → Int → ByteArray → ByteArray → Bool → List ByteArray → ByteArray → ByteArray → List (S44) → Option (Bool)
 | 0, _, _, _, _, _, _, _, _, _, _, _ => none
 | k + 1, x10, x11, x12, x257000, x257001, x257002, x257003, x257004, x257005, x257006, x257007 => if x12 < x11 then (if 0 ≤ x12 then (if x12 < (x10.length : Int) then ((polyglotlaw18_Value.f k ((rd_T44 x10 x12).f0) ((rd_T44 x10 x12).f1) ((rd_T44 x10 x12).f2)).bind fun bt259 => (if bt259.2.2.2.2.2.2.2.2.2.2.2.2 = true then (polyglotlaw18_Right.l0 k x10 x11 (wrap64 (x12 + 1)) x257000 x257001 x257002 x257003 x257004 x257005 x257006 x257007) else (some false))) else (none)) else (none)) else (if x257005.toList = ([] : List UInt8) then (if x257006.toList = ([] : List UInt8) then (polyglotlaw18_Right.j1 k (decide ((x257007.length : Int) > 0)) x257000 x257001 x257002 x257003 x257004 x257005 x257006 x257007) else (polyglotlaw18_Right.j1 k true x257000 x257001 x257002 x257003 x257004 x257005 x257006 x257007)) else (polyglotlaw18_Right.j1 k true x257000 x257001 x257002 x257003 x257004 x257005 x257006 x257007))
def polyglotlaw18_Right.j1 : Nat → Bool → Int → ByteArray → ByteArray → Bool → List ByteArray → ByteArray → ByteArray → List (S44) → Option (Bool)
 | 0, _, _, _, _, _, _, _, _, _ => none
 | k + 1, x7, x257000, x257001, x257002, x257003, x257004, x257005, x257006, x257007 => if x257002.toList = ([] : List UInt8) then (polyglotlaw18_Right.j2 k x7 x257003 x257000 x257001 x257002 x257003 x257004 x257005 x257006 x257007) else (polyglotlaw18_Right.j2 k x7 true x257000 x257001 x257002 x257003 x257004 x257005 x257006 x257007)
def polyglotlaw18_Right.j2 : Nat → Bool → Bool → Int → ByteArray → ByteArray → Bool → List ByteArray → ByteArray → ByteArray → List (S44) → Option (Bool)
 | 0, _, _, _, _, _, _, _, _, _, _ => none
 | k + 1, x7, x8, x257000, x257001, x257002, x257003, x257004, x257005, x257006, x257007 => if x257000 = 0 then (if x7 = true then (some false) else (some ((x257004.length : Int) == 0))) else (if x257000 = 1 then (if x7 = true then (some false) else (some (!x8))) else (if x257000 = 2 then (if x8 = true then (some false) else (if x257001.toList = ([] : List UInt8) then (some ((x257004.length : Int) == 0)) else (some false))) else (some false)))
end
def polyglotlaw18_Right.f (k : Nat) (a0_0 : Int) (a0_1 : ByteArray) (a0_2 : ByteArray) (a0_3 : Bool) (l0_4 : List ByteArray) (a0_5 : ByteArray) (a0_6 : ByteArray) (l0_7 : List (S44)) : Option (Bool) := polyglotlaw18_Right.l0 k l0_7 (l0_7.length : Int) 0 a0_0 a0_1 a0_2 a0_3 l0_4 a0_5 a0_6 l0_7
theorem polyglotlaw18_Right.mono_l : ∀ k, (∀ y0 y1 y2 y3 y4 y5 y6 y7 y8 y9 y10, LeO (polyglotlaw18_Right.l0 k y0 y1 y2 y3 y4 y5 y6 y7 y8 y9 y10) (polyglotlaw18_Right.l0 (k + 1) y0 y1 y2 y3 y4 y5 y6 y7 y8 y9 y10)) ∧ (∀ y0 y1 y2 y3 y4 y5 y6 y7 y8, LeO (polyglotlaw18_Right.j1 k y0 y1 y2 y3 y4 y5 y6 y7 y8) (polyglotlaw18_Right.j1 (k + 1) y0 y1 y2 y3 y4 y5 y6 y7 y8)) ∧ (∀ y0 y1 y2 y3 y4 y5 y6 y7 y8 y9, LeO (polyglotlaw18_Right.j2 k y0 y1 y2 y3 y4 y5 y6 y7 y8 y9) (polyglotlaw18_Right.j2 (k + 1) y0 y1 y2 y3 y4 y5 y6 y7 y8 y9))
 | 0 => ⟨fun _ _ _ _ _ _ _ _ _ _ _ r h => by simp [polyglotlaw18_Right.l0] at h, fun _ _ _ _ _ _ _ _ _ r h => by simp [polyglotlaw18_Right.j1] at h, fun _ _ _ _ _ _ _ _ _ _ r h => by simp [polyglotlaw18_Right.j2] at h⟩
 | k + 1 => by
  obtain ⟨ih0, ih1, ih2⟩ := polyglotlaw18_Right.mono_l k
  refine ⟨?_, ?_, ?_⟩
  ·intro y0 y1 y2 y3 y4 y5 y6 y7 y8 y9 y10
   unfold polyglotlaw18_Right.l0
   repeat' first
   | (with_reducible exact ih0 _ _ _ _ _ _ _ _ _ _ _)
   | (with_reducible exact ih1 _ _ _ _ _ _ _ _ _)
   | (with_reducible exact ih2 _ _ _ _ _ _ _ _ _ _)
   | (with_reducible exact polyglotlaw18_Value.mono _ _ _ _)
   | (with_reducible exact LeO.refl _)
   | (with_reducible exact LeO.none _)
   | (with_reducible refine LeO.ite ?_ ?_)
   | (with_reducible refine LeO.bind ?_ (fun _ => ?_))
   | exact ih0 _ _ _ _ _ _ _ _ _ _ _
   | exact ih1 _ _ _ _ _ _ _ _ _
   | exact ih2 _ _ _ _ _ _ _ _ _ _
   | exact polyglotlaw18_Value.mono _ _ _ _
   | exact LeO.none _
   | refine LeO.ite ?_ ?_
   | refine LeO.bind ?_ (fun _ => ?_)
  ·intro y0 y1 y2 y3 y4 y5 y6 y7 y8
   unfold polyglotlaw18_Right.j1
   repeat' first
   | (with_reducible exact ih0 _ _ _ _ _ _ _ _ _ _ _)
   | (with_reducible exact ih1 _ _ _ _ _ _ _ _ _)
   | (with_reducible exact ih2 _ _ _ _ _ _ _ _ _ _)
   | (with_reducible exact polyglotlaw18_Value.mono _ _ _ _)
   | (with_reducible exact LeO.refl _)
   | (with_reducible exact LeO.none _)
   | (with_reducible refine LeO.ite ?_ ?_)
   | (with_reducible refine LeO.bind ?_ (fun _ => ?_))
   | exact ih0 _ _ _ _ _ _ _ _ _ _ _
   | exact ih1 _ _ _ _ _ _ _ _ _
   | exact ih2 _ _ _ _ _ _ _ _ _ _
   | exact polyglotlaw18_Value.mono _ _ _ _
   | exact LeO.none _
   | refine LeO.ite ?_ ?_
   | refine LeO.bind ?_ (fun _ => ?_)
  ·intro y0 y1 y2 y3 y4 y5 y6 y7 y8 y9
   unfold polyglotlaw18_Right.j2
   repeat' first
   | (with_reducible exact ih0 _ _ _ _ _ _ _ _ _ _ _)
   | (with_reducible exact ih1 _ _ _ _ _ _ _ _ _)
   | (with_reducible exact ih2 _ _ _ _ _ _ _ _ _ _)
   | (with_reducible exact polyglotlaw18_Value.mono _ _ _ _)
   | (with_reducible exact LeO.refl _)
   | (with_reducible exact LeO.none _)
   | (with_reducible refine LeO.ite ?_ ?_)
   | (with_reducible refine LeO.bind ?_ (fun _ => ?_))
   | exact ih0 _ _ _ _ _ _ _ _ _ _ _
   | exact ih1 _ _ _ _ _ _ _ _ _
   | exact ih2 _ _ _ _ _ _ _ _ _ _
   | exact polyglotlaw18_Value.mono _ _ _ _
   | exact LeO.none _
   | refine LeO.ite ?_ ?_
   | refine LeO.bind ?_ (fun _ => ?_)
theorem polyglotlaw18_Right.mono : ∀ a0 a1 a2 a3 a4 a5 a6 a7 k, LeO (polyglotlaw18_Right.f k a0 a1 a2 a3 a4 a5 a6 a7) (polyglotlaw18_Right.f (k + 1) a0 a1 a2 a3 a4 a5 a6 a7) := by
 intro a0 a1 a2 a3 a4 a5 a6 a7 k
 obtain ⟨ih0, ih1, ih2⟩ := polyglotlaw18_Right.mono_l k
 unfold polyglotlaw18_Right.f
 repeat' first
   | (with_reducible exact ih0 _ _ _ _ _ _ _ _ _ _ _)
   | (with_reducible exact ih1 _ _ _ _ _ _ _ _ _)
   | (with_reducible exact ih2 _ _ _ _ _ _ _ _ _ _)
   | (with_reducible exact polyglotlaw18_Value.mono _ _ _ _)
   | (with_reducible exact LeO.refl _)
   | (with_reducible exact LeO.none _)
   | (with_reducible refine LeO.ite ?_ ?_)
   | (with_reducible refine LeO.bind ?_ (fun _ => ?_))
   | exact ih0 _ _ _ _ _ _ _ _ _ _ _
   | exact ih1 _ _ _ _ _ _ _ _ _
   | exact ih2 _ _ _ _ _ _ _ _ _ _
   | exact polyglotlaw18_Value.mono _ _ _ _
   | exact LeO.none _
   | refine LeO.ite ?_ ?_
   | refine LeO.bind ?_ (fun _ => ?_)
set_option maxHeartbeats 8000000 in
set_option maxRecDepth 100000 in
theorem polyglotlaw18_Right.calls (k : Nat) (a0_0 : Int) (a0_1 : ByteArray) (a0_2 : ByteArray) (a0_3 : Bool) (A0_4 : Option Addr) (c0_4 : Nat) (l0_4 : List ByteArray) (a0_5 : ByteArray) (a0_6 : ByteArray) (A0_7 : Option Addr) (c0_7 : Nat) (l0_7 : List (S44)) (r : Bool) (w : World) (hr0_4 : Kd.C Kd.string w A0_4 l0_4.length l0_4) (hc0_4 : l0_4.length ≤ c0_4) (hr0_7 : Kd.C k44 w A0_7 l0_7.length l0_7) (hc0_7 : l0_7.length ≤ c0_7) (h : polyglotlaw18_Right.f k a0_0 a0_1 a0_2 a0_3 l0_4 a0_5 a0_6 l0_7 = some r) :
  Calls Tryz.prog 12 #[.agg #[.int .i64 a0_0, .string a0_1, .string a0_2, .bool a0_3, .slice A0_4 l0_4.length c0_4, .string a0_5, .string a0_6, .slice A0_7 l0_7.length c0_7]] w fun e w' => e = .returned (.bool r) ∧ Below w.heap.size w w' := by
 have hu29 := Tryz.underlying29
 have hu44 := Tryz.underlying44
 have hu51 := Tryz.underlying51
 have HR0_4 := Aside0.mk hr0_4
 have HC0_4 := Aside0.mk hc0_4
 clear hr0_4 hc0_4
 have HR0_7 := Aside0.mk hr0_7
 have HC0_7 := Aside0.mk hc0_7
 clear hr0_7 hc0_7
 have HB := Aside0.mk (Below.refl w.heap.size w)
 have H : (polyglotlaw18_Right.l0 k l0_7 (l0_7.length : Int) 0 a0_0 a0_1 a0_2 a0_3 l0_4 a0_5 a0_6 l0_7) = some r := h
 clear h
 have H' := Aside0.mk H
 clear H
 go_enter Tryz.func12, Tryz.ntmps12
 go_wp2_with (first | ((with_reducible refine gate_dst (N := 1) rfl ?_); (try (refine gate_guard (by rfl) ?_; dsimp only)); refine box_event ?hg (N := 1) ?hd (cs := #[.int .i64 a0_0, .string a0_1, .string a0_2, .bool a0_3, .slice A0_4 l0_4.length c0_4, .string a0_5, .string a0_6, .slice A0_7 l0_7.length c0_7]) (t := 29) ?hr ?_; (case hd => rfl); (case hg => rfl); (case hr => exact u0_); intro gb256 hg w2 hbox hb; have BK256 := Aside0.mk (hbox); have GW256 := Aside0.mk (((by rw [hg]; exact (below_size q10_)) : w.heap.size ≤ gb256)); have GE256 := Aside0.mk (((by rw [hg]; exact (below_size q10_)) : w.heap.size ≤ gb256)); replace HB := Aside0.mk (below_step q10_ hb); clear hb hbox hg; obtain ⟨hcz3_0, hcz3_1, hcz3_2, hcz3_3, hcz3_4, hcz3_5, hcz3_6, hcz3_7, hfz3_0, hfz3_1, hfz3_2, hfz3_3, hfz3_4, hfz3_5, hfz3_6, hfz3_7⟩ := cellsF8 BK256.out))
 go_loopg [12] k (fun kq v12 w' => ∃ (x12_1 : Int), v12 = .int .i64 x12_1 ∧ Aside0 (polyglotlaw18_Right.l0 kq l0_7 (l0_7.length : Int) x12_1 a0_0 a0_1 a0_2 a0_3 l0_4 a0_5 a0_6 l0_7 = some r) ∧ Aside0 (kq ≤ k) ∧ Aside0 (w'.heap[gb256]? = some (.cells #[.int .i64 a0_0, .string a0_1, .string a0_2, .bool a0_3, (.slice A0_4 l0_4.length c0_4), .string a0_5, .string a0_6, (.slice A0_7 l0_7.length c0_7)] 29 (0, 0))) ∧ Aside0 (Below w.heap.size w w'))
 case atStart => exact ⟨(0), q9_, H', ⟨Nat.le_refl _⟩, ⟨q1_⟩, ⟨q0_⟩⟩
 case round =>
  clear H'
  try clear c1
  try clear p2
  try clear hcz3_0 hcz3_1 hcz3_2 hcz3_3 hcz3_4 hcz3_5 hcz3_6 hcz3_7
  try clear hfz3_0 hfz3_1 hfz3_2 hfz3_3 hfz3_4 hfz3_5 hfz3_6 hfz3_7
  obtain ⟨x12_1, rfl, HA, HK1, BK256, HB⟩ := hrel
  cases gk with
  | zero => exact absurd HA.out (by simp [polyglotlaw18_Right.l0])
  | succ k1 =>
   have H := HA.out
   clear HA
   simp only [polyglotlaw18_Right.l0] at H
   by_cases c4 : x12_1 < (l0_7.length : Int)
   ·rw [if_pos c4] at H
    have c4b0 : decide (x12_1 < (l0_7.length : Int)) = true := decide_eq_true c4
    clear c4
    by_cases c5 : 0 ≤ x12_1
    ·rw [if_pos c5] at H
     have c5b0 : decide (0 ≤ x12_1) = true := decide_eq_true c5
     clear c5
     by_cases c6 : x12_1 < (l0_7.length : Int)
     ·rw [if_pos c6] at H
      have c6b0 : decide (x12_1 < (l0_7.length : Int)) = true := decide_eq_true c6
      clear c6
      replace H := Option.bind_eq_some_iff.mp H
      obtain ⟨⟨t259, t260, t261, t262, t263, t264, t265, t266, t267, t268, t269, t270, t271⟩, A70, H⟩ := H
      replace H : (if t271 = true then (polyglotlaw18_Right.l0 k1 l0_7 (l0_7.length : Int) (wrap64 (x12_1 + 1)) a0_0 a0_1 a0_2 a0_3 l0_4 a0_5 a0_6 l0_7) else (some false)) = some r := H
      have A7 := Aside0.mk A70
      clear A70
      by_cases c8 : t271 = true
      ·subst c8
       have H1 : (polyglotlaw18_Right.l0 k1 l0_7 (l0_7.length : Int) (wrap64 (x12_1 + 1)) a0_0 a0_1 a0_2 a0_3 l0_4 a0_5 a0_6 l0_7) = some r := by rw [if_pos rfl] at H; exact H
       clear H
       have H := H1
       clear H1
       have H' := Aside0.mk H
       clear H
       have p257 : 0 ≤ (x12_1 : Int) := of_decide_eq_true q14_
       have q257 : x12_1 < (l0_7.length : Int) := of_decide_eq_true q14_
       obtain ⟨ad257, e257, hx257_0, hx257_1, hx257_2⟩ := at_T44 HR0_7.out x12_1 p257 q257
       cases e257
       replace hx257_0 := (HB.out.cell (World.block_lt_of_cell? w _ hx257_0)).trans hx257_0
       replace hx257_1 := (HB.out.cell (World.block_lt_of_cell? w _ hx257_1)).trans hx257_1
       replace hx257_2 := (HB.out.cell (World.block_lt_of_cell? w _ hx257_2)).trans hx257_2
       replace p257 := eq_true p257
       replace q257 := eq_true q257
       go_wp2_with (first | ((with_reducible refine gate_dst (N := 4) rfl ?_); (try (refine gate_guard (by rfl) ?_; dsimp only)); refine box_event ?hg (N := 4) ?hd (cs := #[.string (⟨#[]⟩ : ByteArray), .int .i64 0, .string (⟨#[]⟩ : ByteArray)]) (t := 44) ?hr ?_; (case hd => rfl); (case hg => rfl); (case hr => exact u0_); intro gb258 hg w9 hbox hb; have BK258 := Aside0.mk (hbox); have GW258 := Aside0.mk (((by rw [hg]; exact (below_size q0_)) : w.heap.size ≤ gb258)); have GE258 := Aside0.mk (((by rw [hg]; exact (below_size q0_)) : w.heap.size ≤ gb258)); replace HB := Aside0.mk (below_step q0_ hb); have NB256_258 := Aside0.mk ((q5_ : gb256 ≠ gb258)); have NB258_256 := Aside0.mk ((q6_ : gb258 ≠ gb256)); replace BK256 := Aside0.mk (blk_below (g := gb256) (o := .cells #[.int .i64 a0_0, .string a0_1, .string a0_2, .bool a0_3, .slice A0_4 l0_4.length c0_4, .string a0_5, .string a0_6, .slice (some ad257) l0_7.length c0_7] 29 (0, 0)) q1_ hb); clear hb hbox hg; have hnb10 := NB258_256.out; have hnc10 := NB256_258.out; obtain ⟨hcz11_0, hcz11_1, hcz11_2, hfz11_0, hfz11_1, hfz11_2⟩ := cellsF3 BK258.out) | ((with_reducible refine gate_callee (f := 18) rfl ?_); refine goesL_ (some 18) rfl rfl Tryz.func18 (by kernel_rfl) rfl #[.agg #[.string ((rd_T44 l0_7 x12_1).f0), .int .i64 ((rd_T44 l0_7 x12_1).f1), .string ((rd_T44 l0_7 x12_1).f2)]] rfl q15_ ?_; (with_reducible refine (polyglotlaw18_Value.calls k1 ((rd_T44 l0_7 x12_1).f0) ((rd_T44 l0_7 x12_1).f1) ((rd_T44 l0_7 x12_1).f2) t259 t260 t261 t262 t263 t264 t265 t266 t267 t268 t269 t270 true _ A7.out).mono ?_); rintro e w12 ⟨rfl, hb⟩; refine ⟨_, rfl, ?_⟩; replace BK256 := Aside0.mk (blk_below (g := gb256) (o := .cells #[.int .i64 a0_0, .string a0_1, .string a0_2, .bool a0_3, .slice A0_4 l0_4.length c0_4, .string a0_5, .string a0_6, .slice (some ad257) l0_7.length c0_7] 29 (0, 0)) q8_ hb); replace BK258 := Aside0.mk (blk_below (g := gb258) (o := .cells #[.string ((rd_T44 l0_7 x12_1).f0), .int .i64 ((rd_T44 l0_7 x12_1).f1), .string ((rd_T44 l0_7 x12_1).f2)] 44 (0, 0)) q3_ hb); replace HB := Aside0.mk (below_step q2_ hb); (try clear hb); (try clear hb2); (try clear hk); (try clear hi)) | ((with_reducible refine gate_dst (N := 5) rfl ?_); (try (refine gate_guard (by rfl) ?_; dsimp only)); refine box_event ?hg (N := 5) ?hd (cs := #[.int .i64 0, .string (⟨#[]⟩ : ByteArray), .bool false, .string (⟨#[]⟩ : ByteArray), .int .i64 0, .int .i64 0, .int .i64 0, .int .i64 0, .bool false, .bool false, .int .i64 0, .int .i64 0]) (t := 51) ?hr ?_; (case hd => rfl); (case hg => rfl); (case hr => exact u0_); intro gb272 hg w13 hbox hb; have BK272 := Aside0.mk (hbox); have GW272 := Aside0.mk (((by rw [hg]; exact (below_size q2_)) : w.heap.size ≤ gb272)); have GE272 := Aside0.mk (((by rw [hg]; exact (below_size q2_)) : w.heap.size ≤ gb272)); replace HB := Aside0.mk (below_step q2_ hb); have NB256_272 := Aside0.mk ((q5_ : gb256 ≠ gb272)); have NB272_256 := Aside0.mk ((q6_ : gb272 ≠ gb256)); replace BK256 := Aside0.mk (blk_below (g := gb256) (o := .cells #[.int .i64 a0_0, .string a0_1, .string a0_2, .bool a0_3, .slice A0_4 l0_4.length c0_4, .string a0_5, .string a0_6, .slice (some ad257) l0_7.length c0_7] 29 (0, 0)) q1_ hb); have NB258_272 := Aside0.mk ((q12_ : gb258 ≠ gb272)); have NB272_258 := Aside0.mk ((q13_ : gb272 ≠ gb258)); replace BK258 := Aside0.mk (blk_below (g := gb258) (o := .cells #[.string ((rd_T44 l0_7 x12_1).f0), .int .i64 ((rd_T44 l0_7 x12_1).f1), .string ((rd_T44 l0_7 x12_1).f2)] 44 (0, 0)) q7_ hb); clear hb hbox hg; have hnb14 := NB272_256.out; have hnc14 := NB256_272.out; have hnb15 := NB272_258.out; have hnc15 := NB258_272.out; obtain ⟨hcz16_0, hcz16_1, hcz16_2, hcz16_3, hcz16_4, hcz16_5, hcz16_6, hcz16_7, hcz16_8, hcz16_9, hcz16_10, hcz16_11, hfz16_0, hfz16_1, hfz16_2, hfz16_3, hfz16_4, hfz16_5, hfz16_6, hfz16_7, hfz16_8, hfz16_9, hfz16_10, hfz16_11⟩ := cellsF12 BK272.out))
       go_roundg k1
       case measure => have := HK1.out; omega
       case rel => exact ⟨(wrap64 (x12_1 + 1)), q9_, H', ⟨(by have := HK1.out; omega)⟩, ⟨(by (with_reducible repeat (first | refine blk_drewN ?_ _ | refine blk_drew ?_ | refine blk_alloc ?_ _)); refine blk_far ?_ NB256_272.out _; (with_reducible repeat (first | refine blk_drewN ?_ _ | refine blk_drew ?_ | refine blk_alloc ?_ _)); refine blk_far ?_ NB256_272.out _; (with_reducible repeat (first | refine blk_drewN ?_ _ | refine blk_drew ?_ | refine blk_alloc ?_ _)); refine blk_far ?_ NB256_272.out _; (with_reducible repeat (first | refine blk_drewN ?_ _ | refine blk_drew ?_ | refine blk_alloc ?_ _)); refine blk_far ?_ NB256_272.out _; (with_reducible repeat (first | refine blk_drewN ?_ _ | refine blk_drew ?_ | refine blk_alloc ?_ _)); refine blk_far ?_ NB256_272.out _; (with_reducible repeat (first | refine blk_drewN ?_ _ | refine blk_drew ?_ | refine blk_alloc ?_ _)); refine blk_far ?_ NB256_272.out _; (with_reducible repeat (first | refine blk_drewN ?_ _ | refine blk_drew ?_ | refine blk_alloc ?_ _)); refine blk_far ?_ NB256_272.out _; (with_reducible repeat (first | refine blk_drewN ?_ _ | refine blk_drew ?_ | refine blk_alloc ?_ _)); refine blk_far ?_ NB256_272.out _; (with_reducible repeat (first | refine blk_drewN ?_ _ | refine blk_drew ?_ | refine blk_alloc ?_ _)); refine blk_far ?_ NB256_272.out _; (with_reducible repeat (first | refine blk_drewN ?_ _ | refine blk_drew ?_ | refine blk_alloc ?_ _)); refine blk_far ?_ NB256_272.out _; (with_reducible repeat (first | refine blk_drewN ?_ _ | refine blk_drew ?_ | refine blk_alloc ?_ _)); refine blk_far ?_ NB256_272.out _; (with_reducible repeat (first | refine blk_drewN ?_ _ | refine blk_drew ?_ | refine blk_alloc ?_ _)); refine blk_far ?_ NB256_272.out _; (with_reducible repeat (first | refine blk_drewN ?_ _ | refine blk_drew ?_ | refine blk_alloc ?_ _)); exact BK256.out)⟩, ⟨q11_⟩⟩
      ·replace c8 := Bool.eq_false_iff.mpr c8
       subst c8
       have H1 : (some false) = some r := by rw [if_neg (show ¬ (false = true) by decide)] at H; exact H
       clear H
       have H := H1
       clear H1
       obtain rfl := Option.some.inj H
       have p257 : 0 ≤ (x12_1 : Int) := of_decide_eq_true q14_
       have q257 : x12_1 < (l0_7.length : Int) := of_decide_eq_true q14_
       obtain ⟨ad257, e257, hx257_0, hx257_1, hx257_2⟩ := at_T44 HR0_7.out x12_1 p257 q257
       cases e257
       replace hx257_0 := (HB.out.cell (World.block_lt_of_cell? w _ hx257_0)).trans hx257_0
       replace hx257_1 := (HB.out.cell (World.block_lt_of_cell? w _ hx257_1)).trans hx257_1
       replace hx257_2 := (HB.out.cell (World.block_lt_of_cell? w _ hx257_2)).trans hx257_2
       replace p257 := eq_true p257
       replace q257 := eq_true q257
       go_wp2_with (first | ((with_reducible refine gate_dst (N := 4) rfl ?_); (try (refine gate_guard (by rfl) ?_; dsimp only)); refine box_event ?hg (N := 4) ?hd (cs := #[.string (⟨#[]⟩ : ByteArray), .int .i64 0, .string (⟨#[]⟩ : ByteArray)]) (t := 44) ?hr ?_; (case hd => rfl); (case hg => rfl); (case hr => exact u0_); intro gb258 hg w17 hbox hb; have BK258 := Aside0.mk (hbox); have GW258 := Aside0.mk (((by rw [hg]; exact (below_size q0_)) : w.heap.size ≤ gb258)); have GE258 := Aside0.mk (((by rw [hg]; exact (below_size q0_)) : w.heap.size ≤ gb258)); replace HB := Aside0.mk (below_step q0_ hb); have NB256_258 := Aside0.mk ((q5_ : gb256 ≠ gb258)); have NB258_256 := Aside0.mk ((q6_ : gb258 ≠ gb256)); replace BK256 := Aside0.mk (blk_below (g := gb256) (o := .cells #[.int .i64 a0_0, .string a0_1, .string a0_2, .bool a0_3, .slice A0_4 l0_4.length c0_4, .string a0_5, .string a0_6, .slice (some ad257) l0_7.length c0_7] 29 (0, 0)) q1_ hb); clear hb hbox hg; have hnb18 := NB258_256.out; have hnc18 := NB256_258.out; obtain ⟨hcz19_0, hcz19_1, hcz19_2, hfz19_0, hfz19_1, hfz19_2⟩ := cellsF3 BK258.out) | ((with_reducible refine gate_callee (f := 18) rfl ?_); refine goesL_ (some 18) rfl rfl Tryz.func18 (by kernel_rfl) rfl #[.agg #[.string ((rd_T44 l0_7 x12_1).f0), .int .i64 ((rd_T44 l0_7 x12_1).f1), .string ((rd_T44 l0_7 x12_1).f2)]] rfl q15_ ?_; (with_reducible refine (polyglotlaw18_Value.calls k1 ((rd_T44 l0_7 x12_1).f0) ((rd_T44 l0_7 x12_1).f1) ((rd_T44 l0_7 x12_1).f2) t259 t260 t261 t262 t263 t264 t265 t266 t267 t268 t269 t270 false _ A7.out).mono ?_); rintro e w20 ⟨rfl, hb⟩; refine ⟨_, rfl, ?_⟩; replace BK256 := Aside0.mk (blk_below (g := gb256) (o := .cells #[.int .i64 a0_0, .string a0_1, .string a0_2, .bool a0_3, .slice A0_4 l0_4.length c0_4, .string a0_5, .string a0_6, .slice (some ad257) l0_7.length c0_7] 29 (0, 0)) q8_ hb); replace BK258 := Aside0.mk (blk_below (g := gb258) (o := .cells #[.string ((rd_T44 l0_7 x12_1).f0), .int .i64 ((rd_T44 l0_7 x12_1).f1), .string ((rd_T44 l0_7 x12_1).f2)] 44 (0, 0)) q3_ hb); replace HB := Aside0.mk (below_step q2_ hb); (try clear hb); (try clear hb2); (try clear hk); (try clear hi)) | ((with_reducible refine gate_dst (N := 5) rfl ?_); (try (refine gate_guard (by rfl) ?_; dsimp only)); refine box_event ?hg (N := 5) ?hd (cs := #[.int .i64 0, .string (⟨#[]⟩ : ByteArray), .bool false, .string (⟨#[]⟩ : ByteArray), .int .i64 0, .int .i64 0, .int .i64 0, .int .i64 0, .bool false, .bool false, .int .i64 0, .int .i64 0]) (t := 51) ?hr ?_; (case hd => rfl); (case hg => rfl); (case hr => exact u0_); intro gb272 hg w21 hbox hb; have BK272 := Aside0.mk (hbox); have GW272 := Aside0.mk (((by rw [hg]; exact (below_size q2_)) : w.heap.size ≤ gb272)); have GE272 := Aside0.mk (((by rw [hg]; exact (below_size q2_)) : w.heap.size ≤ gb272)); replace HB := Aside0.mk (below_step q2_ hb); have NB256_272 := Aside0.mk ((q5_ : gb256 ≠ gb272)); have NB272_256 := Aside0.mk ((q6_ : gb272 ≠ gb256)); replace BK256 := Aside0.mk (blk_below (g := gb256) (o := .cells #[.int .i64 a0_0, .string a0_1, .string a0_2, .bool a0_3, .slice A0_4 l0_4.length c0_4, .string a0_5, .string a0_6, .slice (some ad257) l0_7.length c0_7] 29 (0, 0)) q1_ hb); have NB258_272 := Aside0.mk ((q12_ : gb258 ≠ gb272)); have NB272_258 := Aside0.mk ((q13_ : gb272 ≠ gb258)); replace BK258 := Aside0.mk (blk_below (g := gb258) (o := .cells #[.string ((rd_T44 l0_7 x12_1).f0), .int .i64 ((rd_T44 l0_7 x12_1).f1), .string ((rd_T44 l0_7 x12_1).f2)] 44 (0, 0)) q7_ hb); clear hb hbox hg; have hnb22 := NB272_256.out; have hnc22 := NB256_272.out; have hnb23 := NB272_258.out; have hnc23 := NB258_272.out; obtain ⟨hcz24_0, hcz24_1, hcz24_2, hcz24_3, hcz24_4, hcz24_5, hcz24_6, hcz24_7, hcz24_8, hcz24_9, hcz24_10, hcz24_11, hfz24_0, hfz24_1, hfz24_2, hfz24_3, hfz24_4, hfz24_5, hfz24_6, hfz24_7, hfz24_8, hfz24_9, hfz24_10, hfz24_11⟩ := cellsF12 BK272.out))
       go_ret
       exact ⟨q4_, q11_⟩
     ·rw [if_neg c6] at H
      exact absurd H (by simp)
    ·rw [if_neg c5] at H
     exact absurd H (by simp)
   ·rw [if_neg c4] at H
    have c4b0 : decide (x12_1 < (l0_7.length : Int)) = false := decide_eq_false c4
    clear c4
    have HC25 := Aside0.mk H
    clear H
    go_upto_region 8 with (fail)
    go_cut [7] (fun v7 wc => ∃ (kq : Nat) (x7_24 : Bool), v7 = .bool x7_24 ∧ Aside0 (polyglotlaw18_Right.j1 kq x7_24 a0_0 a0_1 a0_2 a0_3 l0_4 a0_5 a0_6 l0_7 = some r) ∧ Aside0 (kq ≤ k1) ∧ Aside0 (wc.heap[gb256]? = some (.cells #[.int .i64 a0_0, .string a0_1, .string a0_2, .bool a0_3, (.slice A0_4 l0_4.length c0_4), .string a0_5, .string a0_6, (.slice A0_7 l0_7.length c0_7)] 29 (0, 0))) ∧ Aside0 (Below w.heap.size w wc))
    case first =>
     have H := HC25.out
     clear HC25
     by_cases c26 : a0_5.toList = ([] : List UInt8)
     ·rw [if_pos c26] at H
      have c26b0 : (a0_5.toList == ([] : List UInt8)) = true := beq_iff_eq.mpr c26
      have c26b1 : (a0_5.toList != ([] : List UInt8)) = false := bne_eq_false_iff_eq.mpr c26
      clear c26
      (first | rw [c26b0] | (simp only [i64_w, i32_w]; rw [c26b0]) | skip)
      by_cases c27 : a0_6.toList = ([] : List UInt8)
      ·rw [if_pos c27] at H
       have c27b0 : (a0_6.toList == ([] : List UInt8)) = true := beq_iff_eq.mpr c27
       have c27b1 : (a0_6.toList != ([] : List UInt8)) = false := bne_eq_false_iff_eq.mpr c27
       clear c27
       have H' := Aside0.mk H
       clear H
       obtain ⟨hcz28_0, hcz28_1, hcz28_2, hcz28_3, hcz28_4, hcz28_5, hcz28_6, hcz28_7, hfz28_0, hfz28_1, hfz28_2, hfz28_3, hfz28_4, hfz28_5, hfz28_6, hfz28_7⟩ := cellsF8 BK256.out
       go_wp2
       go_meet
       case rel => exact ⟨_, (decide ((l0_7.length : Int) > 0)), q9_, H', ⟨(by have := HK1.out; first | omega | exact Nat.le_refl _)⟩, ⟨q1_⟩, ⟨q0_⟩⟩
      ·rw [if_neg c27] at H
       have c27b0 : (a0_6.toList == ([] : List UInt8)) = false := beq_eq_false_iff_ne.mpr c27
       have c27b1 : (a0_6.toList != ([] : List UInt8)) = true := bne_iff_ne.mpr c27
       have H' := Aside0.mk H
       clear H
       obtain ⟨hcz29_0, hcz29_1, hcz29_2, hcz29_3, hcz29_4, hcz29_5, hcz29_6, hcz29_7, hfz29_0, hfz29_1, hfz29_2, hfz29_3, hfz29_4, hfz29_5, hfz29_6, hfz29_7⟩ := cellsF8 BK256.out
       go_wp2
       go_meet
       case rel => exact ⟨_, (true), q9_, H', ⟨(by have := HK1.out; first | omega | exact Nat.le_refl _)⟩, ⟨q1_⟩, ⟨q0_⟩⟩
     ·rw [if_neg c26] at H
      have c26b0 : (a0_5.toList == ([] : List UInt8)) = false := beq_eq_false_iff_ne.mpr c26
      have c26b1 : (a0_5.toList != ([] : List UInt8)) = true := bne_iff_ne.mpr c26
      (first | rw [c26b0] | (simp only [i64_w, i32_w]; rw [c26b0]) | skip)
      have H' := Aside0.mk H
      clear H
      obtain ⟨hcz30_0, hcz30_1, hcz30_2, hcz30_3, hcz30_4, hcz30_5, hcz30_6, hcz30_7, hfz30_0, hfz30_1, hfz30_2, hfz30_3, hfz30_4, hfz30_5, hfz30_6, hfz30_7⟩ := cellsF8 BK256.out
      go_wp2
      go_meet
      case rel => exact ⟨_, (true), q9_, H', ⟨(by have := HK1.out; first | omega | exact Nat.le_refl _)⟩, ⟨q1_⟩, ⟨q0_⟩⟩
    case rest =>
     clear HC25
     try clear c1
     try clear c2
     try clear p2 p2
     try clear q2
     try clear hx2
     try clear c4
     try clear c4b0
     try clear c5
     try clear c5b0
     try clear c6
     try clear c6b0
     try clear p6
     try clear c8
     try clear c10
     try clear c12
     try clear c14
     try clear c15
     try clear c18
     try clear c22
     try clear c23
     try clear p25
     try clear q25
     try clear hx25
     try clear c26
     try clear c26b0
     try clear c26b1
     try clear c27
     try clear c27b0
     try clear c27b1
     try clear hcz11_0 hcz11_1 hcz11_2
     try clear hcz16_0 hcz16_1 hcz16_10 hcz16_11 hcz16_2 hcz16_3 hcz16_4 hcz16_5 hcz16_6 hcz16_7 hcz16_8 hcz16_9
     try clear hcz19_0 hcz19_1 hcz19_2
     try clear hcz24_0 hcz24_1 hcz24_10 hcz24_11 hcz24_2 hcz24_3 hcz24_4 hcz24_5 hcz24_6 hcz24_7 hcz24_8 hcz24_9
     try clear hcz28_0 hcz28_1 hcz28_2 hcz28_3 hcz28_4 hcz28_5 hcz28_6 hcz28_7
     try clear hcz29_0 hcz29_1 hcz29_2 hcz29_3 hcz29_4 hcz29_5 hcz29_6 hcz29_7
     try clear hcz30_0 hcz30_1 hcz30_2 hcz30_3 hcz30_4 hcz30_5 hcz30_6 hcz30_7
     try clear hcz3_0 hcz3_1 hcz3_2 hcz3_3 hcz3_4 hcz3_5 hcz3_6 hcz3_7
     try clear hfz11_0 hfz11_1 hfz11_2
     try clear hfz16_0 hfz16_1 hfz16_10 hfz16_11 hfz16_2 hfz16_3 hfz16_4 hfz16_5 hfz16_6 hfz16_7 hfz16_8 hfz16_9
     try clear hfz19_0 hfz19_1 hfz19_2
     try clear hfz24_0 hfz24_1 hfz24_10 hfz24_11 hfz24_2 hfz24_3 hfz24_4 hfz24_5 hfz24_6 hfz24_7 hfz24_8 hfz24_9
     try clear hfz28_0 hfz28_1 hfz28_2 hfz28_3 hfz28_4 hfz28_5 hfz28_6 hfz28_7
     try clear hfz29_0 hfz29_1 hfz29_2 hfz29_3 hfz29_4 hfz29_5 hfz29_6 hfz29_7
     try clear hfz30_0 hfz30_1 hfz30_2 hfz30_3 hfz30_4 hfz30_5 hfz30_6 hfz30_7
     try clear hfz3_0 hfz3_1 hfz3_2 hfz3_3 hfz3_4 hfz3_5 hfz3_6 hfz3_7
     try clear hx257_0
     try clear hx257_1
     try clear hx257_2
     try clear p257
     try clear q257
     obtain ⟨kq, x7_24, rfl, HA, HJ24, BK256, HB⟩ := hcut
     cases kq with
     | zero => exact absurd HA.out (by simp [polyglotlaw18_Right.j1])
     | succ kj24 =>
      have H := HA.out
      clear HA
      simp only [polyglotlaw18_Right.j1] at H
      have HC31 := Aside0.mk H
      clear H
      go_upto_region 9 with (fail)
      go_cut [8] (fun v8 wc => ∃ (kq : Nat) (x8_30 : Bool), v8 = .bool x8_30 ∧ Aside0 (polyglotlaw18_Right.j2 kq x7_24 x8_30 a0_0 a0_1 a0_2 a0_3 l0_4 a0_5 a0_6 l0_7 = some r) ∧ Aside0 (kq ≤ kj24) ∧ Aside0 (wc.heap[gb256]? = some (.cells #[.int .i64 a0_0, .string a0_1, .string a0_2, .bool a0_3, (.slice A0_4 l0_4.length c0_4), .string a0_5, .string a0_6, (.slice A0_7 l0_7.length c0_7)] 29 (0, 0))) ∧ Aside0 (Below w.heap.size w wc))
      case first =>
       have H := HC31.out
       clear HC31
       by_cases c32 : a0_2.toList = ([] : List UInt8)
       ·rw [if_pos c32] at H
        have c32b0 : (a0_2.toList == ([] : List UInt8)) = true := beq_iff_eq.mpr c32
        have c32b1 : (a0_2.toList != ([] : List UInt8)) = false := bne_eq_false_iff_eq.mpr c32
        clear c32
        (first | rw [c32b0] | (simp only [i64_w, i32_w]; rw [c32b0]) | skip)
        have H' := Aside0.mk H
        clear H
        obtain ⟨hcz33_0, hcz33_1, hcz33_2, hcz33_3, hcz33_4, hcz33_5, hcz33_6, hcz33_7, hfz33_0, hfz33_1, hfz33_2, hfz33_3, hfz33_4, hfz33_5, hfz33_6, hfz33_7⟩ := cellsF8 BK256.out
        go_wp2
        go_meet
        case rel => exact ⟨_, (a0_3), q9_, H', ⟨(by have := HK1.out; have := HJ24.out; first | omega | exact Nat.le_refl _)⟩, ⟨q1_⟩, ⟨q0_⟩⟩
       ·rw [if_neg c32] at H
        have c32b0 : (a0_2.toList == ([] : List UInt8)) = false := beq_eq_false_iff_ne.mpr c32
        have c32b1 : (a0_2.toList != ([] : List UInt8)) = true := bne_iff_ne.mpr c32
        (first | rw [c32b0] | (simp only [i64_w, i32_w]; rw [c32b0]) | skip)
        have H' := Aside0.mk H
        clear H
        obtain ⟨hcz34_0, hcz34_1, hcz34_2, hcz34_3, hcz34_4, hcz34_5, hcz34_6, hcz34_7, hfz34_0, hfz34_1, hfz34_2, hfz34_3, hfz34_4, hfz34_5, hfz34_6, hfz34_7⟩ := cellsF8 BK256.out
        go_wp2
        go_meet
        case rel => exact ⟨_, (true), q9_, H', ⟨(by have := HK1.out; have := HJ24.out; first | omega | exact Nat.le_refl _)⟩, ⟨q1_⟩, ⟨q0_⟩⟩
      case rest =>
       clear HC31
       try clear c1
       try clear c2
       try clear p2 p2
       try clear q2 q2
       try clear hx2
       try clear c3
       try clear c4
       try clear c4b0
       try clear c5
       try clear c5b0
       try clear c6
       try clear c6b0
       try clear p6 p6
       try clear c8
       try clear c10
       try clear c12
       try clear c14
       try clear c15
       try clear c18
       try clear c22
       try clear c23
       try clear p25 p25
       try clear q25 q25
       try clear hx25
       try clear c26
       try clear c26b0
       try clear c26b1
       try clear c27
       try clear c27b0
       try clear c27b1
       try clear c32
       try clear c32b0
       try clear c32b1
       try clear hcz11_0 hcz11_1 hcz11_2
       try clear hcz16_0 hcz16_1 hcz16_10 hcz16_11 hcz16_2 hcz16_3 hcz16_4 hcz16_5 hcz16_6 hcz16_7 hcz16_8 hcz16_9
       try clear hcz19_0 hcz19_1 hcz19_2
       try clear hcz24_0 hcz24_1 hcz24_10 hcz24_11 hcz24_2 hcz24_3 hcz24_4 hcz24_5 hcz24_6 hcz24_7 hcz24_8 hcz24_9
       try clear hcz28_0 hcz28_1 hcz28_2 hcz28_3 hcz28_4 hcz28_5 hcz28_6 hcz28_7
       try clear hcz29_0 hcz29_1 hcz29_2 hcz29_3 hcz29_4 hcz29_5 hcz29_6 hcz29_7
       try clear hcz30_0 hcz30_1 hcz30_2 hcz30_3 hcz30_4 hcz30_5 hcz30_6 hcz30_7
       try clear hcz33_0 hcz33_1 hcz33_2 hcz33_3 hcz33_4 hcz33_5 hcz33_6 hcz33_7
       try clear hcz34_0 hcz34_1 hcz34_2 hcz34_3 hcz34_4 hcz34_5 hcz34_6 hcz34_7
       try clear hcz3_0 hcz3_1 hcz3_2 hcz3_3 hcz3_4 hcz3_5 hcz3_6 hcz3_7
       try clear hfz11_0 hfz11_1 hfz11_2
       try clear hfz16_0 hfz16_1 hfz16_10 hfz16_11 hfz16_2 hfz16_3 hfz16_4 hfz16_5 hfz16_6 hfz16_7 hfz16_8 hfz16_9
       try clear hfz19_0 hfz19_1 hfz19_2
       try clear hfz24_0 hfz24_1 hfz24_10 hfz24_11 hfz24_2 hfz24_3 hfz24_4 hfz24_5 hfz24_6 hfz24_7 hfz24_8 hfz24_9
       try clear hfz28_0 hfz28_1 hfz28_2 hfz28_3 hfz28_4 hfz28_5 hfz28_6 hfz28_7
       try clear hfz29_0 hfz29_1 hfz29_2 hfz29_3 hfz29_4 hfz29_5 hfz29_6 hfz29_7
       try clear hfz30_0 hfz30_1 hfz30_2 hfz30_3 hfz30_4 hfz30_5 hfz30_6 hfz30_7
       try clear hfz33_0 hfz33_1 hfz33_2 hfz33_3 hfz33_4 hfz33_5 hfz33_6 hfz33_7
       try clear hfz34_0 hfz34_1 hfz34_2 hfz34_3 hfz34_4 hfz34_5 hfz34_6 hfz34_7
       try clear hfz3_0 hfz3_1 hfz3_2 hfz3_3 hfz3_4 hfz3_5 hfz3_6 hfz3_7
       try clear hx257_0
       try clear hx257_1
       try clear hx257_2
       try clear p257
       try clear q257
       obtain ⟨kq, x8_30, rfl, HA, HJ30, BK256, HB⟩ := hcut
       cases kq with
       | zero => exact absurd HA.out (by simp [polyglotlaw18_Right.j2])
       | succ kj30 =>
        have H := HA.out
        clear HA
        simp only [polyglotlaw18_Right.j2] at H
        by_cases c35 : a0_0 = 0
        ·rw [if_pos c35] at H
         have c35b0 : (a0_0 == 0) = true := beq_iff_eq.mpr c35
         have c35b1 : (a0_0 != 0) = false := bne_eq_false_iff_eq.mpr c35
         clear c35
         by_cases c36 : x7_24 = true
         ·subst c36
          have H1 : (some false) = some r := by rw [if_pos rfl] at H; exact H
          clear H
          have H := H1
          clear H1
          obtain rfl := Option.some.inj H
          obtain ⟨hcz37_0, hcz37_1, hcz37_2, hcz37_3, hcz37_4, hcz37_5, hcz37_6, hcz37_7, hfz37_0, hfz37_1, hfz37_2, hfz37_3, hfz37_4, hfz37_5, hfz37_6, hfz37_7⟩ := cellsF8 BK256.out
          go_wp2
          go_ret
          exact ⟨q4_, q0_⟩
         ·replace c36 := Bool.eq_false_iff.mpr c36
          subst c36
          have H1 : (some ((l0_4.length : Int) == 0)) = some r := by rw [if_neg (show ¬ (false = true) by decide)] at H; exact H
          clear H
          have H := H1
          clear H1
          obtain rfl := Option.some.inj H
          obtain ⟨hcz38_0, hcz38_1, hcz38_2, hcz38_3, hcz38_4, hcz38_5, hcz38_6, hcz38_7, hfz38_0, hfz38_1, hfz38_2, hfz38_3, hfz38_4, hfz38_5, hfz38_6, hfz38_7⟩ := cellsF8 BK256.out
          go_wp2
          go_ret
          exact ⟨q4_, q0_⟩
        ·rw [if_neg c35] at H
         have c35b0 : (a0_0 == 0) = false := beq_eq_false_iff_ne.mpr c35
         have c35b1 : (a0_0 != 0) = true := bne_iff_ne.mpr c35
         by_cases c39 : a0_0 = 1
         ·rw [if_pos c39] at H
          have c39b0 : (a0_0 == 1) = true := beq_iff_eq.mpr c39
          have c39b1 : (a0_0 != 1) = false := bne_eq_false_iff_eq.mpr c39
          clear c39
          by_cases c40 : x7_24 = true
          ·subst c40
           have H1 : (some false) = some r := by rw [if_pos rfl] at H; exact H
           clear H
           have H := H1
           clear H1
           obtain rfl := Option.some.inj H
           obtain ⟨hcz41_0, hcz41_1, hcz41_2, hcz41_3, hcz41_4, hcz41_5, hcz41_6, hcz41_7, hfz41_0, hfz41_1, hfz41_2, hfz41_3, hfz41_4, hfz41_5, hfz41_6, hfz41_7⟩ := cellsF8 BK256.out
           go_wp2
           go_ret
           exact ⟨q4_, q0_⟩
          ·replace c40 := Bool.eq_false_iff.mpr c40
           subst c40
           have H1 : (some (!x8_30)) = some r := by rw [if_neg (show ¬ (false = true) by decide)] at H; exact H
           clear H
           have H := H1
           clear H1
           obtain rfl := Option.some.inj H
           obtain ⟨hcz42_0, hcz42_1, hcz42_2, hcz42_3, hcz42_4, hcz42_5, hcz42_6, hcz42_7, hfz42_0, hfz42_1, hfz42_2, hfz42_3, hfz42_4, hfz42_5, hfz42_6, hfz42_7⟩ := cellsF8 BK256.out
           go_wp2
           go_ret
           exact ⟨q4_, q0_⟩
         ·rw [if_neg c39] at H
          have c39b0 : (a0_0 == 1) = false := beq_eq_false_iff_ne.mpr c39
          have c39b1 : (a0_0 != 1) = true := bne_iff_ne.mpr c39
          by_cases c43 : a0_0 = 2
          ·rw [if_pos c43] at H
           have c43b0 : (a0_0 == 2) = true := beq_iff_eq.mpr c43
           have c43b1 : (a0_0 != 2) = false := bne_eq_false_iff_eq.mpr c43
           clear c43
           by_cases c44 : x8_30 = true
           ·subst c44
            have H1 : (some false) = some r := by rw [if_pos rfl] at H; exact H
            clear H
            have H := H1
            clear H1
            obtain rfl := Option.some.inj H
            obtain ⟨hcz45_0, hcz45_1, hcz45_2, hcz45_3, hcz45_4, hcz45_5, hcz45_6, hcz45_7, hfz45_0, hfz45_1, hfz45_2, hfz45_3, hfz45_4, hfz45_5, hfz45_6, hfz45_7⟩ := cellsF8 BK256.out
            go_wp2
            go_ret
            exact ⟨q4_, q0_⟩
           ·replace c44 := Bool.eq_false_iff.mpr c44
            subst c44
            have H1 : (if a0_1.toList = ([] : List UInt8) then (some ((l0_4.length : Int) == 0)) else (some false)) = some r := by rw [if_neg (show ¬ (false = true) by decide)] at H; exact H
            clear H
            have H := H1
            clear H1
            by_cases c46 : a0_1.toList = ([] : List UInt8)
            ·rw [if_pos c46] at H
             have c46b0 : (a0_1.toList == ([] : List UInt8)) = true := beq_iff_eq.mpr c46
             have c46b1 : (a0_1.toList != ([] : List UInt8)) = false := bne_eq_false_iff_eq.mpr c46
             clear c46
             obtain rfl := Option.some.inj H
             obtain ⟨hcz47_0, hcz47_1, hcz47_2, hcz47_3, hcz47_4, hcz47_5, hcz47_6, hcz47_7, hfz47_0, hfz47_1, hfz47_2, hfz47_3, hfz47_4, hfz47_5, hfz47_6, hfz47_7⟩ := cellsF8 BK256.out
             go_wp2
             go_ret
             exact ⟨q4_, q0_⟩
            ·rw [if_neg c46] at H
             have c46b0 : (a0_1.toList == ([] : List UInt8)) = false := beq_eq_false_iff_ne.mpr c46
             have c46b1 : (a0_1.toList != ([] : List UInt8)) = true := bne_iff_ne.mpr c46
             obtain rfl := Option.some.inj H
             obtain ⟨hcz48_0, hcz48_1, hcz48_2, hcz48_3, hcz48_4, hcz48_5, hcz48_6, hcz48_7, hfz48_0, hfz48_1, hfz48_2, hfz48_3, hfz48_4, hfz48_5, hfz48_6, hfz48_7⟩ := cellsF8 BK256.out
             go_wp2
             go_ret
             exact ⟨q4_, q0_⟩
          ·rw [if_neg c43] at H
           have c43b0 : (a0_0 == 2) = false := beq_eq_false_iff_ne.mpr c43
           have c43b1 : (a0_0 != 2) = true := bne_iff_ne.mpr c43
           obtain rfl := Option.some.inj H
           obtain ⟨hcz49_0, hcz49_1, hcz49_2, hcz49_3, hcz49_4, hcz49_5, hcz49_6, hcz49_7, hfz49_0, hfz49_1, hfz49_2, hfz49_3, hfz49_4, hfz49_5, hfz49_6, hfz49_7⟩ := cellsF8 BK256.out
           go_wp2
           go_ret
           exact ⟨q4_, q0_⟩
end Go.Proofs.YtdhpcofnddkcaaaGreatDoor.S
namespace Go.Proofs.YtdhpcofnddkcaaaGreatDoor.S
open Go.RowKit Go.Proofs.YtdhpcofnddkcaaaGreatDoor.G Go.Proofs.YtdhpcofnddkcaaaGreatDoorW.PrintWords Go.Proofs.YtdhpcofnddkcaaaGreatDoorW.PrintLast Go.Proofs.YtdhpcofnddkcaaaGreatDoorW.PrintMore
attribute [local go_sem] max2_int min2_int max_two min_two max_three min_three max_four min_four
set_option linter.unusedVariables false
set_option linter.unusedSimpArgs false
def polyglotlaw18_text.f (a0 : ByteArray) : Option (ByteArray) := (strconv_Itoa.f (a0.size : Int)).bind fun t273 => (if t273.size + 1 ≤ 9223372036854775807 then (if (t273 ++ (⟨#[58]⟩ : ByteArray)).size + a0.size ≤ 9223372036854775807 then (if ((t273 ++ (⟨#[58]⟩ : ByteArray)) ++ a0).size + 1 ≤ 9223372036854775807 then (some (((t273 ++ (⟨#[58]⟩ : ByteArray)) ++ a0) ++ (⟨#[44]⟩ : ByteArray))) else (none)) else (none)) else (none))
set_option maxHeartbeats 8000000 in
set_option maxRecDepth 100000 in
theorem polyglotlaw18_text.calls (a0 : ByteArray) (r : ByteArray) (w : World) (h : polyglotlaw18_text.f a0 = some r) (HP0_ : TabP_ w := by exact TabP_.step HP0_ (by repeat (first | (with_reducible first | exact HB.out | apply below_alloc | apply pw_below_drewN | apply below_drew1 | refine below_set ?_ (Aside0.out (by assumption))) | exact HB.out))) :
    Calls Tryz.prog 19 #[.string a0] w fun e w' => e = .returned (.string r) ∧ Below w.heap.size w w' := by
  have HB := Aside0.mk (Below.refl w.heap.size w)
  have H : ((strconv_Itoa.f (a0.size : Int)).bind fun t273 => (if t273.size + 1 ≤ 9223372036854775807 then (if (t273 ++ (⟨#[58]⟩ : ByteArray)).size + a0.size ≤ 9223372036854775807 then (if ((t273 ++ (⟨#[58]⟩ : ByteArray)) ++ a0).size + 1 ≤ 9223372036854775807 then (some (((t273 ++ (⟨#[58]⟩ : ByteArray)) ++ a0) ++ (⟨#[44]⟩ : ByteArray))) else (none)) else (none)) else (none))) = some r := h
  clear h
  replace H := Option.bind_eq_some_iff.mp H
  obtain ⟨t273, A20, H⟩ := H
  replace H : (if t273.size + 1 ≤ 9223372036854775807 then (if (t273 ++ (⟨#[58]⟩ : ByteArray)).size + a0.size ≤ 9223372036854775807 then (if ((t273 ++ (⟨#[58]⟩ : ByteArray)) ++ a0).size + 1 ≤ 9223372036854775807 then (some (((t273 ++ (⟨#[58]⟩ : ByteArray)) ++ a0) ++ (⟨#[44]⟩ : ByteArray))) else (none)) else (none)) else (none)) = some r := H
  have A2 := Aside0.mk A20
  clear A20
  by_cases c3 : t273.size + 1 ≤ 9223372036854775807
  · rw [if_pos c3] at H
    have c3b0 := eq_true c3
    have c3b1 : decide (t273.size + 1 ≤ 9223372036854775807) = true := decide_eq_true c3
    try have c3b2 : (9223372036854775807 < t273.size + 1) = False := eq_false (Nat.not_lt.2 c3)
    by_cases c4 : (t273 ++ (⟨#[58]⟩ : ByteArray)).size + a0.size ≤ 9223372036854775807
    · rw [if_pos c4] at H
      have c4b0 := eq_true c4
      try have c4n := c4
      try simp only [ByteArray.size_append, show (⟨#[58]⟩ : ByteArray).size = 1 from rfl] at c4n
      try have c4m := eq_false (Nat.not_lt.2 c4n)
      try have c4k := eq_true c4n
      have c4b1 : decide ((t273 ++ (⟨#[58]⟩ : ByteArray)).size + a0.size ≤ 9223372036854775807) = true := decide_eq_true c4
      try have c4b2 : (9223372036854775807 < (t273 ++ (⟨#[58]⟩ : ByteArray)).size + a0.size) = False := eq_false (Nat.not_lt.2 c4)
      by_cases c5 : ((t273 ++ (⟨#[58]⟩ : ByteArray)) ++ a0).size + 1 ≤ 9223372036854775807
      · rw [if_pos c5] at H
        have c5b0 := eq_true c5
        try have c5n := c5
        try simp only [ByteArray.size_append, show (⟨#[58]⟩ : ByteArray).size = 1 from rfl] at c5n
        try have c5m := eq_false (Nat.not_lt.2 c5n)
        try have c5k := eq_true c5n
        have c5b1 : decide (((t273 ++ (⟨#[58]⟩ : ByteArray)) ++ a0).size + 1 ≤ 9223372036854775807) = true := decide_eq_true c5
        try have c5b2 : (9223372036854775807 < ((t273 ++ (⟨#[58]⟩ : ByteArray)) ++ a0).size + 1) = False := eq_false (Nat.not_lt.2 c5)
        obtain rfl := Option.some.inj H
        go_enter Tryz.func19, Tryz.ntmps19
        go_wp2_with (first | ((with_reducible refine gate_callee (f := 20) rfl ?_); refine goesL_ (some 5) rfl rfl Tryz.func20 (by kernel_rfl) rfl #[.int .i64 (a0.size : Int)] rfl (by (try simp only [List.map_toArray, List.map_cons, List.map_nil]); first | done | rfl | (simp only [List.length_drop, List.length_take]; rfl)) ?_; (with_reducible refine (strconv_Itoa.calls (a0.size : Int) t273 _ A2.out).mono ?_); rintro e w6 ⟨rfl, hb⟩; refine ⟨_, rfl, ?_⟩; have n0_ := Aside0.mk (below_step (by repeat (first | (with_reducible first | exact HB.out | apply below_alloc | apply pw_below_drewN | apply below_drew1) | exact HB.out)) hb); clear HB; have HB := n0_; clear n0_; (try clear hb); (try clear hb2); (try clear hk); (try clear hi)))
        go_ret
        exact ⟨by first | rfl | (simp [errW_none, errW_some] <;> rfl) | (simp [*, errW_none, errW_some] <;> rfl), by repeat (first | (with_reducible first | exact HB.out | apply below_alloc | apply pw_below_drewN | apply below_drew1) | exact HB.out)⟩
      · rw [if_neg c5] at H
        exact absurd H (by simp)
    · rw [if_neg c4] at H
      exact absurd H (by simp)
  · rw [if_neg c3] at H
    exact absurd H (by simp)
end Go.Proofs.YtdhpcofnddkcaaaGreatDoor.S
namespace Go.Proofs.YtdhpcofnddkcaaaGreatDoor.S
open Go.RowKit Go.Proofs.YtdhpcofnddkcaaaGreatDoor.G Go.Proofs.YtdhpcofnddkcaaaGreatDoorW.PrintWords Go.Proofs.YtdhpcofnddkcaaaGreatDoorW.PrintLast Go.Proofs.YtdhpcofnddkcaaaGreatDoorW.PrintMore
set_option linter.unusedVariables false
set_option linter.unusedSimpArgs false
theorem lright_end (s : S29) (k : Nat) (hk : 3 ≤ k) (l : List S44) (n i : Int) (hi : ¬ i < n) : polyglotlaw18_Right.l0 k l n i s.f0 s.f1 s.f2 s.f3 s.f4 s.f5 s.f6 s.f7 = some (shapeS s) := by
  obtain ⟨m, rfl⟩ : ∃ m, k = m + 1 + 1 + 1 := ⟨k - 3, by omega⟩
  have h4 : (s.f4.length : Int) = 0 ∨ (s.f4.length : Int) > 0 := by omega
  have h7 : (s.f7.length : Int) = 0 ∨ (s.f7.length : Int) > 0 := by omega
  rw [polyglotlaw18_Right.l0, if_neg hi]
  simp only [polyglotlaw18_Right.j1, polyglotlaw18_Right.j2]
  unfold shapeS
  simp only [em_iff, map_nil_iff, len_nil_iff]
  generalize (s.f7.length : Int) = n7 at *
  generalize (s.f4.length : Int) = n4 at *
  obtain ⟨f0, f1, f2, f3, f4, f5, f6, f7⟩ := s
  have e7 : (n7 > 0) = ¬ (n7 = 0) := by
    rw [eq_iff_iff]
    omega
  simp only [e7] at *
  have hf : f0 = 0 ∨ f0 = 1 ∨ f0 = 2 ∨ (f0 ≠ 0 ∧ f0 ≠ 1 ∧ f0 ≠ 2) := by omega
  rcases hf with rfl | rfl | rfl | ⟨g0, g1, g2⟩
  · by_cases c4 : n4 = 0 <;> by_cases c5 : f5.toList = [] <;> by_cases c6 : f6.toList = [] <;> by_cases c7 : n7 = 0 <;> by_cases c2 : f2.toList = [] <;> simp [c2, c4, c5, c6, c7]
  · cases f3 <;> by_cases c2 : f2.toList = [] <;> by_cases c5 : f5.toList = [] <;> by_cases c6 : f6.toList = [] <;> by_cases c7 : n7 = 0 <;> simp [c2, c5, c6, c7]
  · cases f3 <;> by_cases c2 : f2.toList = [] <;> by_cases c1 : f1.toList = [] <;> by_cases c4 : n4 = 0 <;> by_cases c5 : f5.toList = [] <;> by_cases c6 : f6.toList = [] <;> simp [c1, c2, c4, c5, c6]
  · by_cases c2 : f2.toList = [] <;> by_cases c5 : f5.toList = [] <;> by_cases c6 : f6.toList = [] <;> simp [c2, c5, c6, g0, g1, g2]
theorem lright_all (s : S29) (l : List S44) (hl : l.length ≤ 1000000) (k0 : Nat) (hv : ∀ k, k0 ≤ k → ∀ a ∈ l, polyglotlaw18_Value.f k a.f0 a.f1 a.f2 = some (valF a.f1 a.f2)) : ∀ (d i : Nat), l.length - i ≤ d → i ≤ l.length → ∀ k, k0 + d + 3 ≤ k →
    polyglotlaw18_Right.l0 k l (l.length : Int) (i : Int) s.f0 s.f1 s.f2 s.f3 s.f4 s.f5 s.f6 s.f7 = some ((l.drop i).all okS && shapeS s) := by
  intro d
  induction d with
  | zero =>
    intro i h1 h2 k hk
    rw [lright_end s k (by omega) _ _ _ (by omega), List.drop_of_length_le (by omega)]
    rfl
  | succ d ih =>
    intro i h1 h2 k hk
    by_cases hi : i < l.length
    · obtain ⟨m, rfl⟩ : ∃ m, k = m + 1 := ⟨k - 1, by omega⟩
      rw [polyglotlaw18_Right.l0, if_pos (by omega), if_pos (by omega), if_pos (by omega), rd44 l i hi, hv m (by omega) _ (List.getElem_mem hi), Option.bind_some, flag_ok, drop_all l i hi]
      cases h : okS l[i]
      · rfl
      · rw [if_pos rfl, w64 _ (by omega) (by omega), show (i : Int) + 1 = ((i + 1 : Nat) : Int) by omega, ih (i + 1) (by omega) (by omega) m (by omega)]
        rfl
    · rw [lright_end s k (by omega) _ _ _ (by omega), List.drop_of_length_le (by omega)]
      rfl
theorem lright_f (s : S29) (hl : s.f7.length ≤ 1000000) (hs : ∀ a ∈ s.f7, a.f2.size ≤ 100000) : ∃ k0, ∀ k, k0 ≤ k → polyglotlaw18_Right.f k s.f0 s.f1 s.f2 s.f3 s.f4 s.f5 s.f6 s.f7 = some (rightS s) := by
  obtain ⟨k0, hv⟩ := lright_loop s.f7 hl hs
  refine ⟨k0 + s.f7.length + 3, fun k hk => ?_⟩
  unfold polyglotlaw18_Right.f
  have := lright_all s s.f7 hl k0 hv s.f7.length 0 (by omega) (by omega) k hk
  rw [List.drop_zero] at this
  rw [rightS_eq]
  exact this
theorem text_f (t : ByteArray) (ht : t.size ≤ 1000000) : polyglotlaw18_text.f t = some (Net.bs (Net.encB t)) := by
  have hz : t.size = (bl t).length := sz t
  have hz : t.size = (bl t).length := sz t
  unfold polyglotlaw18_text.f strconv_Itoa.f
  rw [if_pos (by omega), Option.bind_some, Lib.itoa_nonneg]
  have hd : (Lib.decDigits t.size).length ≤ 20 := dig20 t.size ht
  have h1 : (⟨(Lib.decDigits t.size).toArray⟩ : ByteArray).size = (Lib.decDigits t.size).length := sz _
  rw [if_pos (by rw [h1]; omega), if_pos (by rw [sz_app, h1]; show _ + 1 + _ ≤ _; omega), if_pos (by rw [sz_app, sz_app, h1]; show _ + 1 + _ + 1 ≤ _; omega)]
  refine congrArg some (ba_ext ?_)
  rw [bl_app, bl_app, bl_app]
  show Lib.decDigits t.size ++ [58] ++ bl t ++ [44] = bl (Net.bs (Net.encB t))
  have : bl (Net.bs (Net.encB t)) = Net.encB t := Net.lb_bs _
  rw [this]
  unfold Net.encB Net.enc
  rw [hz]
  simp
end Go.Proofs.YtdhpcofnddkcaaaGreatDoor.S
namespace Go.Proofs.YtdhpcofnddkcaaaGreatDoor.S
open Go.RowKit Go.Proofs.YtdhpcofnddkcaaaGreatDoor.G Go.Proofs.YtdhpcofnddkcaaaGreatDoorW.PrintWords Go.Proofs.YtdhpcofnddkcaaaGreatDoorW.PrintLast Go.Proofs.YtdhpcofnddkcaaaGreatDoorW.PrintMore
attribute [local go_sem] max2_int min2_int max_two min_two max_three min_three max_four min_four
set_option linter.unusedVariables false
set_option linter.unusedSimpArgs false
namespace Sx15
theorem cells3 {w : World} {g : Nat} {t : TypeId} {a0 a1 a2 : Value} (h : w.heap[g]? = some (.cells #[a0, a1, a2] t (0, 0))) : w.cell? ⟨g, 0, none⟩ = some a0 ∧ w.cell? ⟨g, 1, none⟩ = some a1 ∧ w.cell? ⟨g, 2, none⟩ = some a2 := ⟨(blk_cell h 0).trans rfl, (blk_cell h 1).trans rfl, (blk_cell h 2).trans rfl⟩
theorem cellsF3 {w : World} {g : Nat} {t : TypeId} {a0 a1 a2 : Value} (h : w.heap[g]? = some (.cells #[a0, a1, a2] t (0, 0))) : w.cell? ⟨g, 0, none⟩ = some a0 ∧ w.cell? ⟨g, 1, none⟩ = some a1 ∧ w.cell? ⟨g, 2, none⟩ = some a2 ∧ w.frozen? ⟨g, 0, none⟩ = false ∧ w.frozen? ⟨g, 1, none⟩ = false ∧ w.frozen? ⟨g, 2, none⟩ = false := ⟨(blk_cell h 0).trans rfl, (blk_cell h 1).trans rfl, (blk_cell h 2).trans rfl, blk_frozen h 0, blk_frozen h 1, blk_frozen h 2⟩
theorem cells8 {w : World} {g : Nat} {t : TypeId} {a0 a1 a2 a3 a4 a5 a6 a7 : Value} (h : w.heap[g]? = some (.cells #[a0, a1, a2, a3, a4, a5, a6, a7] t (0, 0))) : w.cell? ⟨g, 0, none⟩ = some a0 ∧ w.cell? ⟨g, 1, none⟩ = some a1 ∧ w.cell? ⟨g, 2, none⟩ = some a2 ∧ w.cell? ⟨g, 3, none⟩ = some a3 ∧ w.cell? ⟨g, 4, none⟩ = some a4 ∧ w.cell? ⟨g, 5, none⟩ = some a5 ∧ w.cell? ⟨g, 6, none⟩ = some a6 ∧ w.cell? ⟨g, 7, none⟩ = some a7 := ⟨(blk_cell h 0).trans rfl, (blk_cell h 1).trans rfl, (blk_cell h 2).trans rfl, (blk_cell h 3).trans rfl, (blk_cell h 4).trans rfl, (blk_cell h 5).trans rfl, (blk_cell h 6).trans rfl, (blk_cell h 7).trans rfl⟩
theorem cellsF8 {w : World} {g : Nat} {t : TypeId} {a0 a1 a2 a3 a4 a5 a6 a7 : Value} (h : w.heap[g]? = some (.cells #[a0, a1, a2, a3, a4, a5, a6, a7] t (0, 0))) : w.cell? ⟨g, 0, none⟩ = some a0 ∧ w.cell? ⟨g, 1, none⟩ = some a1 ∧ w.cell? ⟨g, 2, none⟩ = some a2 ∧ w.cell? ⟨g, 3, none⟩ = some a3 ∧ w.cell? ⟨g, 4, none⟩ = some a4 ∧ w.cell? ⟨g, 5, none⟩ = some a5 ∧ w.cell? ⟨g, 6, none⟩ = some a6 ∧ w.cell? ⟨g, 7, none⟩ = some a7 ∧ w.frozen? ⟨g, 0, none⟩ = false ∧ w.frozen? ⟨g, 1, none⟩ = false ∧ w.frozen? ⟨g, 2, none⟩ = false ∧ w.frozen? ⟨g, 3, none⟩ = false ∧ w.frozen? ⟨g, 4, none⟩ = false ∧ w.frozen? ⟨g, 5, none⟩ = false ∧ w.frozen? ⟨g, 6, none⟩ = false ∧ w.frozen? ⟨g, 7, none⟩ = false := ⟨(blk_cell h 0).trans rfl, (blk_cell h 1).trans rfl, (blk_cell h 2).trans rfl, (blk_cell h 3).trans rfl, (blk_cell h 4).trans rfl, (blk_cell h 5).trans rfl, (blk_cell h 6).trans rfl, (blk_cell h 7).trans rfl, blk_frozen h 0, blk_frozen h 1, blk_frozen h 2, blk_frozen h 3, blk_frozen h 4, blk_frozen h 5, blk_frozen h 6, blk_frozen h 7⟩
theorem q0_ {p_ : Prop} (h_ : p_ := by repeat (first | (with_reducible first | exact HB.out | apply below_alloc | apply pw_below_drewN | apply below_drew1 | refine below_set ?_ GE274.out) | exact HB.out)) : p_ := h_
theorem q1_ {p_ : Prop} (h_ : p_ := by (with_reducible repeat (first | refine blk_drewN ?_ _ | refine blk_drew ?_ | refine blk_alloc ?_ _)); exact BK274.out) : p_ := h_
theorem q2_ {p_ : Prop} (h_ : p_ := by repeat (first | (with_reducible first | exact HB.out | apply below_alloc | apply pw_below_drewN | apply below_drew1 | refine below_set ?_ GE274.out | refine below_set ?_ GE291.out) | exact HB.out)) : p_ := h_
theorem q3_ {p_ : Prop} (h_ : p_ := by (try simp only [List.map_toArray, List.map_cons, List.map_nil]); first | done | rfl | (simp only [List.length_drop, List.length_take]; rfl)) : p_ := h_
theorem q4_ {p_ : Prop} (h_ : p_ := by repeat (first | (with_reducible first | exact HB.out | apply below_alloc | apply pw_below_drewN | apply below_drew1) | exact HB.out)) : p_ := h_
theorem q5_ {p_ : Prop} (h_ : p_ := by (with_reducible repeat (first | refine blk_drewN ?_ _ | refine blk_drew ?_ | refine blk_alloc ?_ _)); exact BK291.out) : p_ := h_
theorem q6_ {p_ : Prop} (h_ : p_ := by (with_reducible repeat (first | apply Kd.R_alloc | apply Kd.R_drewN | apply Kd.R_drew)); exact HO295.out) : p_ := h_
theorem q7_ {p_ : Prop} (h_ : p_ := by first | rfl | (simp; done) | (simp [*]; done)) : p_ := h_
theorem q8_ {p_ : Prop} (h_ : p_ := by first | (with_reducible assumption) | assumption) : p_ := h_
theorem q9_ {p_ : Prop} (h_ : p_ := by first | rfl | (simp [errW_none, errW_some] <;> rfl) | (simp [*, errW_none, errW_some] <;> rfl)) : p_ := h_
theorem q10_ {p_ : Prop} (h_ : p_ := by rw [hg]; exact (below_size q4_)) : p_ := h_
theorem u0_ {p_ : Prop} (h_ : p_ := by first | (go_simp; done) | (go_simp; rfl)) : p_ := h_
end Sx15
open Sx15
mutual
def polyglotlaw18_Bytes.j0 : Nat → ByteArray → Int → ByteArray → ByteArray → Bool → List ByteArray → ByteArray → ByteArray → List (S44) → Option (ByteArray)
 | 0, _, _, _, _, _, _, _, _, _ => none
 | k + 1, x3, x275000, x275001, x275002, x275003, x275004, x275005, x275006, x275007 => (polyglotlaw18_text.f (⟨#[97]⟩ : ByteArray)).bind fun t275 => ((polyglotlaw18_text.f x275001).bind fun t276 => (if t275.size + t276.size ≤ 9223372036854775807 then ((polyglotlaw18_text.f x3).bind fun t277 => (if (t275 ++ t276).size + t277.size ≤ 9223372036854775807 then ((polyglotlaw18_text.f x275002).bind fun t278 => (if ((t275 ++ t276) ++ t277).size + t278.size ≤ 9223372036854775807 then (some (((t275 ++ t276) ++ t277) ++ t278)) else (none))) else (none))) else (none)))
def polyglotlaw18_Bytes.l0 : Nat → ByteArray → List ByteArray → Int → Int → Option (ByteArray)
 | 0, _, _, _, _ => none
 | k + 1, x4, x42, x43, x44 => if x44 < x43 then (if 0 ≤ x44 then (if x44 < (x42.length : Int) then ((polyglotlaw18_text.f (rdOf ByteArray.empty x42 x44)).bind fun t284 => (if x4.size + t284.size ≤ 9223372036854775807 then (polyglotlaw18_Bytes.l0 k (x4 ++ t284) x42 x43 (wrap64 (x44 + 1))) else (none))) else (none)) else (none)) else (some x4)
def polyglotlaw18_Bytes.l1 : Nat → ByteArray → List (S44) → Int → Int → Option (ByteArray)
 | 0, _, _, _, _ => none
 | k + 1, x7, x70, x71, x72 => if x72 < x71 then (if 0 ≤ x72 then (if x72 < (x70.length : Int) then ((polyglotlaw18_text.f ((rd_T44 x70 x72).f0)).bind fun t292 => (if x7.size + t292.size ≤ 9223372036854775807 then ((some (([(⟨#[116]⟩ : ByteArray), (⟨#[110]⟩ : ByteArray), (⟨#[109]⟩ : ByteArray)] : List ByteArray) : List ByteArray)).bind fun y293 => (if 0 ≤ ((rd_T44 x70 x72).f1) then (if ((rd_T44 x70 x72).f1) < (y293.length : Int) then ((polyglotlaw18_text.f (rdOf ByteArray.empty y293 ((rd_T44 x70 x72).f1))).bind fun t297 => (if (x7 ++ t292).size + t297.size ≤ 9223372036854775807 then ((polyglotlaw18_text.f ((rd_T44 x70 x72).f2)).bind fun t298 => (if ((x7 ++ t292) ++ t297).size + t298.size ≤ 9223372036854775807 then (polyglotlaw18_Bytes.l1 k (((x7 ++ t292) ++ t297) ++ t298) x70 x71 (wrap64 (x72 + 1))) else (none))) else (none))) else (none)) else (none))) else (none))) else (none)) else (none)) else (some x7)
end
def polyglotlaw18_Bytes.f (k : Nat) (a0_0 : Int) (a0_1 : ByteArray) (a0_2 : ByteArray) (a0_3 : Bool) (l0_4 : List ByteArray) (a0_5 : ByteArray) (a0_6 : ByteArray) (l0_7 : List (S44)) : Option (ByteArray) := if a0_0 = 0 then (if a0_3 = true then (polyglotlaw18_Bytes.j0 k (⟨#[49]⟩ : ByteArray) a0_0 a0_1 a0_2 a0_3 l0_4 a0_5 a0_6 l0_7) else (polyglotlaw18_Bytes.j0 k (⟨#[48]⟩ : ByteArray) a0_0 a0_1 a0_2 a0_3 l0_4 a0_5 a0_6 l0_7)) else (if a0_0 = 1 then ((polyglotlaw18_text.f (⟨#[99]⟩ : ByteArray)).bind fun t279 => ((polyglotlaw18_text.f a0_1).bind fun t280 => (if t279.size + t280.size ≤ 9223372036854775807 then ((strconv_Itoa.f (l0_4.length : Int)).bind fun t281 => ((polyglotlaw18_text.f t281).bind fun t282 => (if (t279 ++ t280).size + t282.size ≤ 9223372036854775807 then (polyglotlaw18_Bytes.l0 k ((t279 ++ t280) ++ t282) l0_4 (l0_4.length : Int) 0) else (none)))) else (none)))) else ((polyglotlaw18_text.f (⟨#[113]⟩ : ByteArray)).bind fun t285 => ((polyglotlaw18_text.f a0_5).bind fun t286 => (if t285.size + t286.size ≤ 9223372036854775807 then ((polyglotlaw18_text.f a0_6).bind fun t287 => (if (t285 ++ t286).size + t287.size ≤ 9223372036854775807 then ((strconv_Itoa.f (l0_7.length : Int)).bind fun t288 => ((polyglotlaw18_text.f t288).bind fun t289 => (if ((t285 ++ t286) ++ t287).size + t289.size ≤ 9223372036854775807 then (polyglotlaw18_Bytes.l1 k (((t285 ++ t286) ++ t287) ++ t289) l0_7 (l0_7.length : Int) 0) else (none)))) else (none))) else (none)))))
theorem polyglotlaw18_Bytes.mono_l : ∀ k, (∀ y0 y1 y2 y3 y4 y5 y6 y7 y8, LeO (polyglotlaw18_Bytes.j0 k y0 y1 y2 y3 y4 y5 y6 y7 y8) (polyglotlaw18_Bytes.j0 (k + 1) y0 y1 y2 y3 y4 y5 y6 y7 y8)) ∧ (∀ y0 y1 y2 y3, LeO (polyglotlaw18_Bytes.l0 k y0 y1 y2 y3) (polyglotlaw18_Bytes.l0 (k + 1) y0 y1 y2 y3)) ∧ (∀ y0 y1 y2 y3, LeO (polyglotlaw18_Bytes.l1 k y0 y1 y2 y3) (polyglotlaw18_Bytes.l1 (k + 1) y0 y1 y2 y3))
 | 0 => ⟨fun _ _ _ _ _ _ _ _ _ r h => by simp [polyglotlaw18_Bytes.j0] at h, fun _ _ _ _ r h => by simp [polyglotlaw18_Bytes.l0] at h, fun _ _ _ _ r h => by simp [polyglotlaw18_Bytes.l1] at h⟩
 | k + 1 => by
  obtain ⟨ih0, ih1, ih2⟩ := polyglotlaw18_Bytes.mono_l k
  refine ⟨?_, ?_, ?_⟩
  ·intro y0 y1 y2 y3 y4 y5 y6 y7 y8
   unfold polyglotlaw18_Bytes.j0
   repeat' first
   | (with_reducible exact ih0 _ _ _ _ _ _ _ _ _)
   | (with_reducible exact ih1 _ _ _ _)
   | (with_reducible exact ih2 _ _ _ _)
   | (with_reducible exact LeO.refl _)
   | (with_reducible exact LeO.none _)
   | (with_reducible refine LeO.ite ?_ ?_)
   | (with_reducible refine LeO.bind ?_ (fun _ => ?_))
   | exact ih0 _ _ _ _ _ _ _ _ _
   | exact ih1 _ _ _ _
   | exact ih2 _ _ _ _
   | exact LeO.none _
   | refine LeO.ite ?_ ?_
   | refine LeO.bind ?_ (fun _ => ?_)
  ·intro y0 y1 y2 y3
   unfold polyglotlaw18_Bytes.l0
   repeat' first
   | (with_reducible exact ih0 _ _ _ _ _ _ _ _ _)
   | (with_reducible exact ih1 _ _ _ _)
   | (with_reducible exact ih2 _ _ _ _)
   | (with_reducible exact LeO.refl _)
   | (with_reducible exact LeO.none _)
   | (with_reducible refine LeO.ite ?_ ?_)
   | (with_reducible refine LeO.bind ?_ (fun _ => ?_))
   | exact ih0 _ _ _ _ _ _ _ _ _
   | exact ih1 _ _ _ _
   | exact ih2 _ _ _ _
   | exact LeO.none _
   | refine LeO.ite ?_ ?_
   | refine LeO.bind ?_ (fun _ => ?_)
  ·intro y0 y1 y2 y3
   unfold polyglotlaw18_Bytes.l1
   repeat' first
   | (with_reducible exact ih0 _ _ _ _ _ _ _ _ _)
   | (with_reducible exact ih1 _ _ _ _)
   | (with_reducible exact ih2 _ _ _ _)
   | (with_reducible exact LeO.refl _)
   | (with_reducible exact LeO.none _)
   | (with_reducible refine LeO.ite ?_ ?_)
   | (with_reducible refine LeO.bind ?_ (fun _ => ?_))
   | exact ih0 _ _ _ _ _ _ _ _ _
   | exact ih1 _ _ _ _
   | exact ih2 _ _ _ _
   | exact LeO.none _
   | refine LeO.ite ?_ ?_
   | refine LeO.bind ?_ (fun _ => ?_)
theorem polyglotlaw18_Bytes.mono : ∀ a0 a1 a2 a3 a4 a5 a6 a7 k, LeO (polyglotlaw18_Bytes.f k a0 a1 a2 a3 a4 a5 a6 a7) (polyglotlaw18_Bytes.f (k + 1) a0 a1 a2 a3 a4 a5 a6 a7) := by
 intro a0 a1 a2 a3 a4 a5 a6 a7 k
 obtain ⟨ih0, ih1, ih2⟩ := polyglotlaw18_Bytes.mono_l k
 unfold polyglotlaw18_Bytes.f
 repeat' first
   | (with_reducible exact ih0 _ _ _ _ _ _ _ _ _)
   | (with_reducible exact ih1 _ _ _ _)
   | (with_reducible exact ih2 _ _ _ _)
   | (with_reducible exact LeO.refl _)
   | (with_reducible exact LeO.none _)
   | (with_reducible refine LeO.ite ?_ ?_)
   | (with_reducible refine LeO.bind ?_ (fun _ => ?_))
   | exact ih0 _ _ _ _ _ _ _ _ _
   | exact ih1 _ _ _ _
   | exact ih2 _ _ _ _
   | exact LeO.none _
   | refine LeO.ite ?_ ?_
   | refine LeO.bind ?_ (fun _ => ?_)
def polyglotlaw18_Bytes.T5 : Bool × List (List Nat × List Nat) := (true, [([], []), ([], []), ([1], [1]), ([2, 0], [2]), ([0, 3], [0, 3]), ([], []), ([5, 3], [5]), ([4, 6], [4, 6]), ([], []), ([8], [8]), ([9, 6], [9]), ([7, 10], [7, 10]), ([11, 10, 0, 1, 2, 3, 4, 5, 6, 7, 8, 9, 10, 11], [11])])
def polyglotlaw18_Bytes.B5 : List Nat := [0, 0, 2, 7, 15, 0, 47, 127, 0, 256, 879, 2047, 4095]
theorem polyglotlaw18_Bytes.tab5 : rtab .any (opsOf Tryz.f13 5) = polyglotlaw18_Bytes.T5 := by kernel_rfl
theorem polyglotlaw18_Bytes.bits5 : waitsOk polyglotlaw18_Bytes.T5.2 polyglotlaw18_Bytes.B5 = true := by kernel_rfl
def polyglotlaw18_Bytes.T7 : Bool × List (List Nat × List Nat) := (true, [([], []), ([], []), ([1], [1]), ([2, 0], [2]), ([0, 3], [0, 3]), ([], []), ([5], [5]), ([6], [6]), ([7, 3], [7]), ([8, 8], [8]), ([4, 9], [4, 9]), ([10, 9, 0, 1, 2, 3, 4, 5, 6, 7, 8, 9, 10], [10])])
def polyglotlaw18_Bytes.B7 : List Nat := [0, 0, 2, 7, 15, 0, 32, 96, 239, 495, 1023, 2047]
theorem polyglotlaw18_Bytes.tab7 : rtab .any (opsOf Tryz.f13 7) = polyglotlaw18_Bytes.T7 := by kernel_rfl
theorem polyglotlaw18_Bytes.bits7 : waitsOk polyglotlaw18_Bytes.T7.2 polyglotlaw18_Bytes.B7 = true := by kernel_rfl
def polyglotlaw18_Bytes.T14 : Bool × List (List Nat × List Nat) := (true, [([], []), ([], []), ([1], [1]), ([2, 0], [2]), ([0, 3], [0, 3]), ([], []), ([5], [5]), ([6, 3], [6]), ([4, 7], [4, 7]), ([], []), ([9], [9]), ([10], [10]), ([11, 7], [11]), ([12, 12], [12]), ([8, 13], [8, 13]), ([14, 13, 0, 1, 2, 3, 4, 5, 6, 7, 8, 9, 10, 11, 12, 13, 14], [14])])
def polyglotlaw18_Bytes.B14 : List Nat := [0, 0, 2, 7, 15, 0, 32, 111, 255, 0, 512, 1536, 3823, 7919, 16383, 32767]
theorem polyglotlaw18_Bytes.tab14 : rtab .any (opsOf Tryz.f13 14) = polyglotlaw18_Bytes.T14 := by kernel_rfl
theorem polyglotlaw18_Bytes.bits14 : waitsOk polyglotlaw18_Bytes.T14.2 polyglotlaw18_Bytes.B14 = true := by kernel_rfl
def polyglotlaw18_Bytes.T18 : Bool × List (List Nat × List Nat) := (true, [([], []), ([], []), ([1], [1]), ([2], [2]), ([0, 3], [0, 3]), ([], []), ([], []), ([6], [6]), ([5, 7], [5, 7]), ([8], [8]), ([9, 3], [9]), ([4, 10], [4, 10]), ([], []), ([12], [12]), ([13, 10], [13]), ([11, 14], [11, 14]), ([15, 14, 0, 1, 2, 3, 4, 5, 6, 7, 8, 9, 10, 11, 12, 13, 14, 15], [0, 15])])
def polyglotlaw18_Bytes.B18 : List Nat := [0, 0, 2, 6, 15, 0, 0, 64, 224, 480, 1006, 2047, 0, 4096, 14318, 32767, 65535]
theorem polyglotlaw18_Bytes.tab18 : rtab .any (opsOf Tryz.f13 18) = polyglotlaw18_Bytes.T18 := by kernel_rfl
theorem polyglotlaw18_Bytes.bits18 : waitsOk polyglotlaw18_Bytes.T18.2 polyglotlaw18_Bytes.B18 = true := by kernel_rfl
set_option maxHeartbeats 8000000 in
set_option maxRecDepth 100000 in
theorem polyglotlaw18_Bytes.calls (k : Nat) (a0_0 : Int) (a0_1 : ByteArray) (a0_2 : ByteArray) (a0_3 : Bool) (A0_4 : Option Addr) (c0_4 : Nat) (l0_4 : List ByteArray) (a0_5 : ByteArray) (a0_6 : ByteArray) (A0_7 : Option Addr) (c0_7 : Nat) (l0_7 : List (S44)) (r : ByteArray) (w : World) (hr0_4 : Kd.C Kd.string w A0_4 l0_4.length l0_4) (hc0_4 : l0_4.length ≤ c0_4) (hr0_7 : Kd.C k44 w A0_7 l0_7.length l0_7) (hc0_7 : l0_7.length ≤ c0_7) (h : polyglotlaw18_Bytes.f k a0_0 a0_1 a0_2 a0_3 l0_4 a0_5 a0_6 l0_7 = some r) (HP0_ : TabP_ w := by exact TabP_.step HP0_ (by repeat (first | (with_reducible first | exact HB.out | apply below_alloc | apply pw_below_drewN | apply below_drew1 | refine below_set ?_ (Aside0.out (by assumption))) | exact HB.out))) :
  Calls Tryz.prog 13 #[.agg #[.int .i64 a0_0, .string a0_1, .string a0_2, .bool a0_3, .slice A0_4 l0_4.length c0_4, .string a0_5, .string a0_6, .slice A0_7 l0_7.length c0_7]] w fun e w' => e = .returned (.string r) ∧ Below w.heap.size w w' := by
 have hu29 := Tryz.underlying29
 have hu44 := Tryz.underlying44
 have HR0_4 := Aside0.mk hr0_4
 have HC0_4 := Aside0.mk hc0_4
 clear hr0_4 hc0_4
 have HR0_7 := Aside0.mk hr0_7
 have HC0_7 := Aside0.mk hc0_7
 clear hr0_7 hc0_7
 have HB := Aside0.mk (Below.refl w.heap.size w)
 have H : (if a0_0 = 0 then (if a0_3 = true then (polyglotlaw18_Bytes.j0 k (⟨#[49]⟩ : ByteArray) a0_0 a0_1 a0_2 a0_3 l0_4 a0_5 a0_6 l0_7) else (polyglotlaw18_Bytes.j0 k (⟨#[48]⟩ : ByteArray) a0_0 a0_1 a0_2 a0_3 l0_4 a0_5 a0_6 l0_7)) else (if a0_0 = 1 then ((polyglotlaw18_text.f (⟨#[99]⟩ : ByteArray)).bind fun t279 => ((polyglotlaw18_text.f a0_1).bind fun t280 => (if t279.size + t280.size ≤ 9223372036854775807 then ((strconv_Itoa.f (l0_4.length : Int)).bind fun t281 => ((polyglotlaw18_text.f t281).bind fun t282 => (if (t279 ++ t280).size + t282.size ≤ 9223372036854775807 then (polyglotlaw18_Bytes.l0 k ((t279 ++ t280) ++ t282) l0_4 (l0_4.length : Int) 0) else (none)))) else (none)))) else ((polyglotlaw18_text.f (⟨#[113]⟩ : ByteArray)).bind fun t285 => ((polyglotlaw18_text.f a0_5).bind fun t286 => (if t285.size + t286.size ≤ 9223372036854775807 then ((polyglotlaw18_text.f a0_6).bind fun t287 => (if (t285 ++ t286).size + t287.size ≤ 9223372036854775807 then ((strconv_Itoa.f (l0_7.length : Int)).bind fun t288 => ((polyglotlaw18_text.f t288).bind fun t289 => (if ((t285 ++ t286) ++ t287).size + t289.size ≤ 9223372036854775807 then (polyglotlaw18_Bytes.l1 k (((t285 ++ t286) ++ t287) ++ t289) l0_7 (l0_7.length : Int) 0) else (none)))) else (none))) else (none)))))) = some r := h
 clear h
 by_cases c2 : a0_0 = 0
 ·rw [if_pos c2] at H
  have c2b0 : (a0_0 == 0) = true := beq_iff_eq.mpr c2
  have c2b1 : (a0_0 != 0) = false := bne_eq_false_iff_eq.mpr c2
  clear c2
  have HC3 := Aside0.mk H
  clear H
  go_enter Tryz.func13, Tryz.ntmps13
  go_upto_if 14 with (first | ((with_reducible refine gate_dst (N := 1) rfl ?_); refine box_event ?hg (N := 1) ?hd (cs := #[.int .i64 a0_0, .string a0_1, .string a0_2, .bool a0_3, .slice A0_4 l0_4.length c0_4, .string a0_5, .string a0_6, .slice A0_7 l0_7.length c0_7]) (t := 29) ?hr ?_; (case hd => rfl); (case hg => rfl); (case hr => exact u0_); intro gb274 hg w4 hbox hb; have BK274 := Aside0.mk (hbox); have GW274 := Aside0.mk ((q10_ : w.heap.size ≤ gb274)); have GE274 := Aside0.mk ((q10_ : w.heap.size ≤ gb274)); replace HB := Aside0.mk (below_step q4_ hb); clear hb hbox hg; obtain ⟨hcz5_0, hcz5_1, hcz5_2, hcz5_3, hcz5_4, hcz5_5, hcz5_6, hcz5_7, hfz5_0, hfz5_1, hfz5_2, hfz5_3, hfz5_4, hfz5_5, hfz5_6, hfz5_7⟩ := cellsF8 BK274.out))
  (try simp only [Act.put, List.setIfInBounds_toArray, List.set_cons_zero, List.set_cons_succ])
  go_cut [3] (fun v3 wc => ∃ (kq : Nat) (x3_2 : ByteArray), v3 = .string x3_2 ∧ Aside0 (polyglotlaw18_Bytes.j0 kq x3_2 a0_0 a0_1 a0_2 a0_3 l0_4 a0_5 a0_6 l0_7 = some r) ∧ Aside0 (kq ≤ k) ∧ Aside0 (wc.heap[gb274]? = some (.cells #[.int .i64 a0_0, .string a0_1, .string a0_2, .bool a0_3, (.slice A0_4 l0_4.length c0_4), .string a0_5, .string a0_6, (.slice A0_7 l0_7.length c0_7)] 29 (0, 0))) ∧ Aside0 (Below w.heap.size w wc))
  case first =>
   have H := HC3.out
   clear HC3
   by_cases c6 : a0_3 = true
   ·subst c6
    have H1 : (polyglotlaw18_Bytes.j0 k (⟨#[49]⟩ : ByteArray) a0_0 a0_1 a0_2 true l0_4 a0_5 a0_6 l0_7) = some r := by rw [if_pos rfl] at H; exact H
    clear H
    have H := H1
    clear H1
    have H' := Aside0.mk H
    clear H
    go_wp2
    go_meet
    case rel => exact ⟨_, ((⟨#[49]⟩ : ByteArray)), q7_, H', ⟨(by first | omega | exact Nat.le_refl _)⟩, ⟨q1_⟩, ⟨q0_⟩⟩
   ·replace c6 := Bool.eq_false_iff.mpr c6
    subst c6
    have H1 : (polyglotlaw18_Bytes.j0 k (⟨#[48]⟩ : ByteArray) a0_0 a0_1 a0_2 false l0_4 a0_5 a0_6 l0_7) = some r := by rw [if_neg (show ¬ (false = true) by decide)] at H; exact H
    clear H
    have H := H1
    clear H1
    have H' := Aside0.mk H
    clear H
    go_wp2
    go_meet
    case rel => exact ⟨_, ((⟨#[48]⟩ : ByteArray)), q7_, H', ⟨(by first | omega | exact Nat.le_refl _)⟩, ⟨q1_⟩, ⟨q0_⟩⟩
  case rest =>
   clear HC3
   try clear c1
   try clear c2
   try clear c2b0
   try clear c2b1
   try clear p2
   try clear c6
   try clear hcz5_0 hcz5_1 hcz5_2 hcz5_3 hcz5_4 hcz5_5 hcz5_6 hcz5_7
   try clear hfz5_0 hfz5_1 hfz5_2 hfz5_3 hfz5_4 hfz5_5 hfz5_6 hfz5_7
   obtain ⟨kq, x3_2, rfl, HA, HJ2, BK274, HB⟩ := hcut
   cases kq with
   | zero => exact absurd HA.out (by simp [polyglotlaw18_Bytes.j0])
   | succ kj2 =>
    have H := HA.out
    clear HA
    simp only [polyglotlaw18_Bytes.j0] at H
    replace H := Option.bind_eq_some_iff.mp H
    obtain ⟨t275, A70, H⟩ := H
    replace H : ((polyglotlaw18_text.f a0_1).bind fun t276 => (if t275.size + t276.size ≤ 9223372036854775807 then ((polyglotlaw18_text.f x3_2).bind fun t277 => (if (t275 ++ t276).size + t277.size ≤ 9223372036854775807 then ((polyglotlaw18_text.f a0_2).bind fun t278 => (if ((t275 ++ t276) ++ t277).size + t278.size ≤ 9223372036854775807 then (some (((t275 ++ t276) ++ t277) ++ t278)) else (none))) else (none))) else (none))) = some r := H
    have A7 := Aside0.mk A70
    clear A70
    replace H := Option.bind_eq_some_iff.mp H
    obtain ⟨t276, A80, H⟩ := H
    replace H : (if t275.size + t276.size ≤ 9223372036854775807 then ((polyglotlaw18_text.f x3_2).bind fun t277 => (if (t275 ++ t276).size + t277.size ≤ 9223372036854775807 then ((polyglotlaw18_text.f a0_2).bind fun t278 => (if ((t275 ++ t276) ++ t277).size + t278.size ≤ 9223372036854775807 then (some (((t275 ++ t276) ++ t277) ++ t278)) else (none))) else (none))) else (none)) = some r := H
    have A8 := Aside0.mk A80
    clear A80
    by_cases c9 : t275.size + t276.size ≤ 9223372036854775807
    ·rw [if_pos c9] at H
     try simp only [show wrap64 ((t275.size : Int) + (t276.size : Int)) = (t275.size : Int) + (t276.size : Int) from by unfold wrap64; omega] at *
     have c9b0 := eq_true c9
     have c9b1 : decide (t275.size + t276.size ≤ 9223372036854775807) = true := decide_eq_true c9
     try have c9b2 : (9223372036854775807 < t275.size + t276.size) = False := eq_false (Nat.not_lt.2 c9)
     replace H := Option.bind_eq_some_iff.mp H
     obtain ⟨t277, A100, H⟩ := H
     replace H : (if (t275 ++ t276).size + t277.size ≤ 9223372036854775807 then ((polyglotlaw18_text.f a0_2).bind fun t278 => (if ((t275 ++ t276) ++ t277).size + t278.size ≤ 9223372036854775807 then (some (((t275 ++ t276) ++ t277) ++ t278)) else (none))) else (none)) = some r := H
     have A10 := Aside0.mk A100
     clear A100
     by_cases c11 : (t275 ++ t276).size + t277.size ≤ 9223372036854775807
     ·rw [if_pos c11] at H
      have c11b0 := eq_true c11
      try have c11n := c11
      try simp only [ByteArray.size_append] at c11n
      try have c11m := eq_false (Nat.not_lt.2 c11n)
      try have c11k := eq_true c11n
      have c11b1 : decide ((t275 ++ t276).size + t277.size ≤ 9223372036854775807) = true := decide_eq_true c11
      try have c11b2 : (9223372036854775807 < (t275 ++ t276).size + t277.size) = False := eq_false (Nat.not_lt.2 c11)
      replace H := Option.bind_eq_some_iff.mp H
      obtain ⟨t278, A120, H⟩ := H
      replace H : (if ((t275 ++ t276) ++ t277).size + t278.size ≤ 9223372036854775807 then (some (((t275 ++ t276) ++ t277) ++ t278)) else (none)) = some r := H
      have A12 := Aside0.mk A120
      clear A120
      by_cases c13 : ((t275 ++ t276) ++ t277).size + t278.size ≤ 9223372036854775807
      ·rw [if_pos c13] at H
       have c13b0 := eq_true c13
       try have c13n := c13
       try simp only [ByteArray.size_append] at c13n
       try have c13m := eq_false (Nat.not_lt.2 c13n)
       try have c13k := eq_true c13n
       have c13b1 : decide (((t275 ++ t276) ++ t277).size + t278.size ≤ 9223372036854775807) = true := decide_eq_true c13
       try have c13b2 : (9223372036854775807 < ((t275 ++ t276) ++ t277).size + t278.size) = False := eq_false (Nat.not_lt.2 c13)
       obtain rfl := Option.some.inj H
       try go_wp2
       replace BK274 := Aside0.mk (blk_drew BK274.out)
       replace HB := Aside0.mk (below_drew1 HB.out)
       refine start_ (n := 13) (S := fun w' => w'.cell? ⟨gb274, 0, none⟩ = some (.int .i64 a0_0) ∧ w'.cell? ⟨gb274, 1, none⟩ = some (.string a0_1) ∧ w'.cell? ⟨gb274, 2, none⟩ = some (.string a0_2) ∧ w'.cell? ⟨gb274, 3, none⟩ = some (.bool a0_3) ∧ w'.cell? ⟨gb274, 4, none⟩ = some (.slice A0_4 l0_4.length c0_4) ∧ w'.cell? ⟨gb274, 5, none⟩ = some (.string a0_5) ∧ w'.cell? ⟨gb274, 6, none⟩ = some (.string a0_6) ∧ w'.cell? ⟨gb274, 7, none⟩ = some (.slice A0_7 l0_7.length c0_7)) (ds := []) #[false, false, false, false, false, false, false, false, false, false, false, false, false] (by kernel_rfl) rfl rfl ⟨(blk_cell BK274.out 0).trans rfl, (blk_cell BK274.out 1).trans rfl, (blk_cell BK274.out 2).trans rfl, (blk_cell BK274.out 3).trans rfl, (blk_cell BK274.out 4).trans rfl, (blk_cell BK274.out 5).trans rfl, (blk_cell BK274.out 6).trans rfl, (blk_cell BK274.out 7).trans rfl⟩ (fun hHeld => ?_); refine with_tabW polyglotlaw18_Bytes.tab5 polyglotlaw18_Bytes.bits5 (fun HT_ HW_ => ?_)
       generalize wc.drew = w14 at BK274 HB hHeld ⊢
       refine pure_ (i := 1) (N := some 16) (v := ?_) (a' := ?_) #[false, true, false, false, false, false, false, false, false, false, false, false, false] rfl rfl (any_of HT_.out (by kernel_rfl)) (fun _ _ _ h => h) (Or.inl ⟨(by rfl), ?_⟩) ?_ ?_
       rotate_left
       ·intro w'
        go_simp
        with_reducible rfl
       rotate_left
       ·simp only [Act.put, List.setIfInBounds_toArray, List.set_cons_zero, List.set_cons_succ, i64_w, i32_w]
        rfl
       refine pure_ (i := 5) (N := some 20) (v := ?_) (a' := ?_) #[false, true, false, false, false, true, false, false, false, false, false, false, false] rfl rfl (any_of HT_.out (by kernel_rfl)) (fun _ _ _ h => h) (Or.inl ⟨(by rfl), ?_⟩) ?_ ?_
       rotate_left
       ·intro w'
        go_simp
        with_reducible rfl
       rotate_left
       ·simp only [Act.put, List.setIfInBounds_toArray, List.set_cons_zero, List.set_cons_succ, i64_w, i32_w]
        rfl
       refine pure_ (i := 8) (N := some 23) (v := ?_) (a' := ?_) #[false, true, false, false, false, true, false, false, true, false, false, false, false] rfl rfl (any_of HT_.out (by kernel_rfl)) (fun _ _ _ h => h) (Or.inl ⟨(by rfl), ?_⟩) ?_ ?_
       rotate_left
       ·intro w'
        go_simp
        with_reducible rfl
       rotate_left
       ·simp only [Act.put, List.setIfInBounds_toArray, List.set_cons_zero, List.set_cons_succ, i64_w, i32_w]
        rfl
       refine take_ (i := 2) (N := some 17) (v := ?_) (a' := ?_) #[false, true, true, false, false, true, false, false, true, false, false, false, false] rfl rfl (take_ofW HT_.out HW_.out (by kernel_rfl)) (fun _ _ _ h => h) (Or.inl ⟨(by rfl), ?_⟩) hHeld ?_ ?_
       rotate_left
       ·rintro w' ⟨s0, s1, s2, s3, s4, s5, s6, s7⟩
        go_simp
        with_reducible rfl
       rotate_left
       ·simp only [Act.put, List.setIfInBounds_toArray, List.set_cons_zero, List.set_cons_succ, i64_w, i32_w]
        rfl
       refine take_ (i := 9) (N := some 24) (v := ?_) (a' := ?_) #[false, true, true, false, false, true, false, false, true, true, false, false, false] rfl rfl (take_ofW HT_.out HW_.out (by kernel_rfl)) (fun _ _ _ h => h) (Or.inl ⟨(by rfl), ?_⟩) hHeld ?_ ?_
       rotate_left
       ·rintro w' ⟨s0, s1, s2, s3, s4, s5, s6, s7⟩
        go_simp
        with_reducible rfl
       rotate_left
       ·simp only [Act.put, List.setIfInBounds_toArray, List.set_cons_zero, List.set_cons_succ, i64_w, i32_w]
        rfl
       refine one_ (i := 0) (N := some 15) #[true, true, true, false, false, true, false, false, true, true, false, false, false] rfl rfl (one_of HT_.out (by kernel_rfl)) (by decide) (fun K hK => ?_)
       refine goes_ Tryz.func19 (by kernel_rfl) rfl #[.string (⟨#[97]⟩ : ByteArray)] (by rfl) rfl rfl q3_ ?_
       with_reducible refine (polyglotlaw18_text.calls (⟨#[97]⟩ : ByteArray) t275 _ A7.out).mono ?_
       rintro e w15 ⟨rfl, hb⟩
       refine ⟨_, rfl, ?_⟩
       replace BK274 := Aside0.mk (blk_below (g := gb274) (o := .cells #[.int .i64 a0_0, .string a0_1, .string a0_2, .bool a0_3, .slice A0_4 l0_4.length c0_4, .string a0_5, .string a0_6, .slice A0_7 l0_7.length c0_7] 29 (0, 0)) q1_ hb)
       replace HB := Aside0.mk (below_step q0_ hb)
       (try clear hb)
       (try clear hb2)
       (try clear hk)
       (try clear hi)
       refine hK.out _ _ ⟨(blk_cell BK274.out 0).trans rfl, (blk_cell BK274.out 1).trans rfl, (blk_cell BK274.out 2).trans rfl, (blk_cell BK274.out 3).trans rfl, (blk_cell BK274.out 4).trans rfl, (blk_cell BK274.out 5).trans rfl, (blk_cell BK274.out 6).trans rfl, (blk_cell BK274.out 7).trans rfl⟩ (fun hHeld => ?_)
       clear hK K
       refine norm_ (a' := ?_) ?_ ?_
       rotate_left
       ·show Act.put _ (some 15) _ = _
        simp only [Act.put, List.setIfInBounds_toArray, List.set_cons_zero, List.set_cons_succ, i64_w, i32_w]
        rfl
       refine one_ (i := 3) (N := some 18) #[true, true, true, true, false, true, false, false, true, true, false, false, false] rfl rfl (one_of HT_.out (by kernel_rfl)) (by decide) (fun K hK => ?_)
       refine goes_ Tryz.func19 (by kernel_rfl) rfl #[.string a0_1] (by rfl) rfl rfl q3_ ?_
       with_reducible refine (polyglotlaw18_text.calls a0_1 t276 _ A8.out).mono ?_
       rintro e w16 ⟨rfl, hb⟩
       refine ⟨_, rfl, ?_⟩
       replace BK274 := Aside0.mk (blk_below (g := gb274) (o := .cells #[.int .i64 a0_0, .string a0_1, .string a0_2, .bool a0_3, .slice A0_4 l0_4.length c0_4, .string a0_5, .string a0_6, .slice A0_7 l0_7.length c0_7] 29 (0, 0)) q1_ hb)
       replace HB := Aside0.mk (below_step q0_ hb)
       (try clear hb)
       (try clear hb2)
       (try clear hk)
       (try clear hi)
       refine hK.out _ _ ⟨(blk_cell BK274.out 0).trans rfl, (blk_cell BK274.out 1).trans rfl, (blk_cell BK274.out 2).trans rfl, (blk_cell BK274.out 3).trans rfl, (blk_cell BK274.out 4).trans rfl, (blk_cell BK274.out 5).trans rfl, (blk_cell BK274.out 6).trans rfl, (blk_cell BK274.out 7).trans rfl⟩ (fun hHeld => ?_)
       clear hK K
       refine norm_ (a' := ?_) ?_ ?_
       rotate_left
       ·show Act.put _ (some 18) _ = _
        simp only [Act.put, List.setIfInBounds_toArray, List.set_cons_zero, List.set_cons_succ, i64_w, i32_w]
        rfl
       refine pure_ (i := 4) (N := some 19) (v := ?_) (a' := ?_) #[true, true, true, true, true, true, false, false, true, true, false, false, false] rfl rfl (any_of HT_.out (by kernel_rfl)) (fun _ _ _ h => h) (Or.inl ⟨(by rfl), ?_⟩) ?_ ?_
       rotate_left
       ·intro w'
        go_simp
        with_reducible rfl
       rotate_left
       ·simp only [Act.put, List.setIfInBounds_toArray, List.set_cons_zero, List.set_cons_succ, i64_w, i32_w]
        rfl
       refine one_ (i := 6) (N := some 21) #[true, true, true, true, true, true, true, false, true, true, false, false, false] rfl rfl (one_of HT_.out (by kernel_rfl)) (by decide) (fun K hK => ?_)
       refine goes_ Tryz.func19 (by kernel_rfl) rfl #[.string x3_2] (by rfl) rfl rfl q3_ ?_
       with_reducible refine (polyglotlaw18_text.calls x3_2 t277 _ A10.out).mono ?_
       rintro e w17 ⟨rfl, hb⟩
       refine ⟨_, rfl, ?_⟩
       replace BK274 := Aside0.mk (blk_below (g := gb274) (o := .cells #[.int .i64 a0_0, .string a0_1, .string a0_2, .bool a0_3, .slice A0_4 l0_4.length c0_4, .string a0_5, .string a0_6, .slice A0_7 l0_7.length c0_7] 29 (0, 0)) q1_ hb)
       replace HB := Aside0.mk (below_step q0_ hb)
       (try clear hb)
       (try clear hb2)
       (try clear hk)
       (try clear hi)
       refine hK.out _ _ ⟨(blk_cell BK274.out 0).trans rfl, (blk_cell BK274.out 1).trans rfl, (blk_cell BK274.out 2).trans rfl, (blk_cell BK274.out 3).trans rfl, (blk_cell BK274.out 4).trans rfl, (blk_cell BK274.out 5).trans rfl, (blk_cell BK274.out 6).trans rfl, (blk_cell BK274.out 7).trans rfl⟩ (fun hHeld => ?_)
       clear hK K
       refine norm_ (a' := ?_) ?_ ?_
       rotate_left
       ·show Act.put _ (some 21) _ = _
        simp only [Act.put, List.setIfInBounds_toArray, List.set_cons_zero, List.set_cons_succ, i64_w, i32_w]
        rfl
       refine pure_ (i := 7) (N := some 22) (v := ?_) (a' := ?_) #[true, true, true, true, true, true, true, true, true, true, false, false, false] rfl rfl (any_of HT_.out (by kernel_rfl)) (fun _ _ _ h => h) (Or.inl ⟨(by rfl), ?_⟩) ?_ ?_
       rotate_left
       ·intro w'
        go_simp
        with_reducible rfl
       rotate_left
       ·simp only [Act.put, List.setIfInBounds_toArray, List.set_cons_zero, List.set_cons_succ, i64_w, i32_w]
        rfl
       refine one_ (i := 10) (N := some 25) #[true, true, true, true, true, true, true, true, true, true, true, false, false] rfl rfl (one_of HT_.out (by kernel_rfl)) (by decide) (fun K hK => ?_)
       refine goes_ Tryz.func19 (by kernel_rfl) rfl #[.string a0_2] (by rfl) rfl rfl q3_ ?_
       with_reducible refine (polyglotlaw18_text.calls a0_2 t278 _ A12.out).mono ?_
       rintro e w18 ⟨rfl, hb⟩
       refine ⟨_, rfl, ?_⟩
       replace BK274 := Aside0.mk (blk_below (g := gb274) (o := .cells #[.int .i64 a0_0, .string a0_1, .string a0_2, .bool a0_3, .slice A0_4 l0_4.length c0_4, .string a0_5, .string a0_6, .slice A0_7 l0_7.length c0_7] 29 (0, 0)) q1_ hb)
       replace HB := Aside0.mk (below_step q0_ hb)
       (try clear hb)
       (try clear hb2)
       (try clear hk)
       (try clear hi)
       refine hK.out _ _ ⟨(blk_cell BK274.out 0).trans rfl, (blk_cell BK274.out 1).trans rfl, (blk_cell BK274.out 2).trans rfl, (blk_cell BK274.out 3).trans rfl, (blk_cell BK274.out 4).trans rfl, (blk_cell BK274.out 5).trans rfl, (blk_cell BK274.out 6).trans rfl, (blk_cell BK274.out 7).trans rfl⟩ (fun hHeld => ?_)
       clear hK K
       refine norm_ (a' := ?_) ?_ ?_
       rotate_left
       ·show Act.put _ (some 25) _ = _
        simp only [Act.put, List.setIfInBounds_toArray, List.set_cons_zero, List.set_cons_succ, i64_w, i32_w]
        rfl
       refine pure_ (i := 11) (N := some 26) (v := ?_) (a' := ?_) #[true, true, true, true, true, true, true, true, true, true, true, true, false] rfl rfl (any_of HT_.out (by kernel_rfl)) (fun _ _ _ h => h) (Or.inl ⟨(by rfl), ?_⟩) ?_ ?_
       rotate_left
       ·intro w'
        go_simp
        with_reducible rfl
       rotate_left
       ·simp only [Act.put, List.setIfInBounds_toArray, List.set_cons_zero, List.set_cons_succ, i64_w, i32_w]
        rfl
       refine pure_ (i := 12) (N := some 2) (v := ?_) (a' := ?_) #[true, true, true, true, true, true, true, true, true, true, true, true, true] rfl rfl (any_of HT_.out (by kernel_rfl)) (fun _ _ _ h => h) (Or.inl ⟨(by rfl), ?_⟩) ?_ ?_
       rotate_left
       ·intro w'
        go_simp
        with_reducible rfl
       rotate_left
       ·simp only [Act.put, List.setIfInBounds_toArray, List.set_cons_zero, List.set_cons_succ, i64_w, i32_w]
        rfl
       refine done_ (done_of HT_.out (by kernel_rfl)) ?_
       try go_wp2
       go_ret
       exact ⟨q9_, q0_⟩
      ·rw [if_neg c13] at H
       exact absurd H (by simp)
     ·rw [if_neg c11] at H
      exact absurd H (by simp)
    ·rw [if_neg c9] at H
     exact absurd H (by simp)
 ·rw [if_neg c2] at H
  have c2b0 : (a0_0 == 0) = false := beq_eq_false_iff_ne.mpr c2
  have c2b1 : (a0_0 != 0) = true := bne_iff_ne.mpr c2
  by_cases c19 : a0_0 = 1
  ·rw [if_pos c19] at H
   have c19b0 : (a0_0 == 1) = true := beq_iff_eq.mpr c19
   have c19b1 : (a0_0 != 1) = false := bne_eq_false_iff_eq.mpr c19
   clear c19
   replace H := Option.bind_eq_some_iff.mp H
   obtain ⟨t279, A200, H⟩ := H
   replace H : ((polyglotlaw18_text.f a0_1).bind fun t280 => (if t279.size + t280.size ≤ 9223372036854775807 then ((strconv_Itoa.f (l0_4.length : Int)).bind fun t281 => ((polyglotlaw18_text.f t281).bind fun t282 => (if (t279 ++ t280).size + t282.size ≤ 9223372036854775807 then (polyglotlaw18_Bytes.l0 k ((t279 ++ t280) ++ t282) l0_4 (l0_4.length : Int) 0) else (none)))) else (none))) = some r := H
   have A20 := Aside0.mk A200
   clear A200
   replace H := Option.bind_eq_some_iff.mp H
   obtain ⟨t280, A210, H⟩ := H
   replace H : (if t279.size + t280.size ≤ 9223372036854775807 then ((strconv_Itoa.f (l0_4.length : Int)).bind fun t281 => ((polyglotlaw18_text.f t281).bind fun t282 => (if (t279 ++ t280).size + t282.size ≤ 9223372036854775807 then (polyglotlaw18_Bytes.l0 k ((t279 ++ t280) ++ t282) l0_4 (l0_4.length : Int) 0) else (none)))) else (none)) = some r := H
   have A21 := Aside0.mk A210
   clear A210
   by_cases c22 : t279.size + t280.size ≤ 9223372036854775807
   ·rw [if_pos c22] at H
    try simp only [show wrap64 ((t279.size : Int) + (t280.size : Int)) = (t279.size : Int) + (t280.size : Int) from by unfold wrap64; omega] at *
    have c22b0 := eq_true c22
    have c22b1 : decide (t279.size + t280.size ≤ 9223372036854775807) = true := decide_eq_true c22
    try have c22b2 : (9223372036854775807 < t279.size + t280.size) = False := eq_false (Nat.not_lt.2 c22)
    replace H := Option.bind_eq_some_iff.mp H
    obtain ⟨t281, A230, H⟩ := H
    replace H : ((polyglotlaw18_text.f t281).bind fun t282 => (if (t279 ++ t280).size + t282.size ≤ 9223372036854775807 then (polyglotlaw18_Bytes.l0 k ((t279 ++ t280) ++ t282) l0_4 (l0_4.length : Int) 0) else (none))) = some r := H
    have A23 := Aside0.mk A230
    clear A230
    replace H := Option.bind_eq_some_iff.mp H
    obtain ⟨t282, A240, H⟩ := H
    replace H : (if (t279 ++ t280).size + t282.size ≤ 9223372036854775807 then (polyglotlaw18_Bytes.l0 k ((t279 ++ t280) ++ t282) l0_4 (l0_4.length : Int) 0) else (none)) = some r := H
    have A24 := Aside0.mk A240
    clear A240
    by_cases c25 : (t279 ++ t280).size + t282.size ≤ 9223372036854775807
    ·rw [if_pos c25] at H
     have c25b0 := eq_true c25
     try have c25n := c25
     try simp only [ByteArray.size_append] at c25n
     try have c25m := eq_false (Nat.not_lt.2 c25n)
     try have c25k := eq_true c25n
     have c25b1 : decide ((t279 ++ t280).size + t282.size ≤ 9223372036854775807) = true := decide_eq_true c25
     try have c25b2 : (9223372036854775807 < (t279 ++ t280).size + t282.size) = False := eq_false (Nat.not_lt.2 c25)
     have H' := Aside0.mk H
     clear H
     go_enter Tryz.func13, Tryz.ntmps13
     try go_wp2_with (first | ((with_reducible refine gate_dst (N := 1) rfl ?_); refine box_event ?hg (N := 1) ?hd (cs := #[.int .i64 a0_0, .string a0_1, .string a0_2, .bool a0_3, .slice A0_4 l0_4.length c0_4, .string a0_5, .string a0_6, .slice A0_7 l0_7.length c0_7]) (t := 29) ?hr ?_; (case hd => rfl); (case hg => rfl); (case hr => exact u0_); intro gb274 hg w26 hbox hb; have BK274 := Aside0.mk (hbox); have GW274 := Aside0.mk ((q10_ : w.heap.size ≤ gb274)); have GE274 := Aside0.mk ((q10_ : w.heap.size ≤ gb274)); replace HB := Aside0.mk (below_step q4_ hb); clear hb hbox hg; obtain ⟨hcz27_0, hcz27_1, hcz27_2, hcz27_3, hcz27_4, hcz27_5, hcz27_6, hcz27_7, hfz27_0, hfz27_1, hfz27_2, hfz27_3, hfz27_4, hfz27_5, hfz27_6, hfz27_7⟩ := cellsF8 BK274.out))
     replace BK274 := Aside0.mk (blk_drew BK274.out)
     replace HB := Aside0.mk (below_drew1 HB.out)
     refine start_ (n := 12) (S := fun w' => w'.cell? ⟨gb274, 0, none⟩ = some (.int .i64 a0_0) ∧ w'.cell? ⟨gb274, 1, none⟩ = some (.string a0_1) ∧ w'.cell? ⟨gb274, 2, none⟩ = some (.string a0_2) ∧ w'.cell? ⟨gb274, 3, none⟩ = some (.bool a0_3) ∧ w'.cell? ⟨gb274, 4, none⟩ = some (.slice A0_4 l0_4.length c0_4) ∧ w'.cell? ⟨gb274, 5, none⟩ = some (.string a0_5) ∧ w'.cell? ⟨gb274, 6, none⟩ = some (.string a0_6) ∧ w'.cell? ⟨gb274, 7, none⟩ = some (.slice A0_7 l0_7.length c0_7)) (ds := []) #[false, false, false, false, false, false, false, false, false, false, false, false] (by kernel_rfl) rfl rfl ⟨(blk_cell BK274.out 0).trans rfl, (blk_cell BK274.out 1).trans rfl, (blk_cell BK274.out 2).trans rfl, (blk_cell BK274.out 3).trans rfl, (blk_cell BK274.out 4).trans rfl, (blk_cell BK274.out 5).trans rfl, (blk_cell BK274.out 6).trans rfl, (blk_cell BK274.out 7).trans rfl⟩ (fun hHeld => ?_); refine with_tabW polyglotlaw18_Bytes.tab7 polyglotlaw18_Bytes.bits7 (fun HT_ HW_ => ?_)
     generalize w26.drew = w28 at BK274 HB hHeld ⊢
     refine pure_ (i := 1) (N := some 31) (v := ?_) (a' := ?_) #[false, true, false, false, false, false, false, false, false, false, false, false] rfl rfl (any_of HT_.out (by kernel_rfl)) (fun _ _ _ h => h) (Or.inl ⟨(by rfl), ?_⟩) ?_ ?_
     rotate_left
     ·intro w'
      go_simp
      with_reducible rfl
     rotate_left
     ·simp only [Act.put, List.setIfInBounds_toArray, List.set_cons_zero, List.set_cons_succ, i64_w, i32_w]
      rfl
     refine pure_ (i := 5) (N := some 35) (v := ?_) (a' := ?_) #[false, true, false, false, false, true, false, false, false, false, false, false] rfl rfl (any_of HT_.out (by kernel_rfl)) (fun _ _ _ h => h) (Or.inl ⟨(by rfl), ?_⟩) ?_ ?_
     rotate_left
     ·intro w'
      go_simp
      with_reducible rfl
     rotate_left
     ·simp only [Act.put, List.setIfInBounds_toArray, List.set_cons_zero, List.set_cons_succ, i64_w, i32_w]
      rfl
     refine take_ (i := 2) (N := some 32) (v := ?_) (a' := ?_) #[false, true, true, false, false, true, false, false, false, false, false, false] rfl rfl (take_ofW HT_.out HW_.out (by kernel_rfl)) (fun _ _ _ h => h) (Or.inl ⟨(by rfl), ?_⟩) hHeld ?_ ?_
     rotate_left
     ·rintro w' ⟨s0, s1, s2, s3, s4, s5, s6, s7⟩
      go_simp
      with_reducible rfl
     rotate_left
     ·simp only [Act.put, List.setIfInBounds_toArray, List.set_cons_zero, List.set_cons_succ, i64_w, i32_w]
      rfl
     refine take_ (i := 6) (N := some 36) (v := ?_) (a' := ?_) #[false, true, true, false, false, true, true, false, false, false, false, false] rfl rfl (take_ofW HT_.out HW_.out (by kernel_rfl)) (fun _ _ _ h => h) (Or.inl ⟨(by rfl), ?_⟩) hHeld ?_ ?_
     rotate_left
     ·rintro w' ⟨s0, s1, s2, s3, s4, s5, s6, s7⟩
      go_simp
      with_reducible rfl
     rotate_left
     ·simp only [Act.put, List.setIfInBounds_toArray, List.set_cons_zero, List.set_cons_succ, i64_w, i32_w]
      rfl
     refine pure_ (i := 7) (N := some 37) (v := ?_) (a' := ?_) #[false, true, true, false, false, true, true, true, false, false, false, false] rfl rfl (any_of HT_.out (by kernel_rfl)) (fun _ _ _ h => h) (Or.inl ⟨(by rfl), ?_⟩) ?_ ?_
     rotate_left
     ·intro w'
      go_simp
      with_reducible rfl
     rotate_left
     ·simp only [Act.put, List.setIfInBounds_toArray, List.set_cons_zero, List.set_cons_succ, i64_w, i32_w]
      rfl
     refine one_ (i := 0) (N := some 30) #[true, true, true, false, false, true, true, true, false, false, false, false] rfl rfl (one_of HT_.out (by kernel_rfl)) (by decide) (fun K hK => ?_)
     refine goes_ Tryz.func19 (by kernel_rfl) rfl #[.string (⟨#[99]⟩ : ByteArray)] (by rfl) rfl rfl q3_ ?_
     with_reducible refine (polyglotlaw18_text.calls (⟨#[99]⟩ : ByteArray) t279 _ A20.out).mono ?_
     rintro e w29 ⟨rfl, hb⟩
     refine ⟨_, rfl, ?_⟩
     replace BK274 := Aside0.mk (blk_below (g := gb274) (o := .cells #[.int .i64 a0_0, .string a0_1, .string a0_2, .bool a0_3, .slice A0_4 l0_4.length c0_4, .string a0_5, .string a0_6, .slice A0_7 l0_7.length c0_7] 29 (0, 0)) q1_ hb)
     replace HB := Aside0.mk (below_step q0_ hb)
     (try clear hb)
     (try clear hb2)
     (try clear hk)
     (try clear hi)
     refine hK.out _ _ ⟨(blk_cell BK274.out 0).trans rfl, (blk_cell BK274.out 1).trans rfl, (blk_cell BK274.out 2).trans rfl, (blk_cell BK274.out 3).trans rfl, (blk_cell BK274.out 4).trans rfl, (blk_cell BK274.out 5).trans rfl, (blk_cell BK274.out 6).trans rfl, (blk_cell BK274.out 7).trans rfl⟩ (fun hHeld => ?_)
     clear hK K
     refine norm_ (a' := ?_) ?_ ?_
     rotate_left
     ·show Act.put _ (some 30) _ = _
      simp only [Act.put, List.setIfInBounds_toArray, List.set_cons_zero, List.set_cons_succ, i64_w, i32_w]
      rfl
     refine one_ (i := 3) (N := some 33) #[true, true, true, true, false, true, true, true, false, false, false, false] rfl rfl (one_of HT_.out (by kernel_rfl)) (by decide) (fun K hK => ?_)
     refine goes_ Tryz.func19 (by kernel_rfl) rfl #[.string a0_1] (by rfl) rfl rfl q3_ ?_
     with_reducible refine (polyglotlaw18_text.calls a0_1 t280 _ A21.out).mono ?_
     rintro e w30 ⟨rfl, hb⟩
     refine ⟨_, rfl, ?_⟩
     replace BK274 := Aside0.mk (blk_below (g := gb274) (o := .cells #[.int .i64 a0_0, .string a0_1, .string a0_2, .bool a0_3, .slice A0_4 l0_4.length c0_4, .string a0_5, .string a0_6, .slice A0_7 l0_7.length c0_7] 29 (0, 0)) q1_ hb)
     replace HB := Aside0.mk (below_step q0_ hb)
     (try clear hb)
     (try clear hb2)
     (try clear hk)
     (try clear hi)
     refine hK.out _ _ ⟨(blk_cell BK274.out 0).trans rfl, (blk_cell BK274.out 1).trans rfl, (blk_cell BK274.out 2).trans rfl, (blk_cell BK274.out 3).trans rfl, (blk_cell BK274.out 4).trans rfl, (blk_cell BK274.out 5).trans rfl, (blk_cell BK274.out 6).trans rfl, (blk_cell BK274.out 7).trans rfl⟩ (fun hHeld => ?_)
     clear hK K
     refine norm_ (a' := ?_) ?_ ?_
     rotate_left
     ·show Act.put _ (some 33) _ = _
      simp only [Act.put, List.setIfInBounds_toArray, List.set_cons_zero, List.set_cons_succ, i64_w, i32_w]
      rfl
     refine pure_ (i := 4) (N := some 34) (v := ?_) (a' := ?_) #[true, true, true, true, true, true, true, true, false, false, false, false] rfl rfl (any_of HT_.out (by kernel_rfl)) (fun _ _ _ h => h) (Or.inl ⟨(by rfl), ?_⟩) ?_ ?_
     rotate_left
     ·intro w'
      go_simp
      with_reducible rfl
     rotate_left
     ·simp only [Act.put, List.setIfInBounds_toArray, List.set_cons_zero, List.set_cons_succ, i64_w, i32_w]
      rfl
     refine one_ (i := 8) (N := some 38) #[true, true, true, true, true, true, true, true, true, false, false, false] rfl rfl (one_of HT_.out (by kernel_rfl)) (by decide) (fun K hK => ?_)
     refine goes_ Tryz.func20 (by kernel_rfl) rfl #[.int .i64 (l0_4.length : Int)] (by rfl) rfl rfl q3_ ?_
     with_reducible refine (strconv_Itoa.calls (l0_4.length : Int) t281 _ A23.out).mono ?_
     rintro e w31 ⟨rfl, hb⟩
     refine ⟨_, rfl, ?_⟩
     replace BK274 := Aside0.mk (blk_below (g := gb274) (o := .cells #[.int .i64 a0_0, .string a0_1, .string a0_2, .bool a0_3, .slice A0_4 l0_4.length c0_4, .string a0_5, .string a0_6, .slice A0_7 l0_7.length c0_7] 29 (0, 0)) q1_ hb)
     replace HB := Aside0.mk (below_step q0_ hb)
     (try clear hb)
     (try clear hb2)
     (try clear hk)
     (try clear hi)
     refine hK.out _ _ ⟨(blk_cell BK274.out 0).trans rfl, (blk_cell BK274.out 1).trans rfl, (blk_cell BK274.out 2).trans rfl, (blk_cell BK274.out 3).trans rfl, (blk_cell BK274.out 4).trans rfl, (blk_cell BK274.out 5).trans rfl, (blk_cell BK274.out 6).trans rfl, (blk_cell BK274.out 7).trans rfl⟩ (fun hHeld => ?_)
     clear hK K
     refine norm_ (a' := ?_) ?_ ?_
     rotate_left
     ·show Act.put _ (some 38) _ = _
      simp only [Act.put, List.setIfInBounds_toArray, List.set_cons_zero, List.set_cons_succ, i64_w, i32_w]
      rfl
     refine one_ (i := 9) (N := some 39) #[true, true, true, true, true, true, true, true, true, true, false, false] rfl rfl (one_of HT_.out (by kernel_rfl)) (by decide) (fun K hK => ?_)
     refine goes_ Tryz.func19 (by kernel_rfl) rfl #[.string t281] (by rfl) rfl rfl q3_ ?_
     with_reducible refine (polyglotlaw18_text.calls t281 t282 _ A24.out).mono ?_
     rintro e w32 ⟨rfl, hb⟩
     refine ⟨_, rfl, ?_⟩
     replace BK274 := Aside0.mk (blk_below (g := gb274) (o := .cells #[.int .i64 a0_0, .string a0_1, .string a0_2, .bool a0_3, .slice A0_4 l0_4.length c0_4, .string a0_5, .string a0_6, .slice A0_7 l0_7.length c0_7] 29 (0, 0)) q1_ hb)
     replace HB := Aside0.mk (below_step q0_ hb)
     (try clear hb)
     (try clear hb2)
     (try clear hk)
     (try clear hi)
     refine hK.out _ _ ⟨(blk_cell BK274.out 0).trans rfl, (blk_cell BK274.out 1).trans rfl, (blk_cell BK274.out 2).trans rfl, (blk_cell BK274.out 3).trans rfl, (blk_cell BK274.out 4).trans rfl, (blk_cell BK274.out 5).trans rfl, (blk_cell BK274.out 6).trans rfl, (blk_cell BK274.out 7).trans rfl⟩ (fun hHeld => ?_)
     clear hK K
     refine norm_ (a' := ?_) ?_ ?_
     rotate_left
     ·show Act.put _ (some 39) _ = _
      simp only [Act.put, List.setIfInBounds_toArray, List.set_cons_zero, List.set_cons_succ, i64_w, i32_w]
      rfl
     refine pure_ (i := 10) (N := some 40) (v := ?_) (a' := ?_) #[true, true, true, true, true, true, true, true, true, true, true, false] rfl rfl (any_of HT_.out (by kernel_rfl)) (fun _ _ _ h => h) (Or.inl ⟨(by rfl), ?_⟩) ?_ ?_
     rotate_left
     ·intro w'
      go_simp
      with_reducible rfl
     rotate_left
     ·simp only [Act.put, List.setIfInBounds_toArray, List.set_cons_zero, List.set_cons_succ, i64_w, i32_w]
      rfl
     refine pure_ (i := 11) (N := some 4) (v := ?_) (a' := ?_) #[true, true, true, true, true, true, true, true, true, true, true, true] rfl rfl (any_of HT_.out (by kernel_rfl)) (fun _ _ _ h => h) (Or.inl ⟨(by rfl), ?_⟩) ?_ ?_
     rotate_left
     ·intro w'
      go_simp
      with_reducible rfl
     rotate_left
     ·simp only [Act.put, List.setIfInBounds_toArray, List.set_cons_zero, List.set_cons_succ, i64_w, i32_w]
      rfl
     refine done_ (done_of HT_.out (by kernel_rfl)) ?_
     obtain ⟨hcz33_0, hcz33_1, hcz33_2, hcz33_3, hcz33_4, hcz33_5, hcz33_6, hcz33_7, hfz33_0, hfz33_1, hfz33_2, hfz33_3, hfz33_4, hfz33_5, hfz33_6, hfz33_7⟩ := cellsF8 BK274.out
     try go_wp2
     go_loopg [4, 44] k (fun kq v4 v44 w' => ∃ (x4_1 : ByteArray) (x44_1 : Int), v4 = .string x4_1 ∧ v44 = .int .i64 x44_1 ∧ Aside0 (polyglotlaw18_Bytes.l0 kq x4_1 l0_4 (l0_4.length : Int) x44_1 = some r) ∧ Aside0 (kq ≤ k) ∧ Aside0 (w'.heap[gb274]? = some (.cells #[.int .i64 a0_0, .string a0_1, .string a0_2, .bool a0_3, (.slice A0_4 l0_4.length c0_4), .string a0_5, .string a0_6, (.slice A0_7 l0_7.length c0_7)] 29 (0, 0))) ∧ Aside0 (Below w.heap.size w w'))
     case atStart => exact ⟨((t279 ++ t280) ++ t282), (0), q7_, q7_, H', ⟨Nat.le_refl _⟩, ⟨q1_⟩, ⟨q0_⟩⟩
     case round =>
      clear H'
      try clear c1
      try clear c2
      try clear c2b0
      try clear c2b1
      try clear p2 p2
      try clear c6
      try clear c9
      try clear c9b0
      try clear c9b1
      try clear c9b2
      try clear c11
      try clear c11b0
      try clear c11b1
      try clear c11b2
      try clear c13
      try clear c13b0
      try clear c13b1
      try clear c13b2
      try clear c19
      try clear c19b0
      try clear c19b1
      try clear c20
      try clear c22
      try clear c22b0
      try clear c22b1
      try clear c22b2
      try clear c25
      try clear c25b0
      try clear c25b1
      try clear c25b2
      try clear hcz27_0 hcz27_1 hcz27_2 hcz27_3 hcz27_4 hcz27_5 hcz27_6 hcz27_7
      try clear hcz33_0 hcz33_1 hcz33_2 hcz33_3 hcz33_4 hcz33_5 hcz33_6 hcz33_7
      try clear hcz5_0 hcz5_1 hcz5_2 hcz5_3 hcz5_4 hcz5_5 hcz5_6 hcz5_7
      try clear hfz27_0 hfz27_1 hfz27_2 hfz27_3 hfz27_4 hfz27_5 hfz27_6 hfz27_7
      try clear hfz33_0 hfz33_1 hfz33_2 hfz33_3 hfz33_4 hfz33_5 hfz33_6 hfz33_7
      try clear hfz5_0 hfz5_1 hfz5_2 hfz5_3 hfz5_4 hfz5_5 hfz5_6 hfz5_7
      obtain ⟨x4_1, x44_1, rfl, rfl, HA, HK1, BK274, HB⟩ := hrel
      cases gk with
      | zero => exact absurd HA.out (by simp [polyglotlaw18_Bytes.l0])
      | succ k1 =>
       have H := HA.out
       clear HA
       simp only [polyglotlaw18_Bytes.l0] at H
       by_cases c34 : x44_1 < (l0_4.length : Int)
       ·rw [if_pos c34] at H
        have c34b0 : decide (x44_1 < (l0_4.length : Int)) = true := decide_eq_true c34
        clear c34
        by_cases c35 : 0 ≤ x44_1
        ·rw [if_pos c35] at H
         have c35b0 : decide (0 ≤ x44_1) = true := decide_eq_true c35
         clear c35
         by_cases c36 : x44_1 < (l0_4.length : Int)
         ·rw [if_pos c36] at H
          have c36b0 : decide (x44_1 < (l0_4.length : Int)) = true := decide_eq_true c36
          clear c36
          replace H := Option.bind_eq_some_iff.mp H
          obtain ⟨t284, A370, H⟩ := H
          replace H : (if x4_1.size + t284.size ≤ 9223372036854775807 then (polyglotlaw18_Bytes.l0 k1 (x4_1 ++ t284) l0_4 (l0_4.length : Int) (wrap64 (x44_1 + 1))) else (none)) = some r := H
          have A37 := Aside0.mk A370
          clear A370
          by_cases c38 : x4_1.size + t284.size ≤ 9223372036854775807
          ·rw [if_pos c38] at H
           try simp only [show wrap64 ((x4_1.size : Int) + (t284.size : Int)) = (x4_1.size : Int) + (t284.size : Int) from by unfold wrap64; omega] at *
           have c38b0 := eq_true c38
           have c38b1 : decide (x4_1.size + t284.size ≤ 9223372036854775807) = true := decide_eq_true c38
           try have c38b2 : (9223372036854775807 < x4_1.size + t284.size) = False := eq_false (Nat.not_lt.2 c38)
           have H' := Aside0.mk H
           clear H
           have p283 : 0 ≤ (x44_1 : Int) := of_decide_eq_true q8_
           have q283 : x44_1 < (l0_4.length : Int) := of_decide_eq_true q8_
           obtain ⟨ad283, e283, hx283_0⟩ := Kd.at_string HR0_4.out x44_1 p283 q283
           cases e283
           replace hx283_0 := (HB.out.cell (World.block_lt_of_cell? w _ hx283_0)).trans hx283_0
           replace p283 := eq_true p283
           replace q283 := eq_true q283
           go_wp2_with (first | ((with_reducible refine gate_callee (f := 19) rfl ?_); refine goesL_ (some 50) rfl rfl Tryz.func19 (by kernel_rfl) rfl #[.string (rdOf ByteArray.empty l0_4 x44_1)] rfl q3_ ?_; (with_reducible refine (polyglotlaw18_text.calls (rdOf ByteArray.empty l0_4 x44_1) t284 _ A37.out).mono ?_); rintro e w39 ⟨rfl, hb⟩; refine ⟨_, rfl, ?_⟩; replace BK274 := Aside0.mk (blk_below (g := gb274) (o := .cells #[.int .i64 a0_0, .string a0_1, .string a0_2, .bool a0_3, .slice (some ad283) l0_4.length c0_4, .string a0_5, .string a0_6, .slice A0_7 l0_7.length c0_7] 29 (0, 0)) q1_ hb); replace HB := Aside0.mk (below_step q0_ hb); (try clear hb); (try clear hb2); (try clear hk); (try clear hi)))
           go_roundg k1
           case measure => have := HK1.out; omega
           case rel => exact ⟨(x4_1 ++ t284), (wrap64 (x44_1 + 1)), q7_, q7_, H', ⟨(by have := HK1.out; omega)⟩, ⟨q1_⟩, ⟨q0_⟩⟩
          ·rw [if_neg c38] at H
           exact absurd H (by simp)
         ·rw [if_neg c36] at H
          exact absurd H (by simp)
        ·rw [if_neg c35] at H
         exact absurd H (by simp)
       ·rw [if_neg c34] at H
        have c34b0 : decide (x44_1 < (l0_4.length : Int)) = false := decide_eq_false c34
        clear c34
        obtain rfl := Option.some.inj H
        go_wp2
        go_ret
        exact ⟨q9_, q0_⟩
    ·rw [if_neg c25] at H
     exact absurd H (by simp)
   ·rw [if_neg c22] at H
    exact absurd H (by simp)
  ·rw [if_neg c19] at H
   have c19b0 : (a0_0 == 1) = false := beq_eq_false_iff_ne.mpr c19
   have c19b1 : (a0_0 != 1) = true := bne_iff_ne.mpr c19
   replace H := Option.bind_eq_some_iff.mp H
   obtain ⟨t285, A400, H⟩ := H
   replace H : ((polyglotlaw18_text.f a0_5).bind fun t286 => (if t285.size + t286.size ≤ 9223372036854775807 then ((polyglotlaw18_text.f a0_6).bind fun t287 => (if (t285 ++ t286).size + t287.size ≤ 9223372036854775807 then ((strconv_Itoa.f (l0_7.length : Int)).bind fun t288 => ((polyglotlaw18_text.f t288).bind fun t289 => (if ((t285 ++ t286) ++ t287).size + t289.size ≤ 9223372036854775807 then (polyglotlaw18_Bytes.l1 k (((t285 ++ t286) ++ t287) ++ t289) l0_7 (l0_7.length : Int) 0) else (none)))) else (none))) else (none))) = some r := H
   have A40 := Aside0.mk A400
   clear A400
   replace H := Option.bind_eq_some_iff.mp H
   obtain ⟨t286, A410, H⟩ := H
   replace H : (if t285.size + t286.size ≤ 9223372036854775807 then ((polyglotlaw18_text.f a0_6).bind fun t287 => (if (t285 ++ t286).size + t287.size ≤ 9223372036854775807 then ((strconv_Itoa.f (l0_7.length : Int)).bind fun t288 => ((polyglotlaw18_text.f t288).bind fun t289 => (if ((t285 ++ t286) ++ t287).size + t289.size ≤ 9223372036854775807 then (polyglotlaw18_Bytes.l1 k (((t285 ++ t286) ++ t287) ++ t289) l0_7 (l0_7.length : Int) 0) else (none)))) else (none))) else (none)) = some r := H
   have A41 := Aside0.mk A410
   clear A410
   by_cases c42 : t285.size + t286.size ≤ 9223372036854775807
   ·rw [if_pos c42] at H
    try simp only [show wrap64 ((t285.size : Int) + (t286.size : Int)) = (t285.size : Int) + (t286.size : Int) from by unfold wrap64; omega] at *
    have c42b0 := eq_true c42
    have c42b1 : decide (t285.size + t286.size ≤ 9223372036854775807) = true := decide_eq_true c42
    try have c42b2 : (9223372036854775807 < t285.size + t286.size) = False := eq_false (Nat.not_lt.2 c42)
    replace H := Option.bind_eq_some_iff.mp H
    obtain ⟨t287, A430, H⟩ := H
    replace H : (if (t285 ++ t286).size + t287.size ≤ 9223372036854775807 then ((strconv_Itoa.f (l0_7.length : Int)).bind fun t288 => ((polyglotlaw18_text.f t288).bind fun t289 => (if ((t285 ++ t286) ++ t287).size + t289.size ≤ 9223372036854775807 then (polyglotlaw18_Bytes.l1 k (((t285 ++ t286) ++ t287) ++ t289) l0_7 (l0_7.length : Int) 0) else (none)))) else (none)) = some r := H
    have A43 := Aside0.mk A430
    clear A430
    by_cases c44 : (t285 ++ t286).size + t287.size ≤ 9223372036854775807
    ·rw [if_pos c44] at H
     have c44b0 := eq_true c44
     try have c44n := c44
     try simp only [ByteArray.size_append] at c44n
     try have c44m := eq_false (Nat.not_lt.2 c44n)
     try have c44k := eq_true c44n
     have c44b1 : decide ((t285 ++ t286).size + t287.size ≤ 9223372036854775807) = true := decide_eq_true c44
     try have c44b2 : (9223372036854775807 < (t285 ++ t286).size + t287.size) = False := eq_false (Nat.not_lt.2 c44)
     replace H := Option.bind_eq_some_iff.mp H
     obtain ⟨t288, A450, H⟩ := H
     replace H : ((polyglotlaw18_text.f t288).bind fun t289 => (if ((t285 ++ t286) ++ t287).size + t289.size ≤ 9223372036854775807 then (polyglotlaw18_Bytes.l1 k (((t285 ++ t286) ++ t287) ++ t289) l0_7 (l0_7.length : Int) 0) else (none))) = some r := H
     have A45 := Aside0.mk A450
     clear A450
     replace H := Option.bind_eq_some_iff.mp H
     obtain ⟨t289, A460, H⟩ := H
     replace H : (if ((t285 ++ t286) ++ t287).size + t289.size ≤ 9223372036854775807 then (polyglotlaw18_Bytes.l1 k (((t285 ++ t286) ++ t287) ++ t289) l0_7 (l0_7.length : Int) 0) else (none)) = some r := H
     have A46 := Aside0.mk A460
     clear A460
     by_cases c47 : ((t285 ++ t286) ++ t287).size + t289.size ≤ 9223372036854775807
     ·rw [if_pos c47] at H
      have c47b0 := eq_true c47
      try have c47n := c47
      try simp only [ByteArray.size_append] at c47n
      try have c47m := eq_false (Nat.not_lt.2 c47n)
      try have c47k := eq_true c47n
      have c47b1 : decide (((t285 ++ t286) ++ t287).size + t289.size ≤ 9223372036854775807) = true := decide_eq_true c47
      try have c47b2 : (9223372036854775807 < ((t285 ++ t286) ++ t287).size + t289.size) = False := eq_false (Nat.not_lt.2 c47)
      have H' := Aside0.mk H
      clear H
      go_enter Tryz.func13, Tryz.ntmps13
      try go_wp2_with (first | ((with_reducible refine gate_dst (N := 1) rfl ?_); refine box_event ?hg (N := 1) ?hd (cs := #[.int .i64 a0_0, .string a0_1, .string a0_2, .bool a0_3, .slice A0_4 l0_4.length c0_4, .string a0_5, .string a0_6, .slice A0_7 l0_7.length c0_7]) (t := 29) ?hr ?_; (case hd => rfl); (case hg => rfl); (case hr => exact u0_); intro gb274 hg w48 hbox hb; have BK274 := Aside0.mk (hbox); have GW274 := Aside0.mk ((q10_ : w.heap.size ≤ gb274)); have GE274 := Aside0.mk ((q10_ : w.heap.size ≤ gb274)); replace HB := Aside0.mk (below_step q4_ hb); clear hb hbox hg; obtain ⟨hcz49_0, hcz49_1, hcz49_2, hcz49_3, hcz49_4, hcz49_5, hcz49_6, hcz49_7, hfz49_0, hfz49_1, hfz49_2, hfz49_3, hfz49_4, hfz49_5, hfz49_6, hfz49_7⟩ := cellsF8 BK274.out))
      replace BK274 := Aside0.mk (blk_drew BK274.out)
      replace HB := Aside0.mk (below_drew1 HB.out)
      refine start_ (n := 16) (S := fun w' => w'.cell? ⟨gb274, 0, none⟩ = some (.int .i64 a0_0) ∧ w'.cell? ⟨gb274, 1, none⟩ = some (.string a0_1) ∧ w'.cell? ⟨gb274, 2, none⟩ = some (.string a0_2) ∧ w'.cell? ⟨gb274, 3, none⟩ = some (.bool a0_3) ∧ w'.cell? ⟨gb274, 4, none⟩ = some (.slice A0_4 l0_4.length c0_4) ∧ w'.cell? ⟨gb274, 5, none⟩ = some (.string a0_5) ∧ w'.cell? ⟨gb274, 6, none⟩ = some (.string a0_6) ∧ w'.cell? ⟨gb274, 7, none⟩ = some (.slice A0_7 l0_7.length c0_7)) (ds := []) #[false, false, false, false, false, false, false, false, false, false, false, false, false, false, false, false] (by kernel_rfl) rfl rfl ⟨(blk_cell BK274.out 0).trans rfl, (blk_cell BK274.out 1).trans rfl, (blk_cell BK274.out 2).trans rfl, (blk_cell BK274.out 3).trans rfl, (blk_cell BK274.out 4).trans rfl, (blk_cell BK274.out 5).trans rfl, (blk_cell BK274.out 6).trans rfl, (blk_cell BK274.out 7).trans rfl⟩ (fun hHeld => ?_); refine with_tabW polyglotlaw18_Bytes.tab14 polyglotlaw18_Bytes.bits14 (fun HT_ HW_ => ?_)
      generalize w48.drew = w50 at BK274 HB hHeld ⊢
      refine pure_ (i := 1) (N := some 55) (v := ?_) (a' := ?_) #[false, true, false, false, false, false, false, false, false, false, false, false, false, false, false, false] rfl rfl (any_of HT_.out (by kernel_rfl)) (fun _ _ _ h => h) (Or.inl ⟨(by rfl), ?_⟩) ?_ ?_
      rotate_left
      ·intro w'
       go_simp
       with_reducible rfl
      rotate_left
      ·simp only [Act.put, List.setIfInBounds_toArray, List.set_cons_zero, List.set_cons_succ, i64_w, i32_w]
       rfl
      refine pure_ (i := 5) (N := some 59) (v := ?_) (a' := ?_) #[false, true, false, false, false, true, false, false, false, false, false, false, false, false, false, false] rfl rfl (any_of HT_.out (by kernel_rfl)) (fun _ _ _ h => h) (Or.inl ⟨(by rfl), ?_⟩) ?_ ?_
      rotate_left
      ·intro w'
       go_simp
       with_reducible rfl
      rotate_left
      ·simp only [Act.put, List.setIfInBounds_toArray, List.set_cons_zero, List.set_cons_succ, i64_w, i32_w]
       rfl
      refine pure_ (i := 9) (N := some 63) (v := ?_) (a' := ?_) #[false, true, false, false, false, true, false, false, false, true, false, false, false, false, false, false] rfl rfl (any_of HT_.out (by kernel_rfl)) (fun _ _ _ h => h) (Or.inl ⟨(by rfl), ?_⟩) ?_ ?_
      rotate_left
      ·intro w'
       go_simp
       with_reducible rfl
      rotate_left
      ·simp only [Act.put, List.setIfInBounds_toArray, List.set_cons_zero, List.set_cons_succ, i64_w, i32_w]
       rfl
      refine take_ (i := 2) (N := some 56) (v := ?_) (a' := ?_) #[false, true, true, false, false, true, false, false, false, true, false, false, false, false, false, false] rfl rfl (take_ofW HT_.out HW_.out (by kernel_rfl)) (fun _ _ _ h => h) (Or.inl ⟨(by rfl), ?_⟩) hHeld ?_ ?_
      rotate_left
      ·rintro w' ⟨s0, s1, s2, s3, s4, s5, s6, s7⟩
       go_simp
       with_reducible rfl
      rotate_left
      ·simp only [Act.put, List.setIfInBounds_toArray, List.set_cons_zero, List.set_cons_succ, i64_w, i32_w]
       rfl
      refine take_ (i := 6) (N := some 60) (v := ?_) (a' := ?_) #[false, true, true, false, false, true, true, false, false, true, false, false, false, false, false, false] rfl rfl (take_ofW HT_.out HW_.out (by kernel_rfl)) (fun _ _ _ h => h) (Or.inl ⟨(by rfl), ?_⟩) hHeld ?_ ?_
      rotate_left
      ·rintro w' ⟨s0, s1, s2, s3, s4, s5, s6, s7⟩
       go_simp
       with_reducible rfl
      rotate_left
      ·simp only [Act.put, List.setIfInBounds_toArray, List.set_cons_zero, List.set_cons_succ, i64_w, i32_w]
       rfl
      refine take_ (i := 10) (N := some 64) (v := ?_) (a' := ?_) #[false, true, true, false, false, true, true, false, false, true, true, false, false, false, false, false] rfl rfl (take_ofW HT_.out HW_.out (by kernel_rfl)) (fun _ _ _ h => h) (Or.inl ⟨(by rfl), ?_⟩) hHeld ?_ ?_
      rotate_left
      ·rintro w' ⟨s0, s1, s2, s3, s4, s5, s6, s7⟩
       go_simp
       with_reducible rfl
      rotate_left
      ·simp only [Act.put, List.setIfInBounds_toArray, List.set_cons_zero, List.set_cons_succ, i64_w, i32_w]
       rfl
      refine pure_ (i := 11) (N := some 65) (v := ?_) (a' := ?_) #[false, true, true, false, false, true, true, false, false, true, true, true, false, false, false, false] rfl rfl (any_of HT_.out (by kernel_rfl)) (fun _ _ _ h => h) (Or.inl ⟨(by rfl), ?_⟩) ?_ ?_
      rotate_left
      ·intro w'
       go_simp
       with_reducible rfl
      rotate_left
      ·simp only [Act.put, List.setIfInBounds_toArray, List.set_cons_zero, List.set_cons_succ, i64_w, i32_w]
       rfl
      refine one_ (i := 0) (N := some 54) #[true, true, true, false, false, true, true, false, false, true, true, true, false, false, false, false] rfl rfl (one_of HT_.out (by kernel_rfl)) (by decide) (fun K hK => ?_)
      refine goes_ Tryz.func19 (by kernel_rfl) rfl #[.string (⟨#[113]⟩ : ByteArray)] (by rfl) rfl rfl q3_ ?_
      with_reducible refine (polyglotlaw18_text.calls (⟨#[113]⟩ : ByteArray) t285 _ A40.out).mono ?_
      rintro e w51 ⟨rfl, hb⟩
      refine ⟨_, rfl, ?_⟩
      replace BK274 := Aside0.mk (blk_below (g := gb274) (o := .cells #[.int .i64 a0_0, .string a0_1, .string a0_2, .bool a0_3, .slice A0_4 l0_4.length c0_4, .string a0_5, .string a0_6, .slice A0_7 l0_7.length c0_7] 29 (0, 0)) q1_ hb)
      replace HB := Aside0.mk (below_step q0_ hb)
      (try clear hb)
      (try clear hb2)
      (try clear hk)
      (try clear hi)
      refine hK.out _ _ ⟨(blk_cell BK274.out 0).trans rfl, (blk_cell BK274.out 1).trans rfl, (blk_cell BK274.out 2).trans rfl, (blk_cell BK274.out 3).trans rfl, (blk_cell BK274.out 4).trans rfl, (blk_cell BK274.out 5).trans rfl, (blk_cell BK274.out 6).trans rfl, (blk_cell BK274.out 7).trans rfl⟩ (fun hHeld => ?_)
      clear hK K
      refine norm_ (a' := ?_) ?_ ?_
      rotate_left
      ·show Act.put _ (some 54) _ = _
       simp only [Act.put, List.setIfInBounds_toArray, List.set_cons_zero, List.set_cons_succ, i64_w, i32_w]
       rfl
      refine one_ (i := 3) (N := some 57) #[true, true, true, true, false, true, true, false, false, true, true, true, false, false, false, false] rfl rfl (one_of HT_.out (by kernel_rfl)) (by decide) (fun K hK => ?_)
      refine goes_ Tryz.func19 (by kernel_rfl) rfl #[.string a0_5] (by rfl) rfl rfl q3_ ?_
      with_reducible refine (polyglotlaw18_text.calls a0_5 t286 _ A41.out).mono ?_
      rintro e w52 ⟨rfl, hb⟩
      refine ⟨_, rfl, ?_⟩
      replace BK274 := Aside0.mk (blk_below (g := gb274) (o := .cells #[.int .i64 a0_0, .string a0_1, .string a0_2, .bool a0_3, .slice A0_4 l0_4.length c0_4, .string a0_5, .string a0_6, .slice A0_7 l0_7.length c0_7] 29 (0, 0)) q1_ hb)
      replace HB := Aside0.mk (below_step q0_ hb)
      (try clear hb)
      (try clear hb2)
      (try clear hk)
      (try clear hi)
      refine hK.out _ _ ⟨(blk_cell BK274.out 0).trans rfl, (blk_cell BK274.out 1).trans rfl, (blk_cell BK274.out 2).trans rfl, (blk_cell BK274.out 3).trans rfl, (blk_cell BK274.out 4).trans rfl, (blk_cell BK274.out 5).trans rfl, (blk_cell BK274.out 6).trans rfl, (blk_cell BK274.out 7).trans rfl⟩ (fun hHeld => ?_)
      clear hK K
      refine norm_ (a' := ?_) ?_ ?_
      rotate_left
      ·show Act.put _ (some 57) _ = _
       simp only [Act.put, List.setIfInBounds_toArray, List.set_cons_zero, List.set_cons_succ, i64_w, i32_w]
       rfl
      refine pure_ (i := 4) (N := some 58) (v := ?_) (a' := ?_) #[true, true, true, true, true, true, true, false, false, true, true, true, false, false, false, false] rfl rfl (any_of HT_.out (by kernel_rfl)) (fun _ _ _ h => h) (Or.inl ⟨(by rfl), ?_⟩) ?_ ?_
      rotate_left
      ·intro w'
       go_simp
       with_reducible rfl
      rotate_left
      ·simp only [Act.put, List.setIfInBounds_toArray, List.set_cons_zero, List.set_cons_succ, i64_w, i32_w]
       rfl
      refine one_ (i := 7) (N := some 61) #[true, true, true, true, true, true, true, true, false, true, true, true, false, false, false, false] rfl rfl (one_of HT_.out (by kernel_rfl)) (by decide) (fun K hK => ?_)
      refine goes_ Tryz.func19 (by kernel_rfl) rfl #[.string a0_6] (by rfl) rfl rfl q3_ ?_
      with_reducible refine (polyglotlaw18_text.calls a0_6 t287 _ A43.out).mono ?_
      rintro e w53 ⟨rfl, hb⟩
      refine ⟨_, rfl, ?_⟩
      replace BK274 := Aside0.mk (blk_below (g := gb274) (o := .cells #[.int .i64 a0_0, .string a0_1, .string a0_2, .bool a0_3, .slice A0_4 l0_4.length c0_4, .string a0_5, .string a0_6, .slice A0_7 l0_7.length c0_7] 29 (0, 0)) q1_ hb)
      replace HB := Aside0.mk (below_step q0_ hb)
      (try clear hb)
      (try clear hb2)
      (try clear hk)
      (try clear hi)
      refine hK.out _ _ ⟨(blk_cell BK274.out 0).trans rfl, (blk_cell BK274.out 1).trans rfl, (blk_cell BK274.out 2).trans rfl, (blk_cell BK274.out 3).trans rfl, (blk_cell BK274.out 4).trans rfl, (blk_cell BK274.out 5).trans rfl, (blk_cell BK274.out 6).trans rfl, (blk_cell BK274.out 7).trans rfl⟩ (fun hHeld => ?_)
      clear hK K
      refine norm_ (a' := ?_) ?_ ?_
      rotate_left
      ·show Act.put _ (some 61) _ = _
       simp only [Act.put, List.setIfInBounds_toArray, List.set_cons_zero, List.set_cons_succ, i64_w, i32_w]
       rfl
      refine pure_ (i := 8) (N := some 62) (v := ?_) (a' := ?_) #[true, true, true, true, true, true, true, true, true, true, true, true, false, false, false, false] rfl rfl (any_of HT_.out (by kernel_rfl)) (fun _ _ _ h => h) (Or.inl ⟨(by rfl), ?_⟩) ?_ ?_
      rotate_left
      ·intro w'
       go_simp
       with_reducible rfl
      rotate_left
      ·simp only [Act.put, List.setIfInBounds_toArray, List.set_cons_zero, List.set_cons_succ, i64_w, i32_w]
       rfl
      refine one_ (i := 12) (N := some 66) #[true, true, true, true, true, true, true, true, true, true, true, true, true, false, false, false] rfl rfl (one_of HT_.out (by kernel_rfl)) (by decide) (fun K hK => ?_)
      refine goes_ Tryz.func20 (by kernel_rfl) rfl #[.int .i64 (l0_7.length : Int)] (by rfl) rfl rfl q3_ ?_
      with_reducible refine (strconv_Itoa.calls (l0_7.length : Int) t288 _ A45.out).mono ?_
      rintro e w54 ⟨rfl, hb⟩
      refine ⟨_, rfl, ?_⟩
      replace BK274 := Aside0.mk (blk_below (g := gb274) (o := .cells #[.int .i64 a0_0, .string a0_1, .string a0_2, .bool a0_3, .slice A0_4 l0_4.length c0_4, .string a0_5, .string a0_6, .slice A0_7 l0_7.length c0_7] 29 (0, 0)) q1_ hb)
      replace HB := Aside0.mk (below_step q0_ hb)
      (try clear hb)
      (try clear hb2)
      (try clear hk)
      (try clear hi)
      refine hK.out _ _ ⟨(blk_cell BK274.out 0).trans rfl, (blk_cell BK274.out 1).trans rfl, (blk_cell BK274.out 2).trans rfl, (blk_cell BK274.out 3).trans rfl, (blk_cell BK274.out 4).trans rfl, (blk_cell BK274.out 5).trans rfl, (blk_cell BK274.out 6).trans rfl, (blk_cell BK274.out 7).trans rfl⟩ (fun hHeld => ?_)
      clear hK K
      refine norm_ (a' := ?_) ?_ ?_
      rotate_left
      ·show Act.put _ (some 66) _ = _
       simp only [Act.put, List.setIfInBounds_toArray, List.set_cons_zero, List.set_cons_succ, i64_w, i32_w]
       rfl
      refine one_ (i := 13) (N := some 67) #[true, true, true, true, true, true, true, true, true, true, true, true, true, true, false, false] rfl rfl (one_of HT_.out (by kernel_rfl)) (by decide) (fun K hK => ?_)
      refine goes_ Tryz.func19 (by kernel_rfl) rfl #[.string t288] (by rfl) rfl rfl q3_ ?_
      with_reducible refine (polyglotlaw18_text.calls t288 t289 _ A46.out).mono ?_
      rintro e w55 ⟨rfl, hb⟩
      refine ⟨_, rfl, ?_⟩
      replace BK274 := Aside0.mk (blk_below (g := gb274) (o := .cells #[.int .i64 a0_0, .string a0_1, .string a0_2, .bool a0_3, .slice A0_4 l0_4.length c0_4, .string a0_5, .string a0_6, .slice A0_7 l0_7.length c0_7] 29 (0, 0)) q1_ hb)
      replace HB := Aside0.mk (below_step q0_ hb)
      (try clear hb)
      (try clear hb2)
      (try clear hk)
      (try clear hi)
      refine hK.out _ _ ⟨(blk_cell BK274.out 0).trans rfl, (blk_cell BK274.out 1).trans rfl, (blk_cell BK274.out 2).trans rfl, (blk_cell BK274.out 3).trans rfl, (blk_cell BK274.out 4).trans rfl, (blk_cell BK274.out 5).trans rfl, (blk_cell BK274.out 6).trans rfl, (blk_cell BK274.out 7).trans rfl⟩ (fun hHeld => ?_)
      clear hK K
      refine norm_ (a' := ?_) ?_ ?_
      rotate_left
      ·show Act.put _ (some 67) _ = _
       simp only [Act.put, List.setIfInBounds_toArray, List.set_cons_zero, List.set_cons_succ, i64_w, i32_w]
       rfl
      refine pure_ (i := 14) (N := some 68) (v := ?_) (a' := ?_) #[true, true, true, true, true, true, true, true, true, true, true, true, true, true, true, false] rfl rfl (any_of HT_.out (by kernel_rfl)) (fun _ _ _ h => h) (Or.inl ⟨(by rfl), ?_⟩) ?_ ?_
      rotate_left
      ·intro w'
       go_simp
       with_reducible rfl
      rotate_left
      ·simp only [Act.put, List.setIfInBounds_toArray, List.set_cons_zero, List.set_cons_succ, i64_w, i32_w]
       rfl
      refine pure_ (i := 15) (N := some 7) (v := ?_) (a' := ?_) #[true, true, true, true, true, true, true, true, true, true, true, true, true, true, true, true] rfl rfl (any_of HT_.out (by kernel_rfl)) (fun _ _ _ h => h) (Or.inl ⟨(by rfl), ?_⟩) ?_ ?_
      rotate_left
      ·intro w'
       go_simp
       with_reducible rfl
      rotate_left
      ·simp only [Act.put, List.setIfInBounds_toArray, List.set_cons_zero, List.set_cons_succ, i64_w, i32_w]
       rfl
      refine done_ (done_of HT_.out (by kernel_rfl)) ?_
      obtain ⟨hcz56_0, hcz56_1, hcz56_2, hcz56_3, hcz56_4, hcz56_5, hcz56_6, hcz56_7, hfz56_0, hfz56_1, hfz56_2, hfz56_3, hfz56_4, hfz56_5, hfz56_6, hfz56_7⟩ := cellsF8 BK274.out
      try go_wp2
      go_loopg [7, 72] k (fun kq v7 v72 w' => ∃ (x7_1 : ByteArray) (x72_1 : Int), v7 = .string x7_1 ∧ v72 = .int .i64 x72_1 ∧ Aside0 (polyglotlaw18_Bytes.l1 kq x7_1 l0_7 (l0_7.length : Int) x72_1 = some r) ∧ Aside0 (kq ≤ k) ∧ Aside0 (w'.heap[gb274]? = some (.cells #[.int .i64 a0_0, .string a0_1, .string a0_2, .bool a0_3, (.slice A0_4 l0_4.length c0_4), .string a0_5, .string a0_6, (.slice A0_7 l0_7.length c0_7)] 29 (0, 0))) ∧ Aside0 (Below w.heap.size w w'))
      case atStart => exact ⟨(((t285 ++ t286) ++ t287) ++ t289), (0), q7_, q7_, H', ⟨Nat.le_refl _⟩, ⟨q1_⟩, ⟨q0_⟩⟩
      case round =>
       clear H'
       try clear c1
       try clear c2
       try clear c2b0
       try clear c2b1
       try clear p2 p2
       try clear q2
       try clear hx2
       try clear c3
       try clear c4
       try clear c6
       try clear p6
       try clear c9
       try clear c9b0
       try clear c9b1
       try clear c9b2
       try clear c11
       try clear c11b0
       try clear c11b1
       try clear c11b2
       try clear c13
       try clear c13b0
       try clear c13b1
       try clear c13b2
       try clear c19
       try clear c19b0
       try clear c19b1
       try clear c20
       try clear c22
       try clear c22b0
       try clear c22b1
       try clear c22b2
       try clear c25
       try clear c25b0
       try clear c25b1
       try clear c25b2
       try clear p28
       try clear q28
       try clear hx28
       try clear c34
       try clear c34b0
       try clear c35
       try clear c35b0
       try clear c36
       try clear c36b0
       try clear c38
       try clear c38b0
       try clear c38b1
       try clear c38b2
       try clear c42
       try clear c42b0
       try clear c42b1
       try clear c42b2
       try clear c44
       try clear c44b0
       try clear c44b1
       try clear c44b2
       try clear c47
       try clear c47b0
       try clear c47b1
       try clear c47b2
       try clear hcz27_0 hcz27_1 hcz27_2 hcz27_3 hcz27_4 hcz27_5 hcz27_6 hcz27_7
       try clear hcz33_0 hcz33_1 hcz33_2 hcz33_3 hcz33_4 hcz33_5 hcz33_6 hcz33_7
       try clear hcz49_0 hcz49_1 hcz49_2 hcz49_3 hcz49_4 hcz49_5 hcz49_6 hcz49_7
       try clear hcz56_0 hcz56_1 hcz56_2 hcz56_3 hcz56_4 hcz56_5 hcz56_6 hcz56_7
       try clear hcz5_0 hcz5_1 hcz5_2 hcz5_3 hcz5_4 hcz5_5 hcz5_6 hcz5_7
       try clear hfz27_0 hfz27_1 hfz27_2 hfz27_3 hfz27_4 hfz27_5 hfz27_6 hfz27_7
       try clear hfz33_0 hfz33_1 hfz33_2 hfz33_3 hfz33_4 hfz33_5 hfz33_6 hfz33_7
       try clear hfz49_0 hfz49_1 hfz49_2 hfz49_3 hfz49_4 hfz49_5 hfz49_6 hfz49_7
       try clear hfz56_0 hfz56_1 hfz56_2 hfz56_3 hfz56_4 hfz56_5 hfz56_6 hfz56_7
       try clear hfz5_0 hfz5_1 hfz5_2 hfz5_3 hfz5_4 hfz5_5 hfz5_6 hfz5_7
       try clear hx283_0
       try clear p283
       try clear q283
       obtain ⟨x7_1, x72_1, rfl, rfl, HA, HK1, BK274, HB⟩ := hrel
       cases gk with
       | zero => exact absurd HA.out (by simp [polyglotlaw18_Bytes.l1])
       | succ k1 =>
        have H := HA.out
        clear HA
        simp only [polyglotlaw18_Bytes.l1] at H
        by_cases c57 : x72_1 < (l0_7.length : Int)
        ·rw [if_pos c57] at H
         have c57b0 : decide (x72_1 < (l0_7.length : Int)) = true := decide_eq_true c57
         clear c57
         by_cases c58 : 0 ≤ x72_1
         ·rw [if_pos c58] at H
          have c58b0 : decide (0 ≤ x72_1) = true := decide_eq_true c58
          clear c58
          by_cases c59 : x72_1 < (l0_7.length : Int)
          ·rw [if_pos c59] at H
           have c59b0 : decide (x72_1 < (l0_7.length : Int)) = true := decide_eq_true c59
           clear c59
           replace H := Option.bind_eq_some_iff.mp H
           obtain ⟨t292, A600, H⟩ := H
           replace H : (if x7_1.size + t292.size ≤ 9223372036854775807 then ((some (([(⟨#[116]⟩ : ByteArray), (⟨#[110]⟩ : ByteArray), (⟨#[109]⟩ : ByteArray)] : List ByteArray) : List ByteArray)).bind fun y293 => (if 0 ≤ ((rd_T44 l0_7 x72_1).f1) then (if ((rd_T44 l0_7 x72_1).f1) < (y293.length : Int) then ((polyglotlaw18_text.f (rdOf ByteArray.empty y293 ((rd_T44 l0_7 x72_1).f1))).bind fun t297 => (if (x7_1 ++ t292).size + t297.size ≤ 9223372036854775807 then ((polyglotlaw18_text.f ((rd_T44 l0_7 x72_1).f2)).bind fun t298 => (if ((x7_1 ++ t292) ++ t297).size + t298.size ≤ 9223372036854775807 then (polyglotlaw18_Bytes.l1 k1 (((x7_1 ++ t292) ++ t297) ++ t298) l0_7 (l0_7.length : Int) (wrap64 (x72_1 + 1))) else (none))) else (none))) else (none)) else (none))) else (none)) = some r := H
           have A60 := Aside0.mk A600
           clear A600
           by_cases c61 : x7_1.size + t292.size ≤ 9223372036854775807
           ·rw [if_pos c61] at H
            try simp only [show wrap64 ((x7_1.size : Int) + (t292.size : Int)) = (x7_1.size : Int) + (t292.size : Int) from by unfold wrap64; omega] at *
            have c61b0 := eq_true c61
            have c61b1 : decide (x7_1.size + t292.size ≤ 9223372036854775807) = true := decide_eq_true c61
            try have c61b2 : (9223372036854775807 < x7_1.size + t292.size) = False := eq_false (Nat.not_lt.2 c61)
            obtain ⟨y293, hy293⟩ : ∃ y_ : List ByteArray, y_ = (([(⟨#[116]⟩ : ByteArray), (⟨#[110]⟩ : ByteArray), (⟨#[109]⟩ : ByteArray)] : List ByteArray)) := ⟨_, rfl⟩
            replace H : (if 0 ≤ ((rd_T44 l0_7 x72_1).f1) then (if ((rd_T44 l0_7 x72_1).f1) < (y293.length : Int) then ((polyglotlaw18_text.f (rdOf ByteArray.empty y293 ((rd_T44 l0_7 x72_1).f1))).bind fun t297 => (if (x7_1 ++ t292).size + t297.size ≤ 9223372036854775807 then ((polyglotlaw18_text.f ((rd_T44 l0_7 x72_1).f2)).bind fun t298 => (if ((x7_1 ++ t292) ++ t297).size + t298.size ≤ 9223372036854775807 then (polyglotlaw18_Bytes.l1 k1 (((x7_1 ++ t292) ++ t297) ++ t298) l0_7 (l0_7.length : Int) (wrap64 (x72_1 + 1))) else (none))) else (none))) else (none)) else (none)) = some r := by first | (rw [hy293]; with_reducible exact H) | (have H2_ := (Option.bind_some _ _).symm.trans H; rw [hy293]; with_reducible exact H2_) | (have H2_ := (Option.bind_some _ _).symm.trans H; with_reducible exact H2_) | with_reducible exact H | (rw [hy293]; exact H) | exact H
            have Ny293 := Aside0.mk hy293
            clear hy293
            by_cases c62 : 0 ≤ ((rd_T44 l0_7 x72_1).f1)
            ·rw [if_pos c62] at H
             have c62b0 : decide (0 ≤ ((rd_T44 l0_7 x72_1).f1)) = true := decide_eq_true c62
             clear c62
             by_cases c63 : ((rd_T44 l0_7 x72_1).f1) < (y293.length : Int)
             ·rw [if_pos c63] at H
              have c63b0 : decide (((rd_T44 l0_7 x72_1).f1) < (y293.length : Int)) = true := decide_eq_true c63
              clear c63
              replace H := Option.bind_eq_some_iff.mp H
              obtain ⟨t297, A640, H⟩ := H
              replace H : (if (x7_1 ++ t292).size + t297.size ≤ 9223372036854775807 then ((polyglotlaw18_text.f ((rd_T44 l0_7 x72_1).f2)).bind fun t298 => (if ((x7_1 ++ t292) ++ t297).size + t298.size ≤ 9223372036854775807 then (polyglotlaw18_Bytes.l1 k1 (((x7_1 ++ t292) ++ t297) ++ t298) l0_7 (l0_7.length : Int) (wrap64 (x72_1 + 1))) else (none))) else (none)) = some r := H
              have A64 := Aside0.mk A640
              clear A640
              by_cases c65 : (x7_1 ++ t292).size + t297.size ≤ 9223372036854775807
              ·rw [if_pos c65] at H
               have c65b0 := eq_true c65
               try have c65n := c65
               try simp only [ByteArray.size_append] at c65n
               try have c65m := eq_false (Nat.not_lt.2 c65n)
               try have c65k := eq_true c65n
               have c65b1 : decide ((x7_1 ++ t292).size + t297.size ≤ 9223372036854775807) = true := decide_eq_true c65
               try have c65b2 : (9223372036854775807 < (x7_1 ++ t292).size + t297.size) = False := eq_false (Nat.not_lt.2 c65)
               replace H := Option.bind_eq_some_iff.mp H
               obtain ⟨t298, A660, H⟩ := H
               replace H : (if ((x7_1 ++ t292) ++ t297).size + t298.size ≤ 9223372036854775807 then (polyglotlaw18_Bytes.l1 k1 (((x7_1 ++ t292) ++ t297) ++ t298) l0_7 (l0_7.length : Int) (wrap64 (x72_1 + 1))) else (none)) = some r := H
               have A66 := Aside0.mk A660
               clear A660
               by_cases c67 : ((x7_1 ++ t292) ++ t297).size + t298.size ≤ 9223372036854775807
               ·rw [if_pos c67] at H
                have c67b0 := eq_true c67
                try have c67n := c67
                try simp only [ByteArray.size_append] at c67n
                try have c67m := eq_false (Nat.not_lt.2 c67n)
                try have c67k := eq_true c67n
                have c67b1 : decide (((x7_1 ++ t292) ++ t297).size + t298.size ≤ 9223372036854775807) = true := decide_eq_true c67
                try have c67b2 : (9223372036854775807 < ((x7_1 ++ t292) ++ t297).size + t298.size) = False := eq_false (Nat.not_lt.2 c67)
                have H' := Aside0.mk H
                clear H
                have p290 : 0 ≤ (x72_1 : Int) := of_decide_eq_true q8_
                have q290 : x72_1 < (l0_7.length : Int) := of_decide_eq_true q8_
                obtain ⟨ad290, e290, hx290_0, hx290_1, hx290_2⟩ := at_T44 HR0_7.out x72_1 p290 q290
                cases e290
                replace hx290_0 := (HB.out.cell (World.block_lt_of_cell? w _ hx290_0)).trans hx290_0
                replace hx290_1 := (HB.out.cell (World.block_lt_of_cell? w _ hx290_1)).trans hx290_1
                replace hx290_2 := (HB.out.cell (World.block_lt_of_cell? w _ hx290_2)).trans hx290_2
                replace p290 := eq_true p290
                replace q290 := eq_true q290
                try go_wp2_with (first | ((with_reducible refine gate_dst (N := 9) rfl ?_); refine box_event ?hg (N := 9) ?hd (cs := #[.string (⟨#[]⟩ : ByteArray), .int .i64 0, .string (⟨#[]⟩ : ByteArray)]) (t := 44) ?hr ?_; (case hd => rfl); (case hg => rfl); (case hr => exact u0_); intro gb291 hg w68 hbox hb; have BK291 := Aside0.mk (hbox); have GW291 := Aside0.mk (((by rw [hg]; exact (below_size q0_)) : w.heap.size ≤ gb291)); have GE291 := Aside0.mk (((by rw [hg]; exact (below_size q0_)) : w.heap.size ≤ gb291)); replace HB := Aside0.mk (below_step q0_ hb); have NB274_291 := Aside0.mk (((by rw [hg]; exact Nat.ne_of_lt (blk_lt (g := gb274) (o := .cells #[.int .i64 a0_0, .string a0_1, .string a0_2, .bool a0_3, .slice A0_4 l0_4.length c0_4, .string a0_5, .string a0_6, .slice (some ad290) l0_7.length c0_7] 29 (0, 0)) q1_)) : gb274 ≠ gb291)); have NB291_274 := Aside0.mk (((by rw [hg]; exact Nat.ne_of_gt (blk_lt (g := gb274) (o := .cells #[.int .i64 a0_0, .string a0_1, .string a0_2, .bool a0_3, .slice A0_4 l0_4.length c0_4, .string a0_5, .string a0_6, .slice (some ad290) l0_7.length c0_7] 29 (0, 0)) q1_)) : gb291 ≠ gb274)); replace BK274 := Aside0.mk (blk_below (g := gb274) (o := .cells #[.int .i64 a0_0, .string a0_1, .string a0_2, .bool a0_3, .slice A0_4 l0_4.length c0_4, .string a0_5, .string a0_6, .slice (some ad290) l0_7.length c0_7] 29 (0, 0)) q1_ hb); clear hb hbox hg; have hnb69 := NB291_274.out; have hnc69 := NB274_291.out; obtain ⟨hcz70_0, hcz70_1, hcz70_2, hfz70_0, hfz70_1, hfz70_2⟩ := cellsF3 BK291.out))
                have pi296 : (0 ≤ (((rd_T44 l0_7 x72_1).f1) : Int)) = True := eq_true (of_decide_eq_true q8_)
                have qi296 : (((rd_T44 l0_7 x72_1).f1) < (y293.length : Int)) = True := eq_true (of_decide_eq_true q8_)
                have n0_ : Aside0 ((((w68.setCell ⟨gb291, 0, none⟩ (.string ((rd_T44 l0_7 x72_1).f0))).setCell ⟨gb291, 1, none⟩ (.int .i64 ((rd_T44 l0_7 x72_1).f1))).setCell ⟨gb291, 2, none⟩ (.string ((rd_T44 l0_7 x72_1).f2))).heap[gb274]? = some (.cells #[.int .i64 a0_0, .string a0_1, .string a0_2, .bool a0_3, .slice A0_4 l0_4.length c0_4, .string a0_5, .string a0_6, .slice (some ad290) l0_7.length c0_7] 29 (0, 0))) := ⟨(by (with_reducible repeat (first | refine blk_drewN ?_ _ | refine blk_drew ?_ | refine blk_alloc ?_ _)); refine blk_far ?_ NB274_291.out _; (with_reducible repeat (first | refine blk_drewN ?_ _ | refine blk_drew ?_ | refine blk_alloc ?_ _)); refine blk_far ?_ NB274_291.out _; (with_reducible repeat (first | refine blk_drewN ?_ _ | refine blk_drew ?_ | refine blk_alloc ?_ _)); refine blk_far ?_ NB274_291.out _; (with_reducible repeat (first | refine blk_drewN ?_ _ | refine blk_drew ?_ | refine blk_alloc ?_ _)); exact BK274.out)⟩
                have n1_ : Aside0 ((((w68.setCell ⟨gb291, 0, none⟩ (.string ((rd_T44 l0_7 x72_1).f0))).setCell ⟨gb291, 1, none⟩ (.int .i64 ((rd_T44 l0_7 x72_1).f1))).setCell ⟨gb291, 2, none⟩ (.string ((rd_T44 l0_7 x72_1).f2))).heap[gb291]? = some (.cells #[.string ((rd_T44 l0_7 x72_1).f0), .int .i64 ((rd_T44 l0_7 x72_1).f1), .string ((rd_T44 l0_7 x72_1).f2)] 44 (0, 0))) := ⟨(by (with_reducible repeat (first | refine blk_drewN ?_ _ | refine blk_drew ?_ | refine blk_alloc ?_ _)); refine blk_put (cs := #[.string ((rd_T44 l0_7 x72_1).f0), .int .i64 ((rd_T44 l0_7 x72_1).f1), .string (⟨#[]⟩ : ByteArray)]) ?_ 2 _ rfl; (with_reducible repeat (first | refine blk_drewN ?_ _ | refine blk_drew ?_ | refine blk_alloc ?_ _)); refine blk_put (cs := #[.string ((rd_T44 l0_7 x72_1).f0), .int .i64 0, .string (⟨#[]⟩ : ByteArray)]) ?_ 1 _ rfl; (with_reducible repeat (first | refine blk_drewN ?_ _ | refine blk_drew ?_ | refine blk_alloc ?_ _)); refine blk_put (cs := #[.string (⟨#[]⟩ : ByteArray), .int .i64 0, .string (⟨#[]⟩ : ByteArray)]) ?_ 0 _ rfl; (with_reducible repeat (first | refine blk_drewN ?_ _ | refine blk_drew ?_ | refine blk_alloc ?_ _)); exact BK291.out)⟩
                have n2_ : Aside0 (Below w.heap.size w (((w68.setCell ⟨gb291, 0, none⟩ (.string ((rd_T44 l0_7 x72_1).f0))).setCell ⟨gb291, 1, none⟩ (.int .i64 ((rd_T44 l0_7 x72_1).f1))).setCell ⟨gb291, 2, none⟩ (.string ((rd_T44 l0_7 x72_1).f2)))) := ⟨q2_⟩
                (try clear BK274)
                (try clear BK291)
                (try clear HB)
                generalize (((w68.setCell ⟨gb291, 0, none⟩ (.string ((rd_T44 l0_7 x72_1).f0))).setCell ⟨gb291, 1, none⟩ (.int .i64 ((rd_T44 l0_7 x72_1).f1))).setCell ⟨gb291, 2, none⟩ (.string ((rd_T44 l0_7 x72_1).f2))) = w71 at n0_ n1_ n2_ ⊢
                have BK274 := n0_
                have BK291 := n1_
                have HB := n2_
                clear n0_ n1_ n2_
                replace BK274 := Aside0.mk (blk_drew BK274.out)
                replace BK291 := Aside0.mk (blk_drew BK291.out)
                replace HB := Aside0.mk (below_drew1 HB.out)
                refine start_ (n := 17) (S := fun w' => True) (ds := []) #[false, false, false, false, false, false, false, false, false, false, false, false, false, false, false, false, false] (by kernel_rfl) rfl rfl trivial (fun hHeld => ?_); refine with_tabW polyglotlaw18_Bytes.tab18 polyglotlaw18_Bytes.bits18 (fun HT_ HW_ => ?_)
                generalize w71.drew = w72 at BK274 BK291 HB hHeld ⊢
                refine pure_ (i := 0) (N := some 76) (v := ?_) (a' := ?_) #[true, false, false, false, false, false, false, false, false, false, false, false, false, false, false, false, false] rfl rfl (any_of HT_.out (by kernel_rfl)) (fun _ _ _ h => h) (Or.inl ⟨(by rfl), ?_⟩) ?_ ?_
                rotate_left
                ·intro w'
                 go_simp
                 with_reducible rfl
                rotate_left
                ·simp only [Act.put, List.setIfInBounds_toArray, List.set_cons_zero, List.set_cons_succ, i64_w, i32_w]
                 rfl
                refine pure_ (i := 1) (N := some 77) (v := ?_) (a' := ?_) #[true, true, false, false, false, false, false, false, false, false, false, false, false, false, false, false, false] rfl rfl (any_of HT_.out (by kernel_rfl)) (fun _ _ _ h => h) (Or.inl ⟨(by rfl), ?_⟩) ?_ ?_
                rotate_left
                ·intro w'
                 go_simp
                 with_reducible rfl
                rotate_left
                ·simp only [Act.put, List.setIfInBounds_toArray, List.set_cons_zero, List.set_cons_succ, i64_w, i32_w]
                 rfl
                refine pure_ (i := 6) (N := some 82) (v := ?_) (a' := ?_) #[true, true, false, false, false, false, true, false, false, false, false, false, false, false, false, false, false] rfl rfl (any_of HT_.out (by kernel_rfl)) (fun _ _ _ h => h) (Or.inl ⟨(by rfl), ?_⟩) ?_ ?_
                rotate_left
                ·intro w'
                 go_simp
                 with_reducible rfl
                rotate_left
                ·simp only [Act.put, List.setIfInBounds_toArray, List.set_cons_zero, List.set_cons_succ, i64_w, i32_w]
                 rfl
                refine pure_ (i := 12) (N := some 88) (v := ?_) (a' := ?_) #[true, true, false, false, false, false, true, false, false, false, false, false, true, false, false, false, false] rfl rfl (any_of HT_.out (by kernel_rfl)) (fun _ _ _ h => h) (Or.inl ⟨(by rfl), ?_⟩) ?_ ?_
                rotate_left
                ·intro w'
                 go_simp
                 with_reducible rfl
                rotate_left
                ·simp only [Act.put, List.setIfInBounds_toArray, List.set_cons_zero, List.set_cons_succ, i64_w, i32_w]
                 rfl
                refine inv_at [2, 3, 4, 5, 7, 8, 9, 10, 11, 13, 14, 15, 16] (fun a0_ b a w' => ∃ (v294 : Value) (adz_v294 : Addr) (m8_ : Value), a = putSel a0_ b [(2, 78, .string ((rd_T44 l0_7 x72_1).f0)), (3, 79, .string t292), (4, 80, .string (x7_1 ++ t292)), (5, 81, v294), (7, 83, .int .i64 ((rd_T44 l0_7 x72_1).f1)), (8, 84, m8_), (9, 85, .string (rdOf ByteArray.empty y293 ((rd_T44 l0_7 x72_1).f1))), (10, 86, .string t297), (11, 87, .string ((x7_1 ++ t292) ++ t297)), (13, 89, .string ((rd_T44 l0_7 x72_1).f2)), (14, 90, .string t298), (15, 91, .string (((x7_1 ++ t292) ++ t297) ++ t298)), (16, 7, .string (((x7_1 ++ t292) ++ t297) ++ t298))] ∧ (w'.heap[gb274]? = some (.cells #[.int .i64 a0_0, .string a0_1, .string a0_2, .bool a0_3, .slice A0_4 l0_4.length c0_4, .string a0_5, .string a0_6, .slice (some ad290) l0_7.length c0_7] 29 (0, 0))) ∧ (w'.heap[gb291]? = some (.cells #[.string ((rd_T44 l0_7 x72_1).f0), .int .i64 ((rd_T44 l0_7 x72_1).f1), .string ((rd_T44 l0_7 x72_1).f2)] 44 (0, 0))) ∧ (Below w.heap.size w w') ∧ (b 5 = true → Kd.R Kd.string 9 w' w.heap.size (fun _ => True) v294 y293) ∧ (b 5 = true → ∃ c_, (v294 : Value) = .slice (some adz_v294) y293.length c_) ∧ (b 8 = true → (m8_ : Value) = .pointer (some (adz_v294.add (((rd_T44 l0_7 x72_1).f1)).toNat)))) HT_.out HW_.out (by kernel_rfl) (by kernel_rfl) ?_ ?_ ?_
                ·exact ⟨.bool false, ⟨0, 0, none⟩, .bool false, (by simp only [putSel, Bool.false_eq_true, if_false]), BK274.out, BK291.out, HB.out, fun h_ => absurd h_ (by decide), fun h_ => absurd h_ (by decide), fun h_ => absurd h_ (by decide)⟩
                ·skip
                 clear BK274 BK291 HB
                 refine steps_cons ?_ ?_
                 ·rintro b a w' ⟨v294, adz_v294, m8_, ha, Q_BK274, Q_BK291, Q_HB, Q_HO295, Q_HA_HO295, Q_X8_⟩ hb_ hon hoff
                  refine ⟨_, rfl, fun K hK => ?_⟩
                  have e77 : a.tmps[77]? = some (.pointer (some ⟨gb291, 0, none⟩)) := by rw [ha]; exact (putSel_off rfl).trans rfl
                  replace ha := Aside0.mk ha
                  have BK274 := Aside0.mk Q_BK274
                  have BK291 := Aside0.mk Q_BK291
                  have HB := Aside0.mk Q_HB
                  have hc0_ : w'.cell? ⟨gb291, 0, none⟩ = some (.string ((rd_T44 l0_7 x72_1).f0)) := (blk_cell BK291.out 0).trans rfl
                  have hc1_ : w'.cell? ⟨gb291, 1, none⟩ = some (.int .i64 ((rd_T44 l0_7 x72_1).f1)) := (blk_cell BK291.out 1).trans rfl
                  have hc2_ : w'.cell? ⟨gb291, 2, none⟩ = some (.string ((rd_T44 l0_7 x72_1).f2)) := (blk_cell BK291.out 2).trans rfl
                  refine value_ (w1 := w') (v := .string ((rd_T44 l0_7 x72_1).f0)) (by rfl) rfl ?_ ?_
                  ·go_simp
                   (try simp only [i64_w])
                   try rfl
                  refine hK.out _ _ ⟨v294, adz_v294, m8_, (by rw [ha.out]; exact putSel_upk 0 hb_ rfl rfl rfl), Q_BK274, Q_BK291, Q_HB, Q_HO295, Q_HA_HO295, Q_X8_⟩
                 refine steps_cons ?_ ?_
                 ·rintro b a w' ⟨v294, adz_v294, m8_, ha, Q_BK274, Q_BK291, Q_HB, Q_HO295, Q_HA_HO295, Q_X8_⟩ hb_ hon hoff
                  refine ⟨_, rfl, fun K hK => ?_⟩
                  have e78 : a.tmps[78]? = some (.string ((rd_T44 l0_7 x72_1).f0)) := by rw [ha]; exact putSel_on (e := (2, 78, .string ((rd_T44 l0_7 x72_1).f0))) 0 rfl rfl (hon 2 (by kernel_rfl)) rfl
                  replace ha := Aside0.mk ha
                  have BK274 := Aside0.mk Q_BK274
                  have BK291 := Aside0.mk Q_BK291
                  have HB := Aside0.mk Q_HB
                  refine goes_ Tryz.func19 (by kernel_rfl) rfl #[.string ((rd_T44 l0_7 x72_1).f0)] (by rfl) rfl rfl (by first | (simp only [List.map_toArray, List.map_cons, List.map_nil, Act.eval, Array.getD_eq_getD_getElem?, Option.getD_some, e78]; done) | (simp only [List.map_toArray, List.map_cons, List.map_nil, Act.eval, Array.getD_eq_getD_getElem?, Option.getD_some, e78]; rfl)) ?_
                  with_reducible refine (polyglotlaw18_text.calls ((rd_T44 l0_7 x72_1).f0) t292 _ A60.out).mono ?_
                  rintro e w73 ⟨rfl, hb⟩
                  refine ⟨_, rfl, ?_⟩
                  have n0_ := Aside0.mk (blk_below (g := gb274) (o := .cells #[.int .i64 a0_0, .string a0_1, .string a0_2, .bool a0_3, .slice A0_4 l0_4.length c0_4, .string a0_5, .string a0_6, .slice (some ad290) l0_7.length c0_7] 29 (0, 0)) q1_ hb)
                  have n1_ := Aside0.mk (blk_below (g := gb291) (o := .cells #[.string ((rd_T44 l0_7 x72_1).f0), .int .i64 ((rd_T44 l0_7 x72_1).f1), .string ((rd_T44 l0_7 x72_1).f2)] 44 (0, 0)) q5_ hb)
                  have n2_ := Aside0.mk (below_step q2_ hb)
                  have z_HO295 := fun (h0_ : b 5 = true) => (show Kd.R Kd.string 9 w73 w.heap.size (fun _ => True) v294 y293 from by first | exact (Kd.R_below (by (with_reducible repeat (first | apply Kd.R_alloc | apply Kd.R_drewN | apply Kd.R_drew)); exact (Q_HO295 h0_)) hb) | exact Kd.R_mono (Kd.R_below (by (with_reducible repeat (first | apply Kd.R_alloc | apply Kd.R_drewN | apply Kd.R_drew)); exact (Q_HO295 h0_)) hb) (fun _ h_ => by first | trivial | exact h_ | exact h_.1))
                  clear BK274 BK291 HB
                  have BK274 := n0_
                  have BK291 := n1_
                  have HB := n2_
                  clear n0_ n1_ n2_
                  (try clear hb)
                  (try clear hb2)
                  (try clear hk)
                  (try clear hi)
                  refine hK.out _ _ ⟨v294, adz_v294, m8_, (by rw [ha.out]; exact putSel_upk 1 hb_ rfl rfl rfl), q1_, q5_, q2_, z_HO295, Q_HA_HO295, Q_X8_⟩
                 refine steps_cons ?_ ?_
                 ·rintro b a w' ⟨v294, adz_v294, m8_, ha, Q_BK274, Q_BK291, Q_HB, Q_HO295, Q_HA_HO295, Q_X8_⟩ hb_ hon hoff
                  refine ⟨_, rfl, fun K hK => ?_⟩
                  have e76 : a.tmps[76]? = some (.string x7_1) := by rw [ha]; exact (putSel_off rfl).trans rfl
                  have e79 : a.tmps[79]? = some (.string t292) := by rw [ha]; exact putSel_on (e := (3, 79, .string t292)) 1 rfl rfl (hon 3 (by kernel_rfl)) rfl
                  replace ha := Aside0.mk ha
                  have BK274 := Aside0.mk Q_BK274
                  have BK291 := Aside0.mk Q_BK291
                  have HB := Aside0.mk Q_HB
                  refine value_ (w1 := w') (v := .string (x7_1 ++ t292)) (by rfl) rfl ?_ ?_
                  ·go_simp
                   (try simp only [i64_w])
                   try rfl
                  refine hK.out _ _ ⟨v294, adz_v294, m8_, (by rw [ha.out]; exact putSel_upk 2 hb_ rfl rfl rfl), Q_BK274, Q_BK291, Q_HB, Q_HO295, Q_HA_HO295, Q_X8_⟩
                 refine steps_cons ?_ ?_
                 ·rintro b a w' ⟨v294, adz_v294, m8_, ha, Q_BK274, Q_BK291, Q_HB, Q_HO295, Q_HA_HO295, Q_X8_⟩ hb_ hon hoff
                  refine ⟨_, rfl, fun K hK => ?_⟩
                  replace ha := Aside0.mk ha
                  have BK274 := Aside0.mk Q_BK274
                  have BK291 := Aside0.mk Q_BK291
                  have HB := Aside0.mk Q_HB
                  refine Kd.R_lit_step Kd.string _ 9 ?hg (N := 81) ?hd (xs := ([(⟨#[116]⟩ : ByteArray), (⟨#[110]⟩ : ByteArray), (⟨#[109]⟩ : ByteArray)] : List ByteArray)) (inner := [.string (⟨#[116]⟩ : ByteArray), .string (⟨#[110]⟩ : ByteArray), .string (⟨#[109]⟩ : ByteArray)]) (ok := fun _ => True) (okp := fun _ => True) ?hr ?hp (fun _ hk => hk) trivial (Below.refl _ _) (Nat.le_refl _) (by simp) ?_; (case hd => rfl); (case hg => rfl); (case hr => exact u0_); (case hp => exact (Reps.one (show Kd.M Kd.string _ _ _ (⟨#[116]⟩ : ByteArray) [.string (⟨#[116]⟩ : ByteArray)] from rfl) (Reps.one (show Kd.M Kd.string _ _ _ (⟨#[110]⟩ : ByteArray) [.string (⟨#[110]⟩ : ByteArray)] from rfl) (Reps.one (show Kd.M Kd.string _ _ _ (⟨#[109]⟩ : ByteArray) [.string (⟨#[109]⟩ : ByteArray)] from rfl) (Reps.none _ _)))))
                  intro v294 w73 ho74 hb hg_ hnew_
                  clear hg_ hnew_
                  (first | rw [← Ny293.out] at ho74 | (simp only [Int.reduceToNat] at ho74; rw [← Ny293.out] at ho74))
                  have HO295 := Aside0.mk (Kd.R_lower ho74 (below_size q2_))
                  replace BK274 := Aside0.mk (blk_below (g := gb274) (o := .cells #[.int .i64 a0_0, .string a0_1, .string a0_2, .bool a0_3, .slice A0_4 l0_4.length c0_4, .string a0_5, .string a0_6, .slice (some ad290) l0_7.length c0_7] 29 (0, 0)) q1_ hb)
                  replace BK291 := Aside0.mk (blk_below (g := gb291) (o := .cells #[.string ((rd_T44 l0_7 x72_1).f0), .int .i64 ((rd_T44 l0_7 x72_1).f1), .string ((rd_T44 l0_7 x72_1).f2)] 44 (0, 0)) q5_ hb)
                  replace HB := Aside0.mk (below_step q2_ hb)
                  clear hb ho74
                  obtain ⟨Ao75, co75, eo75⟩ := Kd.R_slice HO295.out
                  subst eo75
                  obtain ⟨ado75, fo75, _⟩ := Kd.at_string (Kd.R_reads' HO295.out).2.2 0 (by decide) (by rw [Ny293.out]; simp)
                  cases fo75
                  refine hK.out _ _ ⟨.slice (some ado75) y293.length co75, ado75, m8_, (by rw [ha.out]; exact putSel_upk 3 hb_ rfl rfl rfl), q1_, q5_, q2_, fun _ => q6_, fun _ => ⟨_, rfl⟩, fun h0_ => absurd ((hoff 8 (by kernel_rfl)).symm.trans h0_) (by decide)⟩
                 refine steps_cons ?_ ?_
                 ·rintro b a w' ⟨v294, adz_v294, m8_, ha, Q_BK274, Q_BK291, Q_HB, Q_HO295, Q_HA_HO295, Q_X8_⟩ hb_ hon hoff
                  refine ⟨_, rfl, fun K hK => ?_⟩
                  have e82 : a.tmps[82]? = some (.pointer (some ⟨gb291, 1, none⟩)) := by rw [ha]; exact (putSel_off rfl).trans rfl
                  replace ha := Aside0.mk ha
                  have BK274 := Aside0.mk Q_BK274
                  have BK291 := Aside0.mk Q_BK291
                  have HB := Aside0.mk Q_HB
                  have hc0_ : w'.cell? ⟨gb291, 0, none⟩ = some (.string ((rd_T44 l0_7 x72_1).f0)) := (blk_cell BK291.out 0).trans rfl
                  have hc1_ : w'.cell? ⟨gb291, 1, none⟩ = some (.int .i64 ((rd_T44 l0_7 x72_1).f1)) := (blk_cell BK291.out 1).trans rfl
                  have hc2_ : w'.cell? ⟨gb291, 2, none⟩ = some (.string ((rd_T44 l0_7 x72_1).f2)) := (blk_cell BK291.out 2).trans rfl
                  refine value_ (w1 := w') (v := .int .i64 ((rd_T44 l0_7 x72_1).f1)) (by rfl) rfl ?_ ?_
                  ·go_simp
                   (try simp only [i64_w])
                   try rfl
                  refine hK.out _ _ ⟨v294, adz_v294, m8_, (by rw [ha.out]; exact putSel_upk 4 hb_ rfl rfl rfl), Q_BK274, Q_BK291, Q_HB, Q_HO295, Q_HA_HO295, fun h0_ => absurd ((hoff 8 (by kernel_rfl)).symm.trans h0_) (by decide)⟩
                 refine steps_cons ?_ ?_
                 ·rintro b a w' ⟨v294, adz_v294, m8_, ha, Q_BK274, Q_BK291, Q_HB, Q_HO295, Q_HA_HO295, Q_X8_⟩ hb_ hon hoff
                  refine ⟨_, rfl, fun K hK => ?_⟩
                  have e81 : a.tmps[81]? = some (v294) := by rw [ha]; exact putSel_on (e := (5, 81, v294)) 3 rfl rfl (hon 5 (by kernel_rfl)) rfl
                  have e83 : a.tmps[83]? = some (.int .i64 ((rd_T44 l0_7 x72_1).f1)) := by rw [ha]; exact putSel_on (e := (7, 83, .int .i64 ((rd_T44 l0_7 x72_1).f1))) 4 rfl rfl (hon 7 (by kernel_rfl)) rfl
                  replace ha := Aside0.mk ha
                  have BK274 := Aside0.mk Q_BK274
                  have BK291 := Aside0.mk Q_BK291
                  have HB := Aside0.mk Q_HB
                  have HO295 := Aside0.mk (Q_HO295 (hon 5 (by kernel_rfl)))
                  have HA_HO295 := Aside0.mk (Q_HA_HO295 (hon 5 (by kernel_rfl)))
                  obtain ⟨c_, hv_⟩ := HA_HO295.out
                  rw [hv_] at e81
                  refine value_ (w1 := w') (v := .pointer (some (adz_v294.add (((rd_T44 l0_7 x72_1).f1)).toNat))) (by rfl) rfl ?_ ?_
                  ·go_simp
                   (try simp only [i64_w])
                   try rfl
                  refine hK.out _ _ ⟨v294, adz_v294, (.pointer (some (adz_v294.add (((rd_T44 l0_7 x72_1).f1)).toNat))), (by rw [ha.out]; exact putSel_upk 5 hb_ rfl rfl rfl), Q_BK274, Q_BK291, Q_HB, Q_HO295, Q_HA_HO295, fun _ => rfl⟩
                 refine steps_cons ?_ ?_
                 ·rintro b a w' ⟨v294, adz_v294, m8_, ha, Q_BK274, Q_BK291, Q_HB, Q_HO295, Q_HA_HO295, Q_X8_⟩ hb_ hon hoff
                  refine ⟨_, rfl, fun K hK => ?_⟩
                  have e84 : a.tmps[84]? = some (m8_) := by rw [ha]; exact putSel_on (e := (8, 84, m8_)) 5 rfl rfl (hon 8 (by kernel_rfl)) rfl
                  rw [Q_X8_ (hon 8 (by kernel_rfl))] at e84
                  replace ha := Aside0.mk ha
                  have BK274 := Aside0.mk Q_BK274
                  have BK291 := Aside0.mk Q_BK291
                  have HB := Aside0.mk Q_HB
                  have HO295 := Aside0.mk (Q_HO295 (hon 5 (by kernel_rfl)))
                  have HA_HO295 := Aside0.mk (Q_HA_HO295 (hon 5 (by kernel_rfl)))
                  obtain ⟨c_, hv_⟩ := HA_HO295.out
                  have hF_ := HO295.out
                  rw [hv_] at hF_
                  obtain ⟨ad_, ea_, hx_⟩ := Kd.at_string (Kd.R_reads' hF_).2.2 ((rd_T44 l0_7 x72_1).f1) (of_eq_true pi296) (of_eq_true qi296)
                  cases ea_
                  refine value_ (w1 := w') (v := .string (rdOf ByteArray.empty y293 ((rd_T44 l0_7 x72_1).f1))) (by rfl) rfl ?_ ?_
                  ·go_simp
                   (try simp only [i64_w])
                   try rfl
                  refine hK.out _ _ ⟨v294, adz_v294, m8_, (by rw [ha.out]; exact putSel_upk 6 hb_ rfl rfl rfl), Q_BK274, Q_BK291, Q_HB, Q_HO295, Q_HA_HO295, Q_X8_⟩
                 refine steps_cons ?_ ?_
                 ·rintro b a w' ⟨v294, adz_v294, m8_, ha, Q_BK274, Q_BK291, Q_HB, Q_HO295, Q_HA_HO295, Q_X8_⟩ hb_ hon hoff
                  refine ⟨_, rfl, fun K hK => ?_⟩
                  have e85 : a.tmps[85]? = some (.string (rdOf ByteArray.empty y293 ((rd_T44 l0_7 x72_1).f1))) := by rw [ha]; exact putSel_on (e := (9, 85, .string (rdOf ByteArray.empty y293 ((rd_T44 l0_7 x72_1).f1)))) 6 rfl rfl (hon 9 (by kernel_rfl)) rfl
                  replace ha := Aside0.mk ha
                  have BK274 := Aside0.mk Q_BK274
                  have BK291 := Aside0.mk Q_BK291
                  have HB := Aside0.mk Q_HB
                  have HO295 := Aside0.mk (Q_HO295 (hon 5 (by kernel_rfl)))
                  have HA_HO295 := Aside0.mk (Q_HA_HO295 (hon 5 (by kernel_rfl)))
                  obtain ⟨co78, eo78⟩ := HA_HO295.out
                  clear HA_HO295
                  subst eo78
                  refine goes_ Tryz.func19 (by kernel_rfl) rfl #[.string (rdOf ByteArray.empty y293 ((rd_T44 l0_7 x72_1).f1))] (by rfl) rfl rfl (by first | (simp only [List.map_toArray, List.map_cons, List.map_nil, Act.eval, Array.getD_eq_getD_getElem?, Option.getD_some, e85]; done) | (simp only [List.map_toArray, List.map_cons, List.map_nil, Act.eval, Array.getD_eq_getD_getElem?, Option.getD_some, e85]; rfl)) ?_
                  with_reducible refine (polyglotlaw18_text.calls (rdOf ByteArray.empty y293 ((rd_T44 l0_7 x72_1).f1)) t297 _ A64.out).mono ?_
                  rintro e w79 ⟨rfl, hb⟩
                  refine ⟨_, rfl, ?_⟩
                  replace HO295 := Aside0.mk (Kd.R_below q6_ hb)
                  replace BK274 := Aside0.mk (blk_below (g := gb274) (o := .cells #[.int .i64 a0_0, .string a0_1, .string a0_2, .bool a0_3, .slice A0_4 l0_4.length c0_4, .string a0_5, .string a0_6, .slice (some ad290) l0_7.length c0_7] 29 (0, 0)) q1_ hb)
                  replace BK291 := Aside0.mk (blk_below (g := gb291) (o := .cells #[.string ((rd_T44 l0_7 x72_1).f0), .int .i64 ((rd_T44 l0_7 x72_1).f1), .string ((rd_T44 l0_7 x72_1).f2)] 44 (0, 0)) q5_ hb)
                  replace HB := Aside0.mk (below_step q2_ hb)
                  (try clear hb)
                  (try clear hb2)
                  (try clear hk)
                  (try clear hi)
                  refine hK.out _ _ ⟨.slice (some adz_v294) y293.length co78, adz_v294, m8_, (by rw [ha.out]; exact putSel_upk 7 hb_ rfl rfl rfl), q1_, q5_, q2_, fun _ => q6_, fun _ => ⟨_, rfl⟩, Q_X8_⟩
                 refine steps_cons ?_ ?_
                 ·rintro b a w' ⟨v294, adz_v294, m8_, ha, Q_BK274, Q_BK291, Q_HB, Q_HO295, Q_HA_HO295, Q_X8_⟩ hb_ hon hoff
                  refine ⟨_, rfl, fun K hK => ?_⟩
                  have e80 : a.tmps[80]? = some (.string (x7_1 ++ t292)) := by rw [ha]; exact putSel_on (e := (4, 80, .string (x7_1 ++ t292))) 2 rfl rfl (hon 4 (by kernel_rfl)) rfl
                  have e86 : a.tmps[86]? = some (.string t297) := by rw [ha]; exact putSel_on (e := (10, 86, .string t297)) 7 rfl rfl (hon 10 (by kernel_rfl)) rfl
                  replace ha := Aside0.mk ha
                  have BK274 := Aside0.mk Q_BK274
                  have BK291 := Aside0.mk Q_BK291
                  have HB := Aside0.mk Q_HB
                  have HO295 := Aside0.mk (Q_HO295 (hon 5 (by kernel_rfl)))
                  have HA_HO295 := Aside0.mk (Q_HA_HO295 (hon 5 (by kernel_rfl)))
                  refine value_ (w1 := w') (v := .string ((x7_1 ++ t292) ++ t297)) (by rfl) rfl ?_ ?_
                  ·go_simp
                   (try simp only [i64_w])
                   try rfl
                  refine hK.out _ _ ⟨v294, adz_v294, m8_, (by rw [ha.out]; exact putSel_upk 8 hb_ rfl rfl rfl), Q_BK274, Q_BK291, Q_HB, Q_HO295, Q_HA_HO295, Q_X8_⟩
                 refine steps_cons ?_ ?_
                 ·rintro b a w' ⟨v294, adz_v294, m8_, ha, Q_BK274, Q_BK291, Q_HB, Q_HO295, Q_HA_HO295, Q_X8_⟩ hb_ hon hoff
                  refine ⟨_, rfl, fun K hK => ?_⟩
                  have e88 : a.tmps[88]? = some (.pointer (some ⟨gb291, 2, none⟩)) := by rw [ha]; exact (putSel_off rfl).trans rfl
                  replace ha := Aside0.mk ha
                  have BK274 := Aside0.mk Q_BK274
                  have BK291 := Aside0.mk Q_BK291
                  have HB := Aside0.mk Q_HB
                  have hc0_ : w'.cell? ⟨gb291, 0, none⟩ = some (.string ((rd_T44 l0_7 x72_1).f0)) := (blk_cell BK291.out 0).trans rfl
                  have hc1_ : w'.cell? ⟨gb291, 1, none⟩ = some (.int .i64 ((rd_T44 l0_7 x72_1).f1)) := (blk_cell BK291.out 1).trans rfl
                  have hc2_ : w'.cell? ⟨gb291, 2, none⟩ = some (.string ((rd_T44 l0_7 x72_1).f2)) := (blk_cell BK291.out 2).trans rfl
                  refine value_ (w1 := w') (v := .string ((rd_T44 l0_7 x72_1).f2)) (by rfl) rfl ?_ ?_
                  ·go_simp
                   (try simp only [i64_w])
                   try rfl
                  refine hK.out _ _ ⟨v294, adz_v294, m8_, (by rw [ha.out]; exact putSel_upk 9 hb_ rfl rfl rfl), Q_BK274, Q_BK291, Q_HB, Q_HO295, Q_HA_HO295, Q_X8_⟩
                 refine steps_cons ?_ ?_
                 ·rintro b a w' ⟨v294, adz_v294, m8_, ha, Q_BK274, Q_BK291, Q_HB, Q_HO295, Q_HA_HO295, Q_X8_⟩ hb_ hon hoff
                  refine ⟨_, rfl, fun K hK => ?_⟩
                  have e89 : a.tmps[89]? = some (.string ((rd_T44 l0_7 x72_1).f2)) := by rw [ha]; exact putSel_on (e := (13, 89, .string ((rd_T44 l0_7 x72_1).f2))) 9 rfl rfl (hon 13 (by kernel_rfl)) rfl
                  replace ha := Aside0.mk ha
                  have BK274 := Aside0.mk Q_BK274
                  have BK291 := Aside0.mk Q_BK291
                  have HB := Aside0.mk Q_HB
                  have HO295 := Aside0.mk (Q_HO295 (hon 5 (by kernel_rfl)))
                  have HA_HO295 := Aside0.mk (Q_HA_HO295 (hon 5 (by kernel_rfl)))
                  obtain ⟨co79, eo79⟩ := HA_HO295.out
                  clear HA_HO295
                  subst eo79
                  refine goes_ Tryz.func19 (by kernel_rfl) rfl #[.string ((rd_T44 l0_7 x72_1).f2)] (by rfl) rfl rfl (by first | (simp only [List.map_toArray, List.map_cons, List.map_nil, Act.eval, Array.getD_eq_getD_getElem?, Option.getD_some, e89]; done) | (simp only [List.map_toArray, List.map_cons, List.map_nil, Act.eval, Array.getD_eq_getD_getElem?, Option.getD_some, e89]; rfl)) ?_
                  with_reducible refine (polyglotlaw18_text.calls ((rd_T44 l0_7 x72_1).f2) t298 _ A66.out).mono ?_
                  rintro e w80 ⟨rfl, hb⟩
                  refine ⟨_, rfl, ?_⟩
                  replace HO295 := Aside0.mk (Kd.R_below q6_ hb)
                  replace BK274 := Aside0.mk (blk_below (g := gb274) (o := .cells #[.int .i64 a0_0, .string a0_1, .string a0_2, .bool a0_3, .slice A0_4 l0_4.length c0_4, .string a0_5, .string a0_6, .slice (some ad290) l0_7.length c0_7] 29 (0, 0)) q1_ hb)
                  replace BK291 := Aside0.mk (blk_below (g := gb291) (o := .cells #[.string ((rd_T44 l0_7 x72_1).f0), .int .i64 ((rd_T44 l0_7 x72_1).f1), .string ((rd_T44 l0_7 x72_1).f2)] 44 (0, 0)) q5_ hb)
                  replace HB := Aside0.mk (below_step q2_ hb)
                  (try clear hb)
                  (try clear hb2)
                  (try clear hk)
                  (try clear hi)
                  refine hK.out _ _ ⟨.slice (some adz_v294) y293.length co79, adz_v294, m8_, (by rw [ha.out]; exact putSel_upk 10 hb_ rfl rfl rfl), q1_, q5_, q2_, fun _ => q6_, fun _ => ⟨_, rfl⟩, Q_X8_⟩
                 refine steps_cons ?_ ?_
                 ·rintro b a w' ⟨v294, adz_v294, m8_, ha, Q_BK274, Q_BK291, Q_HB, Q_HO295, Q_HA_HO295, Q_X8_⟩ hb_ hon hoff
                  refine ⟨_, rfl, fun K hK => ?_⟩
                  have e87 : a.tmps[87]? = some (.string ((x7_1 ++ t292) ++ t297)) := by rw [ha]; exact putSel_on (e := (11, 87, .string ((x7_1 ++ t292) ++ t297))) 8 rfl rfl (hon 11 (by kernel_rfl)) rfl
                  have e90 : a.tmps[90]? = some (.string t298) := by rw [ha]; exact putSel_on (e := (14, 90, .string t298)) 10 rfl rfl (hon 14 (by kernel_rfl)) rfl
                  replace ha := Aside0.mk ha
                  have BK274 := Aside0.mk Q_BK274
                  have BK291 := Aside0.mk Q_BK291
                  have HB := Aside0.mk Q_HB
                  have HO295 := Aside0.mk (Q_HO295 (hon 5 (by kernel_rfl)))
                  have HA_HO295 := Aside0.mk (Q_HA_HO295 (hon 5 (by kernel_rfl)))
                  refine value_ (w1 := w') (v := .string (((x7_1 ++ t292) ++ t297) ++ t298)) (by rfl) rfl ?_ ?_
                  ·go_simp
                   (try simp only [i64_w])
                   try rfl
                  refine hK.out _ _ ⟨v294, adz_v294, m8_, (by rw [ha.out]; exact putSel_upk 11 hb_ rfl rfl rfl), Q_BK274, Q_BK291, Q_HB, Q_HO295, Q_HA_HO295, Q_X8_⟩
                 refine steps_cons ?_ ?_
                 ·rintro b a w' ⟨v294, adz_v294, m8_, ha, Q_BK274, Q_BK291, Q_HB, Q_HO295, Q_HA_HO295, Q_X8_⟩ hb_ hon hoff
                  refine ⟨_, rfl, fun K hK => ?_⟩
                  have e91 : a.tmps[91]? = some (.string (((x7_1 ++ t292) ++ t297) ++ t298)) := by rw [ha]; exact putSel_on (e := (15, 91, .string (((x7_1 ++ t292) ++ t297) ++ t298))) 11 rfl rfl (hon 15 (by kernel_rfl)) rfl
                  replace ha := Aside0.mk ha
                  have BK274 := Aside0.mk Q_BK274
                  have BK291 := Aside0.mk Q_BK291
                  have HB := Aside0.mk Q_HB
                  have HO295 := Aside0.mk (Q_HO295 (hon 5 (by kernel_rfl)))
                  have HA_HO295 := Aside0.mk (Q_HA_HO295 (hon 5 (by kernel_rfl)))
                  refine value_ (w1 := w') (v := .string (((x7_1 ++ t292) ++ t297) ++ t298)) (by rfl) rfl ?_ ?_
                  ·go_simp
                   (try simp only [i64_w])
                   try rfl
                  refine hK.out _ _ ⟨v294, adz_v294, m8_, (by rw [ha.out]; exact putSel_upk 12 hb_ rfl rfl rfl), Q_BK274, Q_BK291, Q_HB, Q_HO295, Q_HA_HO295, Q_X8_⟩
                 exact steps_nil
                rintro b a w79 hall ⟨v294, adz_v294, m8_, ha, Q_BK274, Q_BK291, Q_HB, Q_HO295, Q_HA_HO295, Q_X8_⟩
                clear BK274 BK291 HB
                have hb2_ := hall 2 (by kernel_rfl)
                have hb3_ := hall 3 (by kernel_rfl)
                have hb4_ := hall 4 (by kernel_rfl)
                have hb5_ := hall 5 (by kernel_rfl)
                have hb7_ := hall 7 (by kernel_rfl)
                have hb8_ := hall 8 (by kernel_rfl)
                have hb9_ := hall 9 (by kernel_rfl)
                have hb10_ := hall 10 (by kernel_rfl)
                have hb11_ := hall 11 (by kernel_rfl)
                have hb13_ := hall 13 (by kernel_rfl)
                have hb14_ := hall 14 (by kernel_rfl)
                have hb15_ := hall 15 (by kernel_rfl)
                have hb16_ := hall 16 (by kernel_rfl)
                subst ha
                obtain rfl := Q_X8_ hb8_
                simp only [putSel, hb2_, hb3_, hb4_, hb5_, hb7_, hb8_, hb9_, hb10_, hb11_, hb13_, hb14_, hb15_, hb16_, if_true, Act.put, List.setIfInBounds_toArray, List.set_cons_zero, List.set_cons_succ]
                have BK274 := Aside0.mk Q_BK274
                clear Q_BK274
                have BK291 := Aside0.mk Q_BK291
                clear Q_BK291
                have HB := Aside0.mk Q_HB
                clear Q_HB
                have HO295 := Aside0.mk (Q_HO295 hb5_)
                clear Q_HO295
                have HA_HO295 := Aside0.mk (Q_HA_HO295 hb5_)
                clear Q_HA_HO295 hall hb2_ hb3_ hb4_ hb5_ hb7_ hb8_ hb9_ hb10_ hb11_ hb13_ hb14_ hb15_ hb16_
                obtain ⟨co80, eo80⟩ := HA_HO295.out
                clear HA_HO295
                subst eo80
                try go_wp2
                go_roundg k1
                case measure => have := HK1.out; omega
                case rel => exact ⟨(((x7_1 ++ t292) ++ t297) ++ t298), (wrap64 (x72_1 + 1)), q7_, q7_, H', ⟨(by have := HK1.out; omega)⟩, ⟨q1_⟩, ⟨q2_⟩⟩
               ·rw [if_neg c67] at H
                exact absurd H (by simp)
              ·rw [if_neg c65] at H
               exact absurd H (by simp)
             ·rw [if_neg c63] at H
              exact absurd H (by simp)
            ·rw [if_neg c62] at H
             exact absurd H (by simp)
           ·rw [if_neg c61] at H
            exact absurd H (by simp)
          ·rw [if_neg c59] at H
           exact absurd H (by simp)
         ·rw [if_neg c58] at H
          exact absurd H (by simp)
        ·rw [if_neg c57] at H
         have c57b0 : decide (x72_1 < (l0_7.length : Int)) = false := decide_eq_false c57
         clear c57
         obtain rfl := Option.some.inj H
         go_wp2
         go_ret
         exact ⟨q9_, q0_⟩
     ·rw [if_neg c47] at H
      exact absurd H (by simp)
    ·rw [if_neg c44] at H
     exact absurd H (by simp)
   ·rw [if_neg c42] at H
    exact absurd H (by simp)
end Go.Proofs.YtdhpcofnddkcaaaGreatDoor.S
namespace Go.Proofs.YtdhpcofnddkcaaaGreatDoor.S
open Go.RowKit Go.Proofs.YtdhpcofnddkcaaaGreatDoor.G Go.Proofs.YtdhpcofnddkcaaaGreatDoorW.PrintWords Go.Proofs.YtdhpcofnddkcaaaGreatDoorW.PrintLast Go.Proofs.YtdhpcofnddkcaaaGreatDoorW.PrintMore
set_option linter.unusedVariables false
set_option linter.unusedSimpArgs false
theorem rdB9 (l : List ByteArray) (i : Nat) (h : i < l.length) : rdOf ByteArray.empty l (i : Int) = l[i] := by
  unfold rdOf
  rw [Int.toNat_natCast, List.getD_eq_getElem?_getD, List.getElem?_eq_getElem h]
  rfl
theorem encs_drop (l : List ByteArray) (i : Nat) (h : i < l.length) : Net.encs (l.drop i) = Net.encB l[i] ++ Net.encs (l.drop (i + 1)) := by rw [List.drop_eq_getElem_cons h, Net.encs_cons]
theorem bytes_l0 (l : List ByteArray) (hl : l.length ≤ 1000000) : ∀ (d i : Nat) (acc : List UInt8), l.length - i ≤ d → i ≤ l.length → acc.length + (Net.encs (l.drop i)).length ≤ 1000000 → ∀ k, d + 1 ≤ k →
    polyglotlaw18_Bytes.l0 k (Net.bs acc) l (l.length : Int) (i : Int) = some (Net.bs (acc ++ Net.encs (l.drop i))) := by
  intro d
  induction d with
  | zero =>
    intro i acc h1 h2 h3 k hk
    obtain ⟨m, rfl⟩ : ∃ m, k = m + 1 := ⟨k - 1, by omega⟩
    rw [polyglotlaw18_Bytes.l0, if_neg (by omega), List.drop_of_length_le (by omega), Net.encs_nil, List.append_nil]
  | succ d ih =>
    intro i acc h1 h2 h3 k hk
    obtain ⟨m, rfl⟩ : ∃ m, k = m + 1 := ⟨k - 1, by omega⟩
    by_cases hi : i < l.length
    · rw [encs_drop l i hi] at h3 ⊢
      rw [List.length_append] at h3
      have hg := encB_ge l[i]
      rw [polyglotlaw18_Bytes.l0, if_pos (by omega), if_pos (by omega), if_pos (by omega), rdB9 l i hi, text_f _ (by omega), Option.bind_some, if_pos (by rw [sz_bs, sz_bs]; omega), bs_app, w64 _ (by omega) (by omega),
        show (i : Int) + 1 = ((i + 1 : Nat) : Int) by omega, ih (i + 1) (acc ++ Net.encB l[i]) (by omega) (by omega) (by rw [List.length_append]; omega) m (by omega), List.append_assoc]
    · rw [polyglotlaw18_Bytes.l0, if_neg (by omega), List.drop_of_length_le (by omega), Net.encs_nil, List.append_nil]
theorem args_drop (l : List S44) (i : Nat) (h : i < l.length) : Net.encs (Net.argsT ((l.drop i).map toAr)) = (Net.encB l[i].f0 ++ (Net.encB (Net.tnm l[i].f1) ++ Net.encB l[i].f2)) ++ Net.encs (Net.argsT ((l.drop (i + 1)).map toAr)) := by
  rw [List.drop_eq_getElem_cons h, List.map_cons, Net.argsT_cons, Net.encs_app, Net.encs_arg]
  rfl
theorem letter (k : Int) (h : k = 0 ∨ k = 1 ∨ k = 2) : rdOf ByteArray.empty ([(⟨#[116]⟩ : ByteArray), (⟨#[110]⟩ : ByteArray), (⟨#[109]⟩ : ByteArray)] : List ByteArray) k = Net.tnm k := by
  rcases h with rfl | rfl | rfl <;> rfl
theorem bytes_l1 (l : List S44) (hl : l.length ≤ 1000000) (hk : ∀ a ∈ l, a.f1 = 0 ∨ a.f1 = 1 ∨ a.f1 = 2) : ∀ (d i : Nat) (acc : List UInt8), l.length - i ≤ d → i ≤ l.length → acc.length + (Net.encs (Net.argsT ((l.drop i).map toAr))).length ≤ 1000000 → ∀ k, d + 1 ≤ k →
    polyglotlaw18_Bytes.l1 k (Net.bs acc) l (l.length : Int) (i : Int) = some (Net.bs (acc ++ Net.encs (Net.argsT ((l.drop i).map toAr)))) := by
  intro d
  induction d with
  | zero =>
    intro i acc h1 h2 h3 k hk
    obtain ⟨m, rfl⟩ : ∃ m, k = m + 1 := ⟨k - 1, by omega⟩
    rw [polyglotlaw18_Bytes.l1, if_neg (by omega), List.drop_of_length_le (by omega)]
    show _ = some (Net.bs (acc ++ []))
    rw [List.append_nil]
  | succ d ih =>
    intro i acc h1 h2 h3 k hkk
    obtain ⟨m, rfl⟩ : ∃ m, k = m + 1 := ⟨k - 1, by omega⟩
    by_cases hi : i < l.length
    · rw [args_drop l i hi] at h3 ⊢
      simp only [List.length_append] at h3
      have g0 := encB_ge l[i].f0
      have g1 := encB_ge (Net.tnm l[i].f1)
      have g2 := encB_ge l[i].f2
      have hki := hk _ (List.getElem_mem hi)
      rw [polyglotlaw18_Bytes.l1, if_pos (by omega), if_pos (by omega), if_pos (by omega), rd44 l i hi, text_f l[i].f0 (by omega), Option.bind_some, if_pos (by rw [sz_bs, sz_bs]; omega), Option.bind_some, if_pos (by omega)]
      rw [if_pos (by show l[i].f1 < 3; omega), letter _ hki, text_f (Net.tnm l[i].f1) (by omega), Option.bind_some, bs_app, if_pos (by rw [sz_bs, sz_bs, List.length_append]; omega), text_f l[i].f2 (by omega), Option.bind_some, bs_app,
        if_pos (by rw [sz_bs, sz_bs]; simp only [List.length_append]; omega), bs_app, w64 _ (by omega) (by omega), show (i : Int) + 1 = ((i + 1 : Nat) : Int) by omega,
        ih (i + 1) _ (by omega) (by omega) (by simp only [List.length_append]; omega) m (by omega)]
      simp only [List.append_assoc]
    · rw [polyglotlaw18_Bytes.l1, if_neg (by omega), List.drop_of_length_le (by omega)]
      show _ = some (Net.bs (acc ++ []))
      rw [List.append_nil]
theorem bytes_f (s : S29) (hr : rightS s = true) (hz : stSize (toSt s) ≤ 1000000) (hl : s.f7.length ≤ 1000000) (hw : s.f4.length ≤ 1000000) (k : Nat) (hk : s.f4.length + s.f7.length + 2 ≤ k) :
    polyglotlaw18_Bytes.f k s.f0 s.f1 s.f2 s.f3 s.f4 s.f5 s.f6 s.f7 = some (Net.bs (Net.encs (Net.parts (toSt s)))) := by
  obtain ⟨hk0, hk7⟩ := rightS_kind hr
  obtain ⟨m, rfl⟩ : ∃ m, k = m + 1 := ⟨k - 1, by omega⟩
  unfold stSize at hz
  unfold polyglotlaw18_Bytes.f
  rcases hk0 with h0 | h0 | h0
  · have ep : Net.encs (Net.parts (toSt s)) = Net.encB Net.cA ++ (Net.encB s.f1 ++ (Net.encB (if s.f3 = true then Net.c1 else Net.c0) ++ Net.encB s.f2)) := by
      show Net.encs (if s.f0 = 0 then [Net.cA, s.f1, if s.f3 = true then Net.c1 else Net.c0, s.f2] else _) = _
      rw [if_pos h0, Net.encs_cons, Net.encs_cons, Net.encs_cons, Net.encs_cons, Net.encs_nil, List.append_nil]
    rw [ep] at hz ⊢
    simp only [List.length_append] at hz
    have g0 := encB_ge Net.cA
    have g1 := encB_ge s.f1
    have g2 := encB_ge (if s.f3 = true then Net.c1 else Net.c0)
    have g3 := encB_ge s.f2
    have key : ∀ c : ByteArray, c = (if s.f3 = true then Net.c1 else Net.c0) → polyglotlaw18_Bytes.j0 (m + 1) c s.f0 s.f1 s.f2 s.f3 s.f4 s.f5 s.f6 s.f7 = some (Net.bs (Net.encB Net.cA ++ (Net.encB s.f1 ++ (Net.encB (if s.f3 = true then Net.c1 else Net.c0) ++ Net.encB s.f2)))) := by
      intro c hc
      rw [polyglotlaw18_Bytes.j0, hc]
      show (polyglotlaw18_text.f Net.cA).bind _ = _
      rw [text_f Net.cA (by omega), Option.bind_some, text_f s.f1 (by omega), Option.bind_some, if_pos (by rw [sz_bs, sz_bs]; omega), text_f _ (by omega), Option.bind_some, bs_app, if_pos (by rw [sz_bs, sz_bs, List.length_append]; omega),
        text_f s.f2 (by omega), Option.bind_some, bs_app, if_pos (by rw [sz_bs, sz_bs]; simp only [List.length_append]; omega), bs_app]
      simp only [List.append_assoc]
    rw [if_pos h0]
    cases h3 : s.f3
    · rw [if_neg (by decide)]
      have := key Net.c0 (by rw [h3]; rfl)
      rw [h3] at this
      exact this
    · rw [if_pos rfl]
      have := key Net.c1 (by rw [h3]; rfl)
      rw [h3] at this
      exact this
  · have ep : Net.encs (Net.parts (toSt s)) = (Net.encB Net.cC ++ Net.encB s.f1 ++ Net.encB (Net.itoaB s.f4.length)) ++ Net.encs s.f4 := by
      show Net.encs (if s.f0 = 0 then _ else if s.f0 = 1 then [Net.cC, s.f1, Net.itoaB s.f4.length] ++ s.f4 else _) = _
      rw [if_neg (by omega), if_pos h0, Net.encs_app, Net.encs_cons, Net.encs_cons, Net.encs_cons, Net.encs_nil, List.append_nil]
      simp only [List.append_assoc]
    rw [ep] at hz ⊢
    simp only [List.length_append] at hz
    have g0 := encB_ge Net.cC
    have g1 := encB_ge s.f1
    have g2 := encB_ge (Net.itoaB s.f4.length)
    rw [if_neg (by omega), if_pos h0]
    show (polyglotlaw18_text.f Net.cC).bind _ = _
    rw [text_f Net.cC (by omega), Option.bind_some, text_f s.f1 (by omega), Option.bind_some, if_pos (by rw [sz_bs, sz_bs]; omega), itoa_f _ hw, Option.bind_some, text_f _ (by omega), Option.bind_some, bs_app, if_pos (by rw [sz_bs, sz_bs, List.length_append]; omega), bs_app]
    have := bytes_l0 s.f4 hw s.f4.length 0 (Net.encB Net.cC ++ Net.encB s.f1 ++ Net.encB (Net.itoaB s.f4.length)) (by omega) (by omega) (by rw [List.drop_zero]; simp only [List.length_append]; omega) (m + 1) (by omega)
    rw [List.drop_zero] at this
    exact this
  · have ep : Net.encs (Net.parts (toSt s)) = (Net.encB Net.cQ ++ Net.encB s.f5 ++ Net.encB s.f6 ++ Net.encB (Net.itoaB s.f7.length)) ++ Net.encs (Net.argsT (s.f7.map toAr)) := by
      show Net.encs (if s.f0 = 0 then _ else if s.f0 = 1 then _ else [Net.cQ, s.f5, s.f6, Net.itoaB (s.f7.map toAr).length] ++ Net.argsT (s.f7.map toAr)) = _
      rw [if_neg (by omega), if_neg (by omega), Net.encs_app, Net.encs_cons, Net.encs_cons, Net.encs_cons, Net.encs_cons, Net.encs_nil, List.append_nil, List.length_map]
      simp only [List.append_assoc]
    rw [ep] at hz ⊢
    simp only [List.length_append] at hz
    have g0 := encB_ge Net.cQ
    have g1 := encB_ge s.f5
    have g2 := encB_ge s.f6
    have g3 := encB_ge (Net.itoaB s.f7.length)
    rw [if_neg (by omega), if_neg (by omega)]
    show (polyglotlaw18_text.f Net.cQ).bind _ = _
    rw [text_f Net.cQ (by omega), Option.bind_some, text_f s.f5 (by omega), Option.bind_some, if_pos (by rw [sz_bs, sz_bs]; omega), text_f s.f6 (by omega), Option.bind_some, bs_app, if_pos (by rw [sz_bs, sz_bs, List.length_append]; omega), itoa_f _ hl, Option.bind_some,
      text_f _ (by omega), Option.bind_some, bs_app, if_pos (by rw [sz_bs, sz_bs]; simp only [List.length_append]; omega), bs_app]
    have := bytes_l1 s.f7 hl hk7 s.f7.length 0 (Net.encB Net.cQ ++ Net.encB s.f5 ++ Net.encB s.f6 ++ Net.encB (Net.itoaB s.f7.length)) (by omega) (by omega) (by rw [List.drop_zero]; simp only [List.length_append]; omega) (m + 1) (by omega)
    rw [List.drop_zero] at this
    exact this
end Go.Proofs.YtdhpcofnddkcaaaGreatDoor.S
