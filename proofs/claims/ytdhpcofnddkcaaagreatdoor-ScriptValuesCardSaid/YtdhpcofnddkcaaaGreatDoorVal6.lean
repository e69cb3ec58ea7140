/- polyglotlaw18.ScriptValues: whatever argument comes in, the call returns true and leaves it unchanged. (Text 7 of 9: what the law's proof rests on, joined; walks printed by the kit's print over given contracts, walks and plain laws by hand.) -/
import Derived.Test.YtdhpcofnddkcaaaGreatDoorVal0
import Derived.Test.YtdhpcofnddkcaaaGreatDoorVal1
import Derived.Test.YtdhpcofnddkcaaaGreatDoorVal2
import Derived.Test.YtdhpcofnddkcaaaGreatDoorVal3
import Derived.Test.YtdhpcofnddkcaaaGreatDoorVal4
import Derived.Test.YtdhpcofnddkcaaaGreatDoorVal5
namespace Go.Proofs.YtdhpcofnddkcaaaGreatDoor.S
open Go.RowKit Go.Proofs.YtdhpcofnddkcaaaGreatDoor.G Go.Proofs.YtdhpcofnddkcaaaGreatDoorW.PrintWords Go.Proofs.YtdhpcofnddkcaaaGreatDoorW.PrintLast Go.Proofs.YtdhpcofnddkcaaaGreatDoorW.PrintMore
attribute [local go_sem] max2_int min2_int max_two min_two max_three min_three max_four min_four
set_option linter.unusedVariables false
set_option linter.unusedSimpArgs false
namespace Sstp
theorem cells3 {w : World} {g : Nat} {t : TypeId} {a0 a1 a2 : Value} (h : w.heap[g]? = some (.cells #[a0, a1, a2] t (0, 0))) : w.cell? ⟨g, 0, none⟩ = some a0 ∧ w.cell? ⟨g, 1, none⟩ = some a1 ∧ w.cell? ⟨g, 2, none⟩ = some a2 := ⟨(blk_cell h 0).trans rfl, (blk_cell h 1).trans rfl, (blk_cell h 2).trans rfl⟩
theorem cellsF3 {w : World} {g : Nat} {t : TypeId} {a0 a1 a2 : Value} (h : w.heap[g]? = some (.cells #[a0, a1, a2] t (0, 0))) : w.cell? ⟨g, 0, none⟩ = some a0 ∧ w.cell? ⟨g, 1, none⟩ = some a1 ∧ w.cell? ⟨g, 2, none⟩ = some a2 ∧ w.frozen? ⟨g, 0, none⟩ = false ∧ w.frozen? ⟨g, 1, none⟩ = false ∧ w.frozen? ⟨g, 2, none⟩ = false := ⟨(blk_cell h 0).trans rfl, (blk_cell h 1).trans rfl, (blk_cell h 2).trans rfl, blk_frozen h 0, blk_frozen h 1, blk_frozen h 2⟩
theorem cells8 {w : World} {g : Nat} {t : TypeId} {a0 a1 a2 a3 a4 a5 a6 a7 : Value} (h : w.heap[g]? = some (.cells #[a0, a1, a2, a3, a4, a5, a6, a7] t (0, 0))) : w.cell? ⟨g, 0, none⟩ = some a0 ∧ w.cell? ⟨g, 1, none⟩ = some a1 ∧ w.cell? ⟨g, 2, none⟩ = some a2 ∧ w.cell? ⟨g, 3, none⟩ = some a3 ∧ w.cell? ⟨g, 4, none⟩ = some a4 ∧ w.cell? ⟨g, 5, none⟩ = some a5 ∧ w.cell? ⟨g, 6, none⟩ = some a6 ∧ w.cell? ⟨g, 7, none⟩ = some a7 := ⟨(blk_cell h 0).trans rfl, (blk_cell h 1).trans rfl, (blk_cell h 2).trans rfl, (blk_cell h 3).trans rfl, (blk_cell h 4).trans rfl, (blk_cell h 5).trans rfl, (blk_cell h 6).trans rfl, (blk_cell h 7).trans rfl⟩
theorem cellsF8 {w : World} {g : Nat} {t : TypeId} {a0 a1 a2 a3 a4 a5 a6 a7 : Value} (h : w.heap[g]? = some (.cells #[a0, a1, a2, a3, a4, a5, a6, a7] t (0, 0))) : w.cell? ⟨g, 0, none⟩ = some a0 ∧ w.cell? ⟨g, 1, none⟩ = some a1 ∧ w.cell? ⟨g, 2, none⟩ = some a2 ∧ w.cell? ⟨g, 3, none⟩ = some a3 ∧ w.cell? ⟨g, 4, none⟩ = some a4 ∧ w.cell? ⟨g, 5, none⟩ = some a5 ∧ w.cell? ⟨g, 6, none⟩ = some a6 ∧ w.cell? ⟨g, 7, none⟩ = some a7 ∧ w.frozen? ⟨g, 0, none⟩ = false ∧ w.frozen? ⟨g, 1, none⟩ = false ∧ w.frozen? ⟨g, 2, none⟩ = false ∧ w.frozen? ⟨g, 3, none⟩ = false ∧ w.frozen? ⟨g, 4, none⟩ = false ∧ w.frozen? ⟨g, 5, none⟩ = false ∧ w.frozen? ⟨g, 6, none⟩ = false ∧ w.frozen? ⟨g, 7, none⟩ = false := ⟨(blk_cell h 0).trans rfl, (blk_cell h 1).trans rfl, (blk_cell h 2).trans rfl, (blk_cell h 3).trans rfl, (blk_cell h 4).trans rfl, (blk_cell h 5).trans rfl, (blk_cell h 6).trans rfl, (blk_cell h 7).trans rfl, blk_frozen h 0, blk_frozen h 1, blk_frozen h 2, blk_frozen h 3, blk_frozen h 4, blk_frozen h 5, blk_frozen h 6, blk_frozen h 7⟩
theorem q0_ {p_ : Prop} (h_ : p_ := by (with_reducible repeat (first | refine blk_drewN ?_ _ | refine blk_drew ?_ | refine blk_alloc ?_ _)); refine blk_put (cs := #[.int .i64 0, .string t438, .string (⟨#[]⟩ : ByteArray), .bool false, .slice none 0 0, .string (⟨#[]⟩ : ByteArray), .string (⟨#[]⟩ : ByteArray), .slice none 0 0]) ?_ 7 _ rfl; (with_reducible repeat (first | refine blk_drewN ?_ _ | refine blk_drew ?_ | refine blk_alloc ?_ _)); refine blk_put (cs := #[.int .i64 0, .string t438, .string (⟨#[]⟩ : ByteArray), .bool false, .slice none 0 0, .string (⟨#[]⟩ : ByteArray), .string (⟨#[]⟩ : ByteArray), .slice none 0 0]) ?_ 6 _ rfl; (with_reducible repeat (first | refine blk_drewN ?_ _ | refine blk_drew ?_ | refine blk_alloc ?_ _)); refine blk_put (cs := #[.int .i64 0, .string t438, .string (⟨#[]⟩ : ByteArray), .bool false, .slice none 0 0, .string (⟨#[]⟩ : ByteArray), .string (⟨#[]⟩ : ByteArray), .slice none 0 0]) ?_ 5 _ rfl; (with_reducible repeat (first | refine blk_drewN ?_ _ | refine blk_drew ?_ | refine blk_alloc ?_ _)); refine blk_put (cs := #[.int .i64 0, .string t438, .string (⟨#[]⟩ : ByteArray), .bool false, .slice none 0 0, .string (⟨#[]⟩ : ByteArray), .string (⟨#[]⟩ : ByteArray), .slice none 0 0]) ?_ 4 _ rfl; (with_reducible repeat (first | refine blk_drewN ?_ _ | refine blk_drew ?_ | refine blk_alloc ?_ _)); refine blk_put (cs := #[.int .i64 0, .string t438, .string (⟨#[]⟩ : ByteArray), .bool false, .slice none 0 0, .string (⟨#[]⟩ : ByteArray), .string (⟨#[]⟩ : ByteArray), .slice none 0 0]) ?_ 3 _ rfl; (with_reducible repeat (first | refine blk_drewN ?_ _ | refine blk_drew ?_ | refine blk_alloc ?_ _)); refine blk_put (cs := #[.int .i64 0, .string t438, .string (⟨#[]⟩ : ByteArray), .bool false, .slice none 0 0, .string (⟨#[]⟩ : ByteArray), .string (⟨#[]⟩ : ByteArray), .slice none 0 0]) ?_ 2 _ rfl; (with_reducible repeat (first | refine blk_drewN ?_ _ | refine blk_drew ?_ | refine blk_alloc ?_ _)); refine blk_put (cs := #[.int .i64 0, .string (⟨#[]⟩ : ByteArray), .string (⟨#[]⟩ : ByteArray), .bool false, .slice none 0 0, .string (⟨#[]⟩ : ByteArray), .string (⟨#[]⟩ : ByteArray), .slice none 0 0]) ?_ 1 _ rfl; (with_reducible repeat (first | refine blk_drewN ?_ _ | refine blk_drew ?_ | refine blk_alloc ?_ _)); refine blk_put (cs := #[.int .i64 0, .string (⟨#[]⟩ : ByteArray), .string (⟨#[]⟩ : ByteArray), .bool false, .slice none 0 0, .string (⟨#[]⟩ : ByteArray), .string (⟨#[]⟩ : ByteArray), .slice none 0 0]) ?_ 0 _ rfl; (with_reducible repeat (first | refine blk_drewN ?_ _ | refine blk_drew ?_ | refine blk_alloc ?_ _)); exact BK442.out) : p_ := h_
theorem q1_ {p_ : Prop} (h_ : p_ := by (with_reducible repeat (first | refine blk_drewN ?_ _ | refine blk_drew ?_ | refine blk_alloc ?_ _)); exact BK433.out) : p_ := h_
theorem q2_ {p_ : Prop} (h_ : p_ := by repeat (first | (with_reducible first | exact HK.out | apply KeepBut.set_ | apply keep_drewN | apply keep_drew | apply keep_alloc | refine keep_far ?_ GW433.out _) | exact HK.out)) : p_ := h_
theorem q3_ {p_ : Prop} (h_ : p_ := by (try simp only [List.map_toArray, List.map_cons, List.map_nil]); first | done | rfl | (simp only [List.length_drop, List.length_take]; rfl)) : p_ := h_
theorem q4_ {p_ : Prop} (h_ : p_ := by repeat (first | (with_reducible first | exact HK.out | apply KeepBut.set_ | apply keep_drewN | apply keep_drew | apply keep_alloc | refine keep_far ?_ GW433.out _ | refine keep_far ?_ GW483.out _ | refine keep_far ?_ GW492.out _) | exact HK.out)) : p_ := h_
theorem q5_ {p_ : Prop} (h_ : p_ := by repeat (first | (with_reducible first | exact HK.out | apply KeepBut.set_ | apply keep_drewN | apply keep_drew | apply keep_alloc | refine keep_far ?_ GW433.out _ | refine keep_far ?_ GW483.out _) | exact HK.out)) : p_ := h_
theorem q6_ {p_ : Prop} (h_ : p_ := by repeat (first | (with_reducible first | exact HK.out | apply KeepBut.set_ | apply keep_drewN | apply keep_drew | apply keep_alloc) | exact HK.out)) : p_ := h_
theorem q7_ {p_ : Prop} (h_ : p_ := by (with_reducible repeat (first | refine blk_drewN ?_ _ | refine blk_drew ?_ | refine blk_alloc ?_ _)); refine blk_far ?_ NB433_442.out _; (with_reducible repeat (first | refine blk_drewN ?_ _ | refine blk_drew ?_ | refine blk_alloc ?_ _)); refine blk_far ?_ NB433_442.out _; (with_reducible repeat (first | refine blk_drewN ?_ _ | refine blk_drew ?_ | refine blk_alloc ?_ _)); refine blk_far ?_ NB433_442.out _; (with_reducible repeat (first | refine blk_drewN ?_ _ | refine blk_drew ?_ | refine blk_alloc ?_ _)); refine blk_far ?_ NB433_442.out _; (with_reducible repeat (first | refine blk_drewN ?_ _ | refine blk_drew ?_ | refine blk_alloc ?_ _)); refine blk_far ?_ NB433_442.out _; (with_reducible repeat (first | refine blk_drewN ?_ _ | refine blk_drew ?_ | refine blk_alloc ?_ _)); refine blk_far ?_ NB433_442.out _; (with_reducible repeat (first | refine blk_drewN ?_ _ | refine blk_drew ?_ | refine blk_alloc ?_ _)); refine blk_far ?_ NB433_442.out _; (with_reducible repeat (first | refine blk_drewN ?_ _ | refine blk_drew ?_ | refine blk_alloc ?_ _)); refine blk_far ?_ NB433_442.out _; (with_reducible repeat (first | refine blk_drewN ?_ _ | refine blk_drew ?_ | refine blk_alloc ?_ _)); exact BK433.out) : p_ := h_
theorem q8_ {p_ : Prop} (h_ : p_ := by (with_reducible repeat (first | refine blk_drewN ?_ _ | refine blk_drew ?_ | refine blk_alloc ?_ _)); refine blk_far ?_ NB492_0.out _; (with_reducible repeat (first | refine blk_drewN ?_ _ | refine blk_drew ?_ | refine blk_alloc ?_ _)); refine blk_put (cs := #[.string t488, .int .i64 t497, .string (⟨#[]⟩ : ByteArray)]) ?_ 2 _ rfl; (with_reducible repeat (first | refine blk_drewN ?_ _ | refine blk_drew ?_ | refine blk_alloc ?_ _)); refine blk_put (cs := #[.string t488, .int .i64 0, .string (⟨#[]⟩ : ByteArray)]) ?_ 1 _ rfl; (with_reducible repeat (first | refine blk_drewN ?_ _ | refine blk_drew ?_ | refine blk_alloc ?_ _)); exact BK492.out) : p_ := h_
theorem q9_ {p_ : Prop} (h_ : p_ := by repeat (first | (with_reducible first | exact HI0.out | apply IsS71.alloc | apply IsS71.drewN | apply IsS71.drew | apply IsS71.set_0 | apply IsS71.set_1 | apply IsS71.set_2 | (apply IsS71.far; rotate_left; exact NB0_433.out; rotate_right) | (apply IsS71.far; rotate_left; exact NB0_483.out; rotate_right) | (apply IsS71.far; rotate_left; exact NB0_492.out; rotate_right)) | exact HI0.out)) : p_ := h_
theorem q10_ {p_ : Prop} (h_ : p_ := by repeat (first | (with_reducible first | exact HK.out | apply KeepBut.set_ | apply keep_drewN | apply keep_drew | apply keep_alloc | refine keep_far ?_ GW433.out _ | refine keep_far ?_ GW442.out _) | exact HK.out)) : p_ := h_
theorem q11_ {p_ : Prop} (h_ : p_ := by first | exact Kd.R_nil _ _ _ _ _ | exact Kd.N_nil _ _ _ _ _ | exact Kd.V_nil _ _ _ _ _ | exact Kd.Q_nil _ _ _ _ _ | exact Kd.S_nil _ _ _ _ _) : p_ := h_
theorem q12_ {p_ : Prop} (h_ : p_ := by (with_reducible repeat (first | refine blk_drewN ?_ _ | refine blk_drew ?_ | refine blk_alloc ?_ _)); exact BK483.out) : p_ := h_
theorem q13_ {p_ : Prop} (h_ : p_ := by rw [hg]; exact Nat.ne_of_lt (blk_lt (g := gb433) (o := .cells #[.int .i64 0, .string (⟨#[]⟩ : ByteArray), .string (⟨#[]⟩ : ByteArray), .bool false, .slice none 0 0, .string (⟨#[]⟩ : ByteArray), .string (⟨#[]⟩ : ByteArray), .slice none 0 0] 29 (0, 0)) q1_)) : p_ := h_
theorem q14_ {p_ : Prop} (h_ : p_ := by rw [hg]; exact Nat.ne_of_gt (blk_lt (g := gb433) (o := .cells #[.int .i64 0, .string (⟨#[]⟩ : ByteArray), .string (⟨#[]⟩ : ByteArray), .bool false, .slice none 0 0, .string (⟨#[]⟩ : ByteArray), .string (⟨#[]⟩ : ByteArray), .slice none 0 0] 29 (0, 0)) q1_)) : p_ := h_
theorem q15_ {p_ : Prop} (h_ : p_ := by repeat (first | (with_reducible first | exact HI0.out | apply IsS71.alloc | apply IsS71.drewN | apply IsS71.drew | apply IsS71.set_0 | apply IsS71.set_1 | apply IsS71.set_2 | (apply IsS71.far; rotate_left; exact NB0_433.out; rotate_right) | (apply IsS71.far; rotate_left; exact NB0_483.out; rotate_right)) | exact HI0.out)) : p_ := h_
theorem q16_ {p_ : Prop} (h_ : p_ := by repeat (first | (with_reducible first | exact HK.out | apply KeepBut.set_ | apply keep_drewN | apply keep_drew | apply keep_alloc | refine keep_far ?_ GW433.out _ | refine keep_far ?_ GW463.out _) | exact HK.out)) : p_ := h_
theorem q17_ {p_ : Prop} (h_ : p_ := by repeat (first | (with_reducible first | exact HB.out | apply below_alloc | apply pw_below_drewN | apply below_drew1 | refine below_set ?_ (IsS71.ge HI0.out) | refine below_set ?_ GE433.out | refine below_set ?_ GE483.out | refine below_set ?_ GE492.out) | exact HB.out)) : p_ := h_
theorem q18_ {p_ : Prop} (h_ : p_ := by repeat (first | (with_reducible first | exact HI0.out | apply IsS71.alloc | apply IsS71.drewN | apply IsS71.drew | apply IsS71.set_0 | apply IsS71.set_1 | apply IsS71.set_2 | (apply IsS71.far; rotate_left; exact NB0_433.out; rotate_right) | (apply IsS71.far; rotate_left; exact NB0_463.out; rotate_right)) | exact HI0.out)) : p_ := h_
theorem q19_ {p_ : Prop} (h_ : p_ := by repeat (first | (with_reducible first | exact HI0.out | apply IsS71.alloc | apply IsS71.drewN | apply IsS71.drew | apply IsS71.set_0 | apply IsS71.set_1 | apply IsS71.set_2 | (apply IsS71.far; rotate_left; exact NB0_433.out; rotate_right)) | exact HI0.out)) : p_ := h_
theorem q20_ {p_ : Prop} (h_ : p_ := by repeat (first | (with_reducible first | exact HB.out | apply below_alloc | apply pw_below_drewN | apply below_drew1 | refine below_set ?_ (IsS71.ge HI0.out) | refine below_set ?_ GE433.out | refine below_set ?_ GE483.out) | exact HB.out)) : p_ := h_
theorem q21_ {p_ : Prop} (h_ : p_ := by (with_reducible repeat (first | refine blk_drewN ?_ _ | refine blk_drew ?_ | refine blk_alloc ?_ _)); refine blk_far ?_ NB442_0.out _; (with_reducible repeat (first | refine blk_drewN ?_ _ | refine blk_drew ?_ | refine blk_alloc ?_ _)); refine blk_put (cs := #[.int .i64 0, .string t438, .string (⟨#[]⟩ : ByteArray), .bool false, .slice none 0 0, .string (⟨#[]⟩ : ByteArray), .string (⟨#[]⟩ : ByteArray), .slice none 0 0]) ?_ 3 _ rfl; (with_reducible repeat (first | refine blk_drewN ?_ _ | refine blk_drew ?_ | refine blk_alloc ?_ _)); exact BK442.out) : p_ := h_
theorem q22_ {p_ : Prop} (h_ : p_ := by repeat (first | (with_reducible first | exact HB.out | apply below_alloc | apply pw_below_drewN | apply below_drew1 | refine below_set ?_ (IsS71.ge HI0.out) | refine below_set ?_ GE433.out) | exact HB.out)) : p_ := h_
theorem q23_ {p_ : Prop} (h_ : p_ := by (with_reducible repeat (first | apply Kd.R_alloc | apply Kd.R_drewN | apply Kd.R_drew)); exact HO_484007.out) : p_ := h_
theorem q24_ {p_ : Prop} (h_ : p_ := by repeat (first | (with_reducible first | exact HI0.out | apply IsS71.alloc | apply IsS71.drewN | apply IsS71.drew | apply IsS71.set_0 | apply IsS71.set_1 | apply IsS71.set_2) | exact HI0.out)) : p_ := h_
theorem q25_ {p_ : Prop} (h_ : p_ := by repeat (first | (with_reducible first | exact HB.out | apply below_alloc | apply pw_below_drewN | apply below_drew1 | refine below_set ?_ (IsS71.ge HI0.out) | refine below_set ?_ GE433.out | refine below_set ?_ GE463.out) | exact HB.out)) : p_ := h_
theorem q26_ {p_ : Prop} (h_ : p_ := by repeat (first | (with_reducible first | exact HB.out | apply below_alloc | apply pw_below_drewN | apply below_drew1 | refine below_set ?_ (IsS71.ge HI0.out)) | exact HB.out)) : p_ := h_
theorem q27_ {p_ : Prop} (h_ : p_ := by (with_reducible repeat (first | refine blk_drewN ?_ _ | refine blk_drew ?_ | refine blk_alloc ?_ _)); refine blk_far ?_ NB433_0.out _; (with_reducible repeat (first | refine blk_drewN ?_ _ | refine blk_drew ?_ | refine blk_alloc ?_ _)); refine blk_far ?_ NB433_442.out _; (with_reducible repeat (first | refine blk_drewN ?_ _ | refine blk_drew ?_ | refine blk_alloc ?_ _)); exact BK433.out) : p_ := h_
theorem q28_ {p_ : Prop} (h_ : p_ := by (with_reducible repeat (first | refine blk_drewN ?_ _ | refine blk_drew ?_ | refine blk_alloc ?_ _)); refine blk_put (cs := #[.string t488, .int .i64 0, .string (⟨#[]⟩ : ByteArray)]) ?_ 2 _ rfl; (with_reducible repeat (first | refine blk_drewN ?_ _ | refine blk_drew ?_ | refine blk_alloc ?_ _)); refine blk_put (cs := #[.string t488, .int .i64 0, .string (⟨#[]⟩ : ByteArray)]) ?_ 1 _ rfl; (with_reducible repeat (first | refine blk_drewN ?_ _ | refine blk_drew ?_ | refine blk_alloc ?_ _)); refine blk_put (cs := #[.string (⟨#[]⟩ : ByteArray), .int .i64 0, .string (⟨#[]⟩ : ByteArray)]) ?_ 0 _ rfl; (with_reducible repeat (first | refine blk_drewN ?_ _ | refine blk_drew ?_ | refine blk_alloc ?_ _)); exact BK492.out) : p_ := h_
theorem q29_ {p_ : Prop} (h_ : p_ := by rw [hg]; exact Nat.ne_of_lt (IsS71.lt (show IsS71 w0 _ g t439 t440 t441 from by repeat (first | (with_reducible first | exact HI0.out | apply IsS71.alloc | apply IsS71.drewN | apply IsS71.drew | apply IsS71.set_0 | apply IsS71.set_1 | apply IsS71.set_2 | (apply IsS71.far; rotate_left; exact NB0_433.out; rotate_right)) | exact HI0.out)))) : p_ := h_
theorem q30_ {p_ : Prop} (h_ : p_ := by rw [hg]; exact Nat.ne_of_gt (IsS71.lt (show IsS71 w0 _ g t439 t440 t441 from by repeat (first | (with_reducible first | exact HI0.out | apply IsS71.alloc | apply IsS71.drewN | apply IsS71.drew | apply IsS71.set_0 | apply IsS71.set_1 | apply IsS71.set_2 | (apply IsS71.far; rotate_left; exact NB0_433.out; rotate_right)) | exact HI0.out)))) : p_ := h_
theorem q31_ {p_ : Prop} (h_ : p_ := by rw [hg]; exact (keep_size (w := w) (g := g) (row := none) q6_)) : p_ := h_
theorem q32_ {p_ : Prop} (h_ : p_ := by repeat (first | (with_reducible first | exact HI0.out | apply IsS71.alloc | apply IsS71.drewN | apply IsS71.drew | apply IsS71.set_0 | apply IsS71.set_1 | apply IsS71.set_2 | (apply IsS71.far; rotate_left; exact NB0_433.out; rotate_right) | (apply IsS71.far; rotate_left; exact NB0_442.out; rotate_right)) | exact HI0.out)) : p_ := h_
theorem q33_ {p_ : Prop} (h_ : p_ := by first | rfl | (simp [errW_none, errW_some] <;> rfl) | (simp [*, errW_none, errW_some] <;> rfl)) : p_ := h_
theorem q34_ {p_ : Prop} (h_ : p_ := by rw [hg]; exact (keep_size (w := w) (g := g) (row := none) q2_)) : p_ := h_
theorem q35_ {p_ : Prop} (h_ : p_ := by (with_reducible repeat (first | refine blk_drewN ?_ _ | refine blk_drew ?_ | refine blk_alloc ?_ _)); refine blk_far ?_ NB433_492.out _; (with_reducible repeat (first | refine blk_drewN ?_ _ | refine blk_drew ?_ | refine blk_alloc ?_ _)); refine blk_far ?_ NB433_492.out _; (with_reducible repeat (first | refine blk_drewN ?_ _ | refine blk_drew ?_ | refine blk_alloc ?_ _)); refine blk_far ?_ NB433_492.out _; (with_reducible repeat (first | refine blk_drewN ?_ _ | refine blk_drew ?_ | refine blk_alloc ?_ _)); exact BK433.out) : p_ := h_
theorem q36_ {p_ : Prop} (h_ : p_ := by (with_reducible repeat (first | refine blk_drewN ?_ _ | refine blk_drew ?_ | refine blk_alloc ?_ _)); refine blk_far ?_ NB483_492.out _; (with_reducible repeat (first | refine blk_drewN ?_ _ | refine blk_drew ?_ | refine blk_alloc ?_ _)); refine blk_far ?_ NB483_492.out _; (with_reducible repeat (first | refine blk_drewN ?_ _ | refine blk_drew ?_ | refine blk_alloc ?_ _)); refine blk_far ?_ NB483_492.out _; (with_reducible repeat (first | refine blk_drewN ?_ _ | refine blk_drew ?_ | refine blk_alloc ?_ _)); exact BK483.out) : p_ := h_
theorem q37_ {p_ : Prop} (h_ : p_ := by (with_reducible repeat (first | refine blk_drewN ?_ _ | refine blk_drew ?_ | refine blk_alloc ?_ _)); refine blk_far ?_ NB433_0.out _; (with_reducible repeat (first | refine blk_drewN ?_ _ | refine blk_drew ?_ | refine blk_alloc ?_ _)); refine blk_far ?_ NB433_492.out _; (with_reducible repeat (first | refine blk_drewN ?_ _ | refine blk_drew ?_ | refine blk_alloc ?_ _)); refine blk_far ?_ NB433_492.out _; (with_reducible repeat (first | refine blk_drewN ?_ _ | refine blk_drew ?_ | refine blk_alloc ?_ _)); exact BK433.out) : p_ := h_
theorem q38_ {p_ : Prop} (h_ : p_ := by (with_reducible repeat (first | refine blk_drewN ?_ _ | refine blk_drew ?_ | refine blk_alloc ?_ _)); refine blk_far ?_ NB483_0.out _; (with_reducible repeat (first | refine blk_drewN ?_ _ | refine blk_drew ?_ | refine blk_alloc ?_ _)); refine blk_far ?_ NB483_492.out _; (with_reducible repeat (first | refine blk_drewN ?_ _ | refine blk_drew ?_ | refine blk_alloc ?_ _)); refine blk_far ?_ NB483_492.out _; (with_reducible repeat (first | refine blk_drewN ?_ _ | refine blk_drew ?_ | refine blk_alloc ?_ _)); exact BK483.out) : p_ := h_
theorem q39_ {p_ : Prop} (h_ : p_ := by repeat (first | (with_reducible first | exact HB.out | apply below_alloc | apply pw_below_drewN | apply below_drew1 | refine below_set ?_ (IsS71.ge HI0.out) | refine below_set ?_ GE433.out | refine below_set ?_ GE442.out) | exact HB.out)) : p_ := h_
theorem q40_ {p_ : Prop} (h_ : p_ := by (with_reducible repeat (first | apply Kd.R_alloc | apply Kd.R_drewN | apply Kd.R_drew)); exact (Kd.R_mono (Kd.R_far (p := ⟨gb492, 2, none⟩) (Kd.R_far (p := ⟨gb492, 1, none⟩) (Kd.R_far (p := ⟨gb492, 0, none⟩) (Kd.R_mono HO_484007.out (fun k_ hk => (⟨hk, hk.2⟩ : _ ∧ k_ ≠ gb492))) (fun _ hk => hk.2) (.string t488)) (fun _ hk => hk.2) (.int .i64 0)) (fun _ hk => hk.2) (.string (⟨#[]⟩ : ByteArray))) (fun _ h_ => h_.1))) : p_ := h_
theorem q41_ {p_ : Prop} (h_ : p_ := by rw [hg]; exact Nat.ne_of_lt (IsS71.lt (show IsS71 w0 _ g t489 t490 t491 from by repeat (first | (with_reducible first | exact HI0.out | apply IsS71.alloc | apply IsS71.drewN | apply IsS71.drew | apply IsS71.set_0 | apply IsS71.set_1 | apply IsS71.set_2 | (apply IsS71.far; rotate_left; exact NB0_433.out; rotate_right) | (apply IsS71.far; rotate_left; exact NB0_483.out; rotate_right)) | exact HI0.out)))) : p_ := h_
theorem q42_ {p_ : Prop} (h_ : p_ := by rw [hg]; exact Nat.ne_of_gt (IsS71.lt (show IsS71 w0 _ g t489 t490 t491 from by repeat (first | (with_reducible first | exact HI0.out | apply IsS71.alloc | apply IsS71.drewN | apply IsS71.drew | apply IsS71.set_0 | apply IsS71.set_1 | apply IsS71.set_2 | (apply IsS71.far; rotate_left; exact NB0_433.out; rotate_right) | (apply IsS71.far; rotate_left; exact NB0_483.out; rotate_right)) | exact HI0.out)))) : p_ := h_
theorem q43_ {p_ : Prop} (h_ : p_ := by (with_reducible repeat (first | refine blk_drewN ?_ _ | refine blk_drew ?_ | refine blk_alloc ?_ _)); refine blk_put (cs := #[.int .i64 2, .string (⟨#[]⟩ : ByteArray), .string (⟨#[]⟩ : ByteArray), .bool false, .slice none 0 0, .string t475, .string t479, u484007]) ?_ 7 _ rfl; (with_reducible repeat (first | refine blk_drewN ?_ _ | refine blk_drew ?_ | refine blk_alloc ?_ _)); exact BK483.out) : p_ := h_
theorem q44_ {p_ : Prop} (h_ : p_ := by (with_reducible repeat (first | refine blk_drewN ?_ _ | refine blk_drew ?_ | refine blk_alloc ?_ _)); exact BK492.out) : p_ := h_
theorem q45_ {p_ : Prop} (h_ : p_ := by first | rfl | (simp; done) | (simp [*]; done)) : p_ := h_
theorem q46_ {p_ : Prop} (h_ : p_ := by (with_reducible repeat (first | refine blk_drewN ?_ _ | refine blk_drew ?_ | refine blk_alloc ?_ _)); refine blk_far ?_ NB433_483.out _; (with_reducible repeat (first | refine blk_drewN ?_ _ | refine blk_drew ?_ | refine blk_alloc ?_ _)); exact BK433.out) : p_ := h_
theorem q47_ {p_ : Prop} (h_ : p_ := by (with_reducible repeat (first | refine blk_drewN ?_ _ | refine blk_drew ?_ | refine blk_alloc ?_ _)); exact BK463.out) : p_ := h_
theorem q48_ {p_ : Prop} (h_ : p_ := by rw [hg]; exact Nat.ne_of_lt (blk_lt (g := gb483) (o := .cells #[.int .i64 2, .string (⟨#[]⟩ : ByteArray), .string (⟨#[]⟩ : ByteArray), .bool false, .slice none 0 0, .string t475, .string t479, u484007] 29 (0, 0)) q12_)) : p_ := h_
theorem q49_ {p_ : Prop} (h_ : p_ := by rw [hg]; exact Nat.ne_of_gt (blk_lt (g := gb483) (o := .cells #[.int .i64 2, .string (⟨#[]⟩ : ByteArray), .string (⟨#[]⟩ : ByteArray), .bool false, .slice none 0 0, .string t475, .string t479, u484007] 29 (0, 0)) q12_)) : p_ := h_
theorem q50_ {p_ : Prop} (h_ : p_ := by rw [hg]; exact (keep_size (w := w) (g := g) (row := none) q5_)) : p_ := h_
end Sstp
open Sstp
mutual
def script_reader_step.l0 : Nat → Int → ByteArray → Int → Bool → Int → ByteArray → ByteArray → Bool → List ByteArray → ByteArray → ByteArray → Option (Int × ByteArray × ByteArray × Bool × List ByteArray × ByteArray × ByteArray × (List (S44)) × ByteArray × Int × Bool)
 | 0, _, _, _, _, _, _, _, _, _, _, _ => none
 | k + 1, x6, x1000, x1001, x1002, x464000, x464001, x464002, x464003, x464004, x464005, x464006 => if x6 > 0 then (if x1002 = true then (some (x464000, x464001, x464002, x464003, x464004, x464005, x464006, ([] : List (S44)), x1000, x1001, x1002)) else ((script_reader_text.f x1000 x1001 x1002).bind fun bt468 => (if x464004.length < 8796093022208 then (script_reader_step.l0 k (wrap64 (x6 - 1)) bt468.2.1 bt468.2.2.1 bt468.2.2.2 x464000 x464001 x464002 x464003 (x464004 ++ [bt468.1]) x464005 x464006) else (none)))) else (some (x464000, x464001, x464002, x464003, x464004, x464005, x464006, ([] : List (S44)), x1000, x1001, x1002))
def script_reader_step.l1 : Nat → Int → ByteArray → Int → Bool → Int → ByteArray → ByteArray → Bool → ByteArray → ByteArray → List (S44) → Option (Int × ByteArray × ByteArray × Bool × List ByteArray × ByteArray × ByteArray × (List (S44)) × ByteArray × Int × Bool)
 | 0, _, _, _, _, _, _, _, _, _, _, _ => none
 | k + 1, x8, x1000, x1001, x1002, x484000, x484001, x484002, x484003, x484005, x484006, x484007 => if x8 > 0 then (script_reader_step.j2 k x8 (!x1002) x1000 x1001 x1002 x484000 x484001 x484002 x484003 x484005 x484006 x484007) else (script_reader_step.j2 k x8 false x1000 x1001 x1002 x484000 x484001 x484002 x484003 x484005 x484006 x484007)
def script_reader_step.j2 : Nat → Int → Bool → ByteArray → Int → Bool → Int → ByteArray → ByteArray → Bool → ByteArray → ByteArray → List (S44) → Option (Int × ByteArray × ByteArray × Bool × List ByteArray × ByteArray × ByteArray × (List (S44)) × ByteArray × Int × Bool)
 | 0, _, _, _, _, _, _, _, _, _, _, _, _ => none
 | k + 1, x8, x85, x1000, x1001, x1002, x484000, x484001, x484002, x484003, x484005, x484006, x484007 => if x85 = true then ((script_reader_text.f x1000 x1001 x1002).bind fun bt488 => ((script_reader_text.f bt488.2.1 bt488.2.2.1 bt488.2.2.2).bind fun bt493 => ((strings_Index.f (⟨#[116, 110, 109]⟩ : ByteArray) bt493.1).bind fun t497 => ((script_reader_text.f bt493.2.1 bt493.2.2.1 bt493.2.2.2).bind fun bt498 => (if bt498.2.2.2 = true then (if x484007.length < 3518437208883 then (script_reader_step.l1 k (wrap64 (x8 - 1)) bt498.2.1 bt498.2.2.1 true x484000 x484001 x484002 x484003 x484005 x484006 (x484007 ++ [(⟨bt488.1, t497, bt498.1⟩ : S44)])) else (none)) else (if x484007.length < 3518437208883 then (script_reader_step.l1 k (wrap64 (x8 - 1)) bt498.2.1 bt498.2.2.1 ((bt493.1.size : Int) != 1) x484000 x484001 x484002 x484003 x484005 x484006 (x484007 ++ [(⟨bt488.1, t497, bt498.1⟩ : S44)])) else (none))))))) else (some (x484000, x484001, x484002, x484003, ([] : List ByteArray), x484005, x484006, x484007, x1000, x1001, x1002))
end
def script_reader_step.f (k : Nat) (s0_0 : ByteArray) (s0_1 : Int) (s0_2 : Bool) : Option (Int × ByteArray × ByteArray × Bool × List ByteArray × ByteArray × ByteArray × (List (S44)) × ByteArray × Int × Bool) := (script_reader_text.f s0_0 s0_1 s0_2).bind fun bt434 => (if bt434.1.toList = ([97] : List UInt8) then ((script_reader_text.f bt434.2.1 bt434.2.2.1 bt434.2.2.2).bind fun bt438 => ((script_reader_text.f bt438.2.1 bt438.2.2.1 bt438.2.2.2).bind fun bt443 => (if bt443.2.2.2 = true then ((script_reader_text.f bt443.2.1 bt443.2.2.1 true).bind fun bt447 => (some (0, bt438.1, bt447.1, (bt443.1.toList == ([49] : List UInt8)), ([] : List ByteArray), (⟨#[]⟩ : ByteArray), (⟨#[]⟩ : ByteArray), ([] : List (S44)), bt447.2.1, bt447.2.2.1, bt447.2.2.2))) else (if bt443.1.toList = ([48] : List UInt8) then ((script_reader_text.f bt443.2.1 bt443.2.2.1 false).bind fun bt451 => (some (0, bt438.1, bt451.1, (bt443.1.toList == ([49] : List UInt8)), ([] : List ByteArray), (⟨#[]⟩ : ByteArray), (⟨#[]⟩ : ByteArray), ([] : List (S44)), bt451.2.1, bt451.2.2.1, bt451.2.2.2))) else ((script_reader_text.f bt443.2.1 bt443.2.2.1 (bt443.1.toList != ([49] : List UInt8))).bind fun bt455 => (some (0, bt438.1, bt455.1, (bt443.1.toList == ([49] : List UInt8)), ([] : List ByteArray), (⟨#[]⟩ : ByteArray), (⟨#[]⟩ : ByteArray), ([] : List (S44)), bt455.2.1, bt455.2.2.1, bt455.2.2.2))))))) else (if bt434.1.toList = ([99] : List UInt8) then ((script_reader_text.f bt434.2.1 bt434.2.2.1 bt434.2.2.2).bind fun bt459 => ((script_reader_number.f bt459.2.1 bt459.2.2.1 bt459.2.2.2).bind fun bt464 => (script_reader_step.l0 k bt464.1 bt464.2.1 bt464.2.2.1 bt464.2.2.2 1 bt459.1 (⟨#[]⟩ : ByteArray) false ([] : List ByteArray) (⟨#[]⟩ : ByteArray) (⟨#[]⟩ : ByteArray)))) else (if bt434.1.toList = ([113] : List UInt8) then ((script_reader_text.f bt434.2.1 bt434.2.2.1 bt434.2.2.2).bind fun bt475 => ((script_reader_text.f bt475.2.1 bt475.2.2.1 bt475.2.2.2).bind fun bt479 => ((script_reader_number.f bt479.2.1 bt479.2.2.1 bt479.2.2.2).bind fun bt484 => (script_reader_step.l1 k bt484.1 bt484.2.1 bt484.2.2.1 bt484.2.2.2 2 (⟨#[]⟩ : ByteArray) (⟨#[]⟩ : ByteArray) false bt475.1 bt479.1 ([] : List (S44)))))) else (some (0, (⟨#[]⟩ : ByteArray), (⟨#[]⟩ : ByteArray), false, ([] : List ByteArray), (⟨#[]⟩ : ByteArray), (⟨#[]⟩ : ByteArray), ([] : List (S44)), bt434.2.1, bt434.2.2.1, true)))))
theorem script_reader_step.mono_l : ∀ k, (∀ y0 y1 y2 y3 y4 y5 y6 y7 y8 y9 y10, LeO (script_reader_step.l0 k y0 y1 y2 y3 y4 y5 y6 y7 y8 y9 y10) (script_reader_step.l0 (k + 1) y0 y1 y2 y3 y4 y5 y6 y7 y8 y9 y10)) ∧ (∀ y0 y1 y2 y3 y4 y5 y6 y7 y8 y9 y10, LeO (script_reader_step.l1 k y0 y1 y2 y3 y4 y5 y6 y7 y8 y9 y10) (script_reader_step.l1 (k + 1) y0 y1 y2 y3 y4 y5 y6 y7 y8 y9 y10)) ∧ (∀ y0 y1 y2 y3 y4 y5 y6 y7 y8 y9 y10 y11, LeO (script_reader_step.j2 k y0 y1 y2 y3 y4 y5 y6 y7 y8 y9 y10 y11) (script_reader_step.j2 (k + 1) y0 y1 y2 y3 y4 y5 y6 y7 y8 y9 y10 y11))
 | 0 => ⟨fun _ _ _ _ _ _ _ _ _ _ _ r h => by simp [script_reader_step.l0] at h, fun _ _ _ _ _ _ _ _ _ _ _ r h => by simp [script_reader_step.l1] at h, fun _ _ _ _ _ _ _ _ _ _ _ _ r h => by simp [script_reader_step.j2] at h⟩
 | k + 1 => by
  obtain ⟨ih0, ih1, ih2⟩ := script_reader_step.mono_l k
  refine ⟨?_, ?_, ?_⟩
  ·intro y0 y1 y2 y3 y4 y5 y6 y7 y8 y9 y10
   unfold script_reader_step.l0
   repeat' first
   | (with_reducible exact ih0 _ _ _ _ _ _ _ _ _ _ _)
   | (with_reducible exact ih1 _ _ _ _ _ _ _ _ _ _ _)
   | (with_reducible exact ih2 _ _ _ _ _ _ _ _ _ _ _ _)
   | (with_reducible exact LeO.refl _)
   | (with_reducible exact LeO.none _)
   | (with_reducible refine LeO.ite ?_ ?_)
   | (with_reducible refine LeO.bind ?_ (fun _ => ?_))
   | exact ih0 _ _ _ _ _ _ _ _ _ _ _
   | exact ih1 _ _ _ _ _ _ _ _ _ _ _
   | exact ih2 _ _ _ _ _ _ _ _ _ _ _ _
   | exact LeO.none _
   | refine LeO.ite ?_ ?_
   | refine LeO.bind ?_ (fun _ => ?_)
  ·intro y0 y1 y2 y3 y4 y5 y6 y7 y8 y9 y10
   unfold script_reader_step.l1
   repeat' first
   | (with_reducible exact ih0 _ _ _ _ _ _ _ _ _ _ _)
   | (with_reducible exact ih1 _ _ _ _ _ _ _ _ _ _ _)
   | (with_reducible exact ih2 _ _ _ _ _ _ _ _ _ _ _ _)
   | (with_reducible exact LeO.refl _)
   | (with_reducible exact LeO.none _)
   | (with_reducible refine LeO.ite ?_ ?_)
   | (with_reducible refine LeO.bind ?_ (fun _ => ?_))
   | exact ih0 _ _ _ _ _ _ _ _ _ _ _
   | exact ih1 _ _ _ _ _ _ _ _ _ _ _
   | exact ih2 _ _ _ _ _ _ _ _ _ _ _ _
   | exact LeO.none _
   | refine LeO.ite ?_ ?_
   | refine LeO.bind ?_ (fun _ => ?_)
  ·intro y0 y1 y2 y3 y4 y5 y6 y7 y8 y9 y10 y11
   unfold script_reader_step.j2
   repeat' first
   | (with_reducible exact ih0 _ _ _ _ _ _ _ _ _ _ _)
   | (with_reducible exact ih1 _ _ _ _ _ _ _ _ _ _ _)
   | (with_reducible exact ih2 _ _ _ _ _ _ _ _ _ _ _ _)
   | (with_reducible exact LeO.refl _)
   | (with_reducible exact LeO.none _)
   | (with_reducible refine LeO.ite ?_ ?_)
   | (with_reducible refine LeO.bind ?_ (fun _ => ?_))
   | exact ih0 _ _ _ _ _ _ _ _ _ _ _
   | exact ih1 _ _ _ _ _ _ _ _ _ _ _
   | exact ih2 _ _ _ _ _ _ _ _ _ _ _ _
   | exact LeO.none _
   | refine LeO.ite ?_ ?_
   | refine LeO.bind ?_ (fun _ => ?_)
theorem script_reader_step.mono : ∀ a0 a1 a2 k, LeO (script_reader_step.f k a0 a1 a2) (script_reader_step.f (k + 1) a0 a1 a2) := by
 intro a0 a1 a2 k
 obtain ⟨ih0, ih1, ih2⟩ := script_reader_step.mono_l k
 unfold script_reader_step.f
 repeat' first
   | (with_reducible exact ih0 _ _ _ _ _ _ _ _ _ _ _)
   | (with_reducible exact ih1 _ _ _ _ _ _ _ _ _ _ _)
   | (with_reducible exact ih2 _ _ _ _ _ _ _ _ _ _ _ _)
   | (with_reducible exact LeO.refl _)
   | (with_reducible exact LeO.none _)
   | (with_reducible refine LeO.ite ?_ ?_)
   | (with_reducible refine LeO.bind ?_ (fun _ => ?_))
   | exact ih0 _ _ _ _ _ _ _ _ _ _ _
   | exact ih1 _ _ _ _ _ _ _ _ _ _ _
   | exact ih2 _ _ _ _ _ _ _ _ _ _ _ _
   | exact LeO.none _
   | refine LeO.ite ?_ ?_
   | refine LeO.bind ?_ (fun _ => ?_)
def script_reader_step.T13 : Bool × List (List Nat × List Nat) := (true, [([], []), ([0], [0]), ([], []), ([2], [2]), ([3], [3]), ([1, 4, 3], [1, 4]), ([0, 1, 2, 3, 4, 5], []), ([6, 5, 5, 0, 1, 2, 3, 4, 5], [5, 6])])
def script_reader_step.B13 : List Nat := [0, 1, 0, 4, 12, 31, 63, 127]
theorem script_reader_step.tab13 : rtab .any (opsOf Tryz.f25 13) = script_reader_step.T13 := by kernel_rfl
theorem script_reader_step.bits13 : waitsOk script_reader_step.T13.2 script_reader_step.B13 = true := by kernel_rfl
set_option maxHeartbeats 8000000 in
set_option maxRecDepth 100000 in
theorem script_reader_step.calls (k : Nat) (g : Nat) (s0_0 : ByteArray) (s0_1 : Int) (s0_2 : Bool) (r1 : Int) (r2 : ByteArray) (r3 : ByteArray) (r4 : Bool) (r5 : List ByteArray) (r6 : ByteArray) (r7 : ByteArray) (r8 : List (S44)) (r9 : ByteArray) (r10 : Int) (r11 : Bool) (w0 w : World) (hI : IsS71 w0 w g s0_0 s0_1 s0_2) (hB : Below w0.heap.size w0 w) (h : script_reader_step.f k s0_0 s0_1 s0_2 = some (r1, r2, r3, r4, r5, r6, r7, r8, r9, r10, r11)) (HT0_ : Tab_ w0 := by first | exact HT0_ | exact Tab_.step HT0_ (by repeat (first | (with_reducible first | exact HB.out | apply below_alloc | apply pw_below_drewN | apply below_drew1 | refine below_set ?_ (Aside0.out (by assumption))) | exact HB.out))) (HP0_ : TabP_ w0 := by first | exact HP0_ | exact TabP_.step HP0_ (by repeat (first | (with_reducible first | exact HB.out | apply below_alloc | apply pw_below_drewN | apply below_drew1 | refine below_set ?_ (Aside0.out (by assumption))) | exact HB.out))) (HE0_ : TabE_ w0 := by first | exact HE0_ | exact TabE_.step HE0_ (by repeat (first | (with_reducible first | exact HB.out | apply below_alloc | apply pw_below_drewN | apply below_drew1 | refine below_set ?_ (Aside0.out (by assumption))) | exact HB.out))) :
  Calls Tryz.prog 25 #[.pointer (some ⟨g, 0, none⟩)] w fun e w' => ∃ v4_ v7_ : Value, e = .returned (.agg #[.int .i64 r1, .string r2, .string r3, .bool r4, v4_, .string r6, .string r7, v7_]) ∧ Kd.R Kd.string 9 w' w.heap.size (fun _ => True) v4_ r5 ∧ Kd.R k44 44 w' w.heap.size (fun _ => True) v7_ r8 ∧ IsS71 w0 w' g r9 r10 r11 ∧ Below w0.heap.size w0 w' ∧ KeepBut w w' g none := by
 have hu29 := Tryz.underlying29
 have hu44 := Tryz.underlying44
 have HI0 := Aside0.mk hI
 have HK := Aside0.mk (KeepBut.refl w g none)
 have HL := Aside0.mk hB.size
 clear hI
 have HW0 := Aside0.mk hB.size
 have HB := Aside0.mk hB
 clear hB
 have H : ((script_reader_text.f s0_0 s0_1 s0_2).bind fun bt434 => (if bt434.1.toList = ([97] : List UInt8) then ((script_reader_text.f bt434.2.1 bt434.2.2.1 bt434.2.2.2).bind fun bt438 => ((script_reader_text.f bt438.2.1 bt438.2.2.1 bt438.2.2.2).bind fun bt443 => (if bt443.2.2.2 = true then ((script_reader_text.f bt443.2.1 bt443.2.2.1 true).bind fun bt447 => (some (0, bt438.1, bt447.1, (bt443.1.toList == ([49] : List UInt8)), ([] : List ByteArray), (⟨#[]⟩ : ByteArray), (⟨#[]⟩ : ByteArray), ([] : List (S44)), bt447.2.1, bt447.2.2.1, bt447.2.2.2))) else (if bt443.1.toList = ([48] : List UInt8) then ((script_reader_text.f bt443.2.1 bt443.2.2.1 false).bind fun bt451 => (some (0, bt438.1, bt451.1, (bt443.1.toList == ([49] : List UInt8)), ([] : List ByteArray), (⟨#[]⟩ : ByteArray), (⟨#[]⟩ : ByteArray), ([] : List (S44)), bt451.2.1, bt451.2.2.1, bt451.2.2.2))) else ((script_reader_text.f bt443.2.1 bt443.2.2.1 (bt443.1.toList != ([49] : List UInt8))).bind fun bt455 => (some (0, bt438.1, bt455.1, (bt443.1.toList == ([49] : List UInt8)), ([] : List ByteArray), (⟨#[]⟩ : ByteArray), (⟨#[]⟩ : ByteArray), ([] : List (S44)), bt455.2.1, bt455.2.2.1, bt455.2.2.2))))))) else (if bt434.1.toList = ([99] : List UInt8) then ((script_reader_text.f bt434.2.1 bt434.2.2.1 bt434.2.2.2).bind fun bt459 => ((script_reader_number.f bt459.2.1 bt459.2.2.1 bt459.2.2.2).bind fun bt464 => (script_reader_step.l0 k bt464.1 bt464.2.1 bt464.2.2.1 bt464.2.2.2 1 bt459.1 (⟨#[]⟩ : ByteArray) false ([] : List ByteArray) (⟨#[]⟩ : ByteArray) (⟨#[]⟩ : ByteArray)))) else (if bt434.1.toList = ([113] : List UInt8) then ((script_reader_text.f bt434.2.1 bt434.2.2.1 bt434.2.2.2).bind fun bt475 => ((script_reader_text.f bt475.2.1 bt475.2.2.1 bt475.2.2.2).bind fun bt479 => ((script_reader_number.f bt479.2.1 bt479.2.2.1 bt479.2.2.2).bind fun bt484 => (script_reader_step.l1 k bt484.1 bt484.2.1 bt484.2.2.1 bt484.2.2.2 2 (⟨#[]⟩ : ByteArray) (⟨#[]⟩ : ByteArray) false bt475.1 bt479.1 ([] : List (S44)))))) else (some (0, (⟨#[]⟩ : ByteArray), (⟨#[]⟩ : ByteArray), false, ([] : List ByteArray), (⟨#[]⟩ : ByteArray), (⟨#[]⟩ : ByteArray), ([] : List (S44)), bt434.2.1, bt434.2.2.1, true)))))) = some (r1, r2, r3, r4, r5, r6, r7, r8, r9, r10, r11) := h
 clear h
 replace H := Option.bind_eq_some_iff.mp H
 obtain ⟨⟨t434, t435, t436, t437⟩, A20, H⟩ := H
 replace H : (if t434.toList = ([97] : List UInt8) then ((script_reader_text.f t435 t436 t437).bind fun bt438 => ((script_reader_text.f bt438.2.1 bt438.2.2.1 bt438.2.2.2).bind fun bt443 => (if bt443.2.2.2 = true then ((script_reader_text.f bt443.2.1 bt443.2.2.1 true).bind fun bt447 => (some (0, bt438.1, bt447.1, (bt443.1.toList == ([49] : List UInt8)), ([] : List ByteArray), (⟨#[]⟩ : ByteArray), (⟨#[]⟩ : ByteArray), ([] : List (S44)), bt447.2.1, bt447.2.2.1, bt447.2.2.2))) else (if bt443.1.toList = ([48] : List UInt8) then ((script_reader_text.f bt443.2.1 bt443.2.2.1 false).bind fun bt451 => (some (0, bt438.1, bt451.1, (bt443.1.toList == ([49] : List UInt8)), ([] : List ByteArray), (⟨#[]⟩ : ByteArray), (⟨#[]⟩ : ByteArray), ([] : List (S44)), bt451.2.1, bt451.2.2.1, bt451.2.2.2))) else ((script_reader_text.f bt443.2.1 bt443.2.2.1 (bt443.1.toList != ([49] : List UInt8))).bind fun bt455 => (some (0, bt438.1, bt455.1, (bt443.1.toList == ([49] : List UInt8)), ([] : List ByteArray), (⟨#[]⟩ : ByteArray), (⟨#[]⟩ : ByteArray), ([] : List (S44)), bt455.2.1, bt455.2.2.1, bt455.2.2.2))))))) else (if t434.toList = ([99] : List UInt8) then ((script_reader_text.f t435 t436 t437).bind fun bt459 => ((script_reader_number.f bt459.2.1 bt459.2.2.1 bt459.2.2.2).bind fun bt464 => (script_reader_step.l0 k bt464.1 bt464.2.1 bt464.2.2.1 bt464.2.2.2 1 bt459.1 (⟨#[]⟩ : ByteArray) false ([] : List ByteArray) (⟨#[]⟩ : ByteArray) (⟨#[]⟩ : ByteArray)))) else (if t434.toList = ([113] : List UInt8) then ((script_reader_text.f t435 t436 t437).bind fun bt475 => ((script_reader_text.f bt475.2.1 bt475.2.2.1 bt475.2.2.2).bind fun bt479 => ((script_reader_number.f bt479.2.1 bt479.2.2.1 bt479.2.2.2).bind fun bt484 => (script_reader_step.l1 k bt484.1 bt484.2.1 bt484.2.2.1 bt484.2.2.2 2 (⟨#[]⟩ : ByteArray) (⟨#[]⟩ : ByteArray) false bt475.1 bt479.1 ([] : List (S44)))))) else (some (0, (⟨#[]⟩ : ByteArray), (⟨#[]⟩ : ByteArray), false, ([] : List ByteArray), (⟨#[]⟩ : ByteArray), (⟨#[]⟩ : ByteArray), ([] : List (S44)), t435, t436, true))))) = some (r1, r2, r3, r4, r5, r6, r7, r8, r9, r10, r11) := H
 have A2 := Aside0.mk A20
 clear A20
 by_cases c3 : t434.toList = ([97] : List UInt8)
 ·rw [if_pos c3] at H
  have c3b0 : (t434.toList == ([97] : List UInt8)) = true := beq_iff_eq.mpr c3
  have c3b1 : (t434.toList != ([97] : List UInt8)) = false := bne_eq_false_iff_eq.mpr c3
  clear c3
  replace H := Option.bind_eq_some_iff.mp H
  obtain ⟨⟨t438, t439, t440, t441⟩, A40, H⟩ := H
  replace H : ((script_reader_text.f t439 t440 t441).bind fun bt443 => (if bt443.2.2.2 = true then ((script_reader_text.f bt443.2.1 bt443.2.2.1 true).bind fun bt447 => (some (0, t438, bt447.1, (bt443.1.toList == ([49] : List UInt8)), ([] : List ByteArray), (⟨#[]⟩ : ByteArray), (⟨#[]⟩ : ByteArray), ([] : List (S44)), bt447.2.1, bt447.2.2.1, bt447.2.2.2))) else (if bt443.1.toList = ([48] : List UInt8) then ((script_reader_text.f bt443.2.1 bt443.2.2.1 false).bind fun bt451 => (some (0, t438, bt451.1, (bt443.1.toList == ([49] : List UInt8)), ([] : List ByteArray), (⟨#[]⟩ : ByteArray), (⟨#[]⟩ : ByteArray), ([] : List (S44)), bt451.2.1, bt451.2.2.1, bt451.2.2.2))) else ((script_reader_text.f bt443.2.1 bt443.2.2.1 (bt443.1.toList != ([49] : List UInt8))).bind fun bt455 => (some (0, t438, bt455.1, (bt443.1.toList == ([49] : List UInt8)), ([] : List ByteArray), (⟨#[]⟩ : ByteArray), (⟨#[]⟩ : ByteArray), ([] : List (S44)), bt455.2.1, bt455.2.2.1, bt455.2.2.2)))))) = some (r1, r2, r3, r4, r5, r6, r7, r8, r9, r10, r11) := H
  have A4 := Aside0.mk A40
  clear A40
  replace H := Option.bind_eq_some_iff.mp H
  obtain ⟨⟨t443, t444, t445, t446⟩, A50, H⟩ := H
  replace H : (if t446 = true then ((script_reader_text.f t444 t445 true).bind fun bt447 => (some (0, t438, bt447.1, (t443.toList == ([49] : List UInt8)), ([] : List ByteArray), (⟨#[]⟩ : ByteArray), (⟨#[]⟩ : ByteArray), ([] : List (S44)), bt447.2.1, bt447.2.2.1, bt447.2.2.2))) else (if t443.toList = ([48] : List UInt8) then ((script_reader_text.f t444 t445 false).bind fun bt451 => (some (0, t438, bt451.1, (t443.toList == ([49] : List UInt8)), ([] : List ByteArray), (⟨#[]⟩ : ByteArray), (⟨#[]⟩ : ByteArray), ([] : List (S44)), bt451.2.1, bt451.2.2.1, bt451.2.2.2))) else ((script_reader_text.f t444 t445 (t443.toList != ([49] : List UInt8))).bind fun bt455 => (some (0, t438, bt455.1, (t443.toList == ([49] : List UInt8)), ([] : List ByteArray), (⟨#[]⟩ : ByteArray), (⟨#[]⟩ : ByteArray), ([] : List (S44)), bt455.2.1, bt455.2.2.1, bt455.2.2.2))))) = some (r1, r2, r3, r4, r5, r6, r7, r8, r9, r10, r11) := H
  have A5 := Aside0.mk A50
  clear A50
  by_cases c6 : t446 = true
  ·subst c6
   have H1 : ((script_reader_text.f t444 t445 true).bind fun bt447 => (some (0, t438, bt447.1, (t443.toList == ([49] : List UInt8)), ([] : List ByteArray), (⟨#[]⟩ : ByteArray), (⟨#[]⟩ : ByteArray), ([] : List (S44)), bt447.2.1, bt447.2.2.1, bt447.2.2.2))) = some (r1, r2, r3, r4, r5, r6, r7, r8, r9, r10, r11) := by rw [if_pos rfl] at H; exact H
   clear H
   have H := H1
   clear H1
   replace H := Option.bind_eq_some_iff.mp H
   obtain ⟨⟨t447, t448, t449, t450⟩, A70, H⟩ := H
   replace H : (some (0, t438, t447, (t443.toList == ([49] : List UInt8)), ([] : List ByteArray), (⟨#[]⟩ : ByteArray), (⟨#[]⟩ : ByteArray), ([] : List (S44)), t448, t449, t450)) = some (r1, r2, r3, r4, r5, r6, r7, r8, r9, r10, r11) := H
   have A7 := Aside0.mk A70
   clear A70
   simp only [Option.some.injEq, Prod.mk.injEq] at H
   obtain ⟨rfl, rfl, rfl, rfl, rfl, rfl, rfl, rfl, rfl, rfl, rfl⟩ := H
   go_enter Tryz.func25, Tryz.ntmps25
   go_wp2_with (first | ((with_reducible refine gate_dst (N := 2) rfl ?_); (try (refine gate_guard (by rfl) ?_; dsimp only)); refine box_event ?hg (N := 2) ?hd (cs := #[.int .i64 0, .string (⟨#[]⟩ : ByteArray), .string (⟨#[]⟩ : ByteArray), .bool false, .slice none 0 0, .string (⟨#[]⟩ : ByteArray), .string (⟨#[]⟩ : ByteArray), .slice none 0 0]) (t := 29) ?hr ?_; (case hd => rfl); (case hg => rfl); (case hr => first | (go_simp; done) | (go_simp; rfl)); intro gb433 hg w8 hbox hb; have n0_ := Aside0.mk (IsS71.below q24_ hb); have n1_ := Aside0.mk (KeepBut.trans q6_ (KeepBut.of_below hb g none) (.inl rfl)); have n2_ := Aside0.mk (below_step q26_ hb); have n3_ := Aside0.mk (hbox); have n4_ := Aside0.mk ((q31_ : w.heap.size ≤ gb433)); have n5_ := Aside0.mk ((Nat.le_trans HW0.out (q31_ : w.heap.size ≤ gb433) : w0.heap.size ≤ gb433)); have n6_ := Aside0.mk ((by rw [hg]; exact Nat.ne_of_lt (IsS71.lt (show IsS71 w0 _ g s0_0 s0_1 s0_2 from by repeat (first | (with_reducible first | exact HI0.out | apply IsS71.alloc | apply IsS71.drewN | apply IsS71.drew | apply IsS71.set_0 | apply IsS71.set_1 | apply IsS71.set_2) | exact HI0.out))) : g ≠ gb433)); have n7_ := Aside0.mk ((by rw [hg]; exact Nat.ne_of_gt (IsS71.lt (show IsS71 w0 _ g s0_0 s0_1 s0_2 from by repeat (first | (with_reducible first | exact HI0.out | apply IsS71.alloc | apply IsS71.drewN | apply IsS71.drew | apply IsS71.set_0 | apply IsS71.set_1 | apply IsS71.set_2) | exact HI0.out))) : gb433 ≠ g)); clear HI0; clear HK; clear HB; have HI0 := n0_; have HK := n1_; have HB := n2_; have BK433 := n3_; have GW433 := n4_; have GE433 := n5_; have NB0_433 := n6_; have NB433_0 := n7_; clear n0_ n1_ n2_ n3_ n4_ n5_ n6_ n7_; clear hb hbox hg) | ((with_reducible refine gate_callee (f := 35) rfl ?_); refine goesL_ (some 12) rfl rfl Tryz.func35 (by kernel_rfl) rfl #[.pointer (some ⟨g, 0, none⟩)] rfl q3_ ?_; (with_reducible refine (script_reader_text.calls g s0_0 s0_1 s0_2 t434 t435 t436 t437 w0 _ ?side1 ?side2 A2.out).mono ?_); (case side1 => repeat (first | (with_reducible first | exact HI0.out | apply IsS71.alloc | apply IsS71.drewN | apply IsS71.drew | apply IsS71.set_0 | apply IsS71.set_1 | apply IsS71.set_2 | (apply IsS71.far; rotate_left; exact NB0_433.out; rotate_right)) | exact HI0.out)); (case side2 => repeat (first | (with_reducible first | exact HB.out | apply below_alloc | apply pw_below_drewN | apply below_drew1 | refine below_set ?_ (IsS71.ge HI0.out) | refine below_set ?_ GE433.out) | exact HB.out)); rintro e w9 ⟨rfl, hi, hb, hk⟩; refine ⟨_, rfl, ?_⟩; have n0_ := Aside0.mk (KeepBut.blk hk (g' := gb433) (o := .cells #[.int .i64 0, .string (⟨#[]⟩ : ByteArray), .string (⟨#[]⟩ : ByteArray), .bool false, .slice none 0 0, .string (⟨#[]⟩ : ByteArray), .string (⟨#[]⟩ : ByteArray), .slice none 0 0] 29 (0, 0)) q1_ NB433_0.out (by simp)); have n1_ := Aside0.mk (KeepBut.trans q2_ hk (.inl rfl)); have n2_ := Aside0.mk (hb); have n3_ := Aside0.mk (hi); clear BK433; clear HK; clear HB; clear HI0; have BK433 := n0_; have HK := n1_; have HB := n2_; have HI0 := n3_; clear n0_ n1_ n2_ n3_; (try clear hb); (try clear hb2); (try clear hk); (try clear hi)) | ((with_reducible refine gate_callee (f := 35) rfl ?_); refine goesL_ (some 16) rfl rfl Tryz.func35 (by kernel_rfl) rfl #[.pointer (some ⟨g, 0, none⟩)] rfl q3_ ?_; (with_reducible refine (script_reader_text.calls g t435 t436 t437 t438 t439 t440 t441 w0 _ ?side1 ?side2 A4.out).mono ?_); (case side1 => repeat (first | (with_reducible first | exact HI0.out | apply IsS71.alloc | apply IsS71.drewN | apply IsS71.drew | apply IsS71.set_0 | apply IsS71.set_1 | apply IsS71.set_2 | (apply IsS71.far; rotate_left; exact NB0_433.out; rotate_right)) | exact HI0.out)); (case side2 => repeat (first | (with_reducible first | exact HB.out | apply below_alloc | apply pw_below_drewN | apply below_drew1 | refine below_set ?_ (IsS71.ge HI0.out) | refine below_set ?_ GE433.out) | exact HB.out)); rintro e w10 ⟨rfl, hi, hb, hk⟩; refine ⟨_, rfl, ?_⟩; have n0_ := Aside0.mk (KeepBut.blk hk (g' := gb433) (o := .cells #[.int .i64 0, .string (⟨#[]⟩ : ByteArray), .string (⟨#[]⟩ : ByteArray), .bool false, .slice none 0 0, .string (⟨#[]⟩ : ByteArray), .string (⟨#[]⟩ : ByteArray), .slice none 0 0] 29 (0, 0)) q1_ NB433_0.out (by simp)); have n1_ := Aside0.mk (KeepBut.trans q2_ hk (.inl rfl)); have n2_ := Aside0.mk (hb); have n3_ := Aside0.mk (hi); clear BK433; clear HK; clear HB; clear HI0; have BK433 := n0_; have HK := n1_; have HB := n2_; have HI0 := n3_; clear n0_ n1_ n2_ n3_; (try clear hb); (try clear hb2); (try clear hk); (try clear hi)) | ((with_reducible refine gate_dst (N := 3) rfl ?_); (try (refine gate_guard (by rfl) ?_; dsimp only)); refine box_event ?hg (N := 3) ?hd (cs := #[.int .i64 0, .string (⟨#[]⟩ : ByteArray), .string (⟨#[]⟩ : ByteArray), .bool false, .slice none 0 0, .string (⟨#[]⟩ : ByteArray), .string (⟨#[]⟩ : ByteArray), .slice none 0 0]) (t := 29) ?hr ?_; (case hd => rfl); (case hg => rfl); (case hr => first | (go_simp; done) | (go_simp; rfl)); intro gb442 hg w11 hbox hb; have n0_ := Aside0.mk (IsS71.below q19_ hb); have n1_ := Aside0.mk (blk_below (g := gb433) (o := .cells #[.int .i64 0, .string (⟨#[]⟩ : ByteArray), .string (⟨#[]⟩ : ByteArray), .bool false, .slice none 0 0, .string (⟨#[]⟩ : ByteArray), .string (⟨#[]⟩ : ByteArray), .slice none 0 0] 29 (0, 0)) q1_ hb); have n2_ := Aside0.mk (KeepBut.trans q2_ (KeepBut.of_below hb g none) (.inl rfl)); have n3_ := Aside0.mk (below_step q22_ hb); have n4_ := Aside0.mk (hbox); have n5_ := Aside0.mk ((q34_ : w.heap.size ≤ gb442)); have n6_ := Aside0.mk ((Nat.le_trans HW0.out (q34_ : w.heap.size ≤ gb442) : w0.heap.size ≤ gb442)); have n7_ := Aside0.mk ((q13_ : gb433 ≠ gb442)); have n8_ := Aside0.mk ((q14_ : gb442 ≠ gb433)); have n9_ := Aside0.mk ((q29_ : g ≠ gb442)); have n10_ := Aside0.mk ((q30_ : gb442 ≠ g)); clear HI0; clear BK433; clear HK; clear HB; have HI0 := n0_; have BK433 := n1_; have HK := n2_; have HB := n3_; have BK442 := n4_; have GW442 := n5_; have GE442 := n6_; have NB433_442 := n7_; have NB442_433 := n8_; have NB0_442 := n9_; have NB442_0 := n10_; clear n0_ n1_ n2_ n3_ n4_ n5_ n6_ n7_ n8_ n9_ n10_; clear hb hbox hg; have hnb12 := NB442_433.out; have hnc12 := NB433_442.out; have hnb13 := NB442_0.out; have hnc13 := NB0_442.out; obtain ⟨hcz14_0, hcz14_1, hcz14_2, hcz14_3, hcz14_4, hcz14_5, hcz14_6, hcz14_7, hfz14_0, hfz14_1, hfz14_2, hfz14_3, hfz14_4, hfz14_5, hfz14_6, hfz14_7⟩ := cellsF8 BK442.out) | ((with_reducible refine gate_callee (f := 35) rfl ?_); refine goesL_ (some 19) rfl rfl Tryz.func35 (by kernel_rfl) rfl #[.pointer (some ⟨g, 0, none⟩)] rfl q3_ ?_; (with_reducible refine (script_reader_text.calls g t439 t440 t441 t443 t444 t445 true w0 _ ?side1 ?side2 A5.out).mono ?_); (case side1 => repeat (first | (with_reducible first | exact HI0.out | apply IsS71.alloc | apply IsS71.drewN | apply IsS71.drew | apply IsS71.set_0 | apply IsS71.set_1 | apply IsS71.set_2 | (apply IsS71.far; rotate_left; exact NB0_433.out; rotate_right) | (apply IsS71.far; rotate_left; exact NB0_442.out; rotate_right)) | exact HI0.out)); (case side2 => repeat (first | (with_reducible first | exact HB.out | apply below_alloc | apply pw_below_drewN | apply below_drew1 | refine below_set ?_ (IsS71.ge HI0.out) | refine below_set ?_ GE433.out | refine below_set ?_ GE442.out) | exact HB.out)); rintro e w15 ⟨rfl, hi, hb, hk⟩; refine ⟨_, rfl, ?_⟩; have n0_ := Aside0.mk (KeepBut.blk hk (g' := gb433) (o := .cells #[.int .i64 0, .string (⟨#[]⟩ : ByteArray), .string (⟨#[]⟩ : ByteArray), .bool false, .slice none 0 0, .string (⟨#[]⟩ : ByteArray), .string (⟨#[]⟩ : ByteArray), .slice none 0 0] 29 (0, 0)) q7_ NB433_0.out (by simp)); have n1_ := Aside0.mk (KeepBut.blk hk (g' := gb442) (o := .cells #[.int .i64 0, .string t438, .string (⟨#[]⟩ : ByteArray), .bool false, .slice none 0 0, .string (⟨#[]⟩ : ByteArray), .string (⟨#[]⟩ : ByteArray), .slice none 0 0] 29 (0, 0)) q0_ NB442_0.out (by simp)); have n2_ := Aside0.mk (KeepBut.trans q10_ hk (.inl rfl)); have n3_ := Aside0.mk (hb); have n4_ := Aside0.mk (hi); clear BK433; clear BK442; clear HK; clear HB; clear HI0; have BK433 := n0_; have BK442 := n1_; have HK := n2_; have HB := n3_; have HI0 := n4_; clear n0_ n1_ n2_ n3_ n4_; (try clear hb); (try clear hb2); (try clear hk); (try clear hi); obtain ⟨HGz16, hgz16⟩ := HI0.out; have hcz16_0 := cellS71_0 HGz16; have hcz16_1 := cellS71_1 HGz16; have hcz16_2 := cellS71_2 HGz16; have hfz16_0 := blk_frozen HGz16 0; have hfz16_1 := blk_frozen HGz16 1; have hfz16_2 := blk_frozen HGz16 2; clear HGz16 hgz16; obtain ⟨hcz17_0, hcz17_1, hcz17_2, hcz17_3, hcz17_4, hcz17_5, hcz17_6, hcz17_7, hfz17_0, hfz17_1, hfz17_2, hfz17_3, hfz17_4, hfz17_5, hfz17_6, hfz17_7⟩ := cellsF8 BK442.out) | ((with_reducible refine gate_callee (f := 35) rfl ?_); refine goesL_ (some 39) rfl rfl Tryz.func35 (by kernel_rfl) rfl #[.pointer (some ⟨g, 0, none⟩)] rfl q3_ ?_; (with_reducible refine (script_reader_text.calls g t444 t445 true t447 t448 t449 t450 w0 _ ?side1 ?side2 A7.out).mono ?_); (case side1 => repeat (first | (with_reducible first | exact HI0.out | apply IsS71.alloc | apply IsS71.drewN | apply IsS71.drew | apply IsS71.set_0 | apply IsS71.set_1 | apply IsS71.set_2 | (apply IsS71.far; rotate_left; exact NB0_433.out; rotate_right) | (apply IsS71.far; rotate_left; exact NB0_442.out; rotate_right)) | exact HI0.out)); (case side2 => repeat (first | (with_reducible first | exact HB.out | apply below_alloc | apply pw_below_drewN | apply below_drew1 | refine below_set ?_ (IsS71.ge HI0.out) | refine below_set ?_ GE433.out | refine below_set ?_ GE442.out) | exact HB.out)); rintro e w18 ⟨rfl, hi, hb, hk⟩; refine ⟨_, rfl, ?_⟩; have n0_ := Aside0.mk (KeepBut.blk hk (g' := gb433) (o := .cells #[.int .i64 0, .string (⟨#[]⟩ : ByteArray), .string (⟨#[]⟩ : ByteArray), .bool false, .slice none 0 0, .string (⟨#[]⟩ : ByteArray), .string (⟨#[]⟩ : ByteArray), .slice none 0 0] 29 (0, 0)) q27_ NB433_0.out (by simp)); have n1_ := Aside0.mk (KeepBut.blk hk (g' := gb442) (o := .cells #[.int .i64 0, .string t438, .string (⟨#[]⟩ : ByteArray), .bool (t443.toList == ([49] : List UInt8)), .slice none 0 0, .string (⟨#[]⟩ : ByteArray), .string (⟨#[]⟩ : ByteArray), .slice none 0 0] 29 (0, 0)) q21_ NB442_0.out (by simp)); have n2_ := Aside0.mk (KeepBut.trans q10_ hk (.inl rfl)); have n3_ := Aside0.mk (hb); have n4_ := Aside0.mk (hi); clear BK433; clear BK442; clear HK; clear HB; clear HI0; have BK433 := n0_; have BK442 := n1_; have HK := n2_; have HB := n3_; have HI0 := n4_; clear n0_ n1_ n2_ n3_ n4_; (try clear hb); (try clear hb2); (try clear hk); (try clear hi); obtain ⟨hcz19_0, hcz19_1, hcz19_2, hcz19_3, hcz19_4, hcz19_5, hcz19_6, hcz19_7, hfz19_0, hfz19_1, hfz19_2, hfz19_3, hfz19_4, hfz19_5, hfz19_6, hfz19_7⟩ := cellsF8 BK442.out; have hnb20 := NB433_0.out; have hnc20 := NB0_433.out; obtain ⟨hcz21_0, hcz21_1, hcz21_2, hcz21_3, hcz21_4, hcz21_5, hcz21_6, hcz21_7, hfz21_0, hfz21_1, hfz21_2, hfz21_3, hfz21_4, hfz21_5, hfz21_6, hfz21_7⟩ := cellsF8 BK433.out))
   refine bodyPost_ret (results_cell_row rfl _ _ gb433 29 #[.int .i64 0, .string t438, .string t447, .bool (t443.toList == ([49] : List UInt8)), .slice none 0 0, .string (⟨#[]⟩ : ByteArray), .string (⟨#[]⟩ : ByteArray), .slice none 0 0] (0, 0) _ rfl (by (with_reducible repeat (first | refine blk_drewN ?_ _ | refine blk_drew ?_ | refine blk_alloc ?_ _)); refine blk_put (cs := #[.int .i64 0, .string t438, .string t447, .bool (t443.toList == ([49] : List UInt8)), .slice none 0 0, .string (⟨#[]⟩ : ByteArray), .string (⟨#[]⟩ : ByteArray), .slice none 0 0]) ?_ 7 _ rfl; (with_reducible repeat (first | refine blk_drewN ?_ _ | refine blk_drew ?_ | refine blk_alloc ?_ _)); refine blk_put (cs := #[.int .i64 0, .string t438, .string t447, .bool (t443.toList == ([49] : List UInt8)), .slice none 0 0, .string (⟨#[]⟩ : ByteArray), .string (⟨#[]⟩ : ByteArray), .slice none 0 0]) ?_ 6 _ rfl; (with_reducible repeat (first | refine blk_drewN ?_ _ | refine blk_drew ?_ | refine blk_alloc ?_ _)); refine blk_put (cs := #[.int .i64 0, .string t438, .string t447, .bool (t443.toList == ([49] : List UInt8)), .slice none 0 0, .string (⟨#[]⟩ : ByteArray), .string (⟨#[]⟩ : ByteArray), .slice none 0 0]) ?_ 5 _ rfl; (with_reducible repeat (first | refine blk_drewN ?_ _ | refine blk_drew ?_ | refine blk_alloc ?_ _)); refine blk_put (cs := #[.int .i64 0, .string t438, .string t447, .bool (t443.toList == ([49] : List UInt8)), .slice none 0 0, .string (⟨#[]⟩ : ByteArray), .string (⟨#[]⟩ : ByteArray), .slice none 0 0]) ?_ 4 _ rfl; (with_reducible repeat (first | refine blk_drewN ?_ _ | refine blk_drew ?_ | refine blk_alloc ?_ _)); refine blk_put (cs := #[.int .i64 0, .string t438, .string t447, .bool false, .slice none 0 0, .string (⟨#[]⟩ : ByteArray), .string (⟨#[]⟩ : ByteArray), .slice none 0 0]) ?_ 3 _ rfl; (with_reducible repeat (first | refine blk_drewN ?_ _ | refine blk_drew ?_ | refine blk_alloc ?_ _)); refine blk_put (cs := #[.int .i64 0, .string t438, .string (⟨#[]⟩ : ByteArray), .bool false, .slice none 0 0, .string (⟨#[]⟩ : ByteArray), .string (⟨#[]⟩ : ByteArray), .slice none 0 0]) ?_ 2 _ rfl; (with_reducible repeat (first | refine blk_drewN ?_ _ | refine blk_drew ?_ | refine blk_alloc ?_ _)); refine blk_put (cs := #[.int .i64 0, .string (⟨#[]⟩ : ByteArray), .string (⟨#[]⟩ : ByteArray), .bool false, .slice none 0 0, .string (⟨#[]⟩ : ByteArray), .string (⟨#[]⟩ : ByteArray), .slice none 0 0]) ?_ 1 _ rfl; (with_reducible repeat (first | refine blk_drewN ?_ _ | refine blk_drew ?_ | refine blk_alloc ?_ _)); refine blk_put (cs := #[.int .i64 0, .string (⟨#[]⟩ : ByteArray), .string (⟨#[]⟩ : ByteArray), .bool false, .slice none 0 0, .string (⟨#[]⟩ : ByteArray), .string (⟨#[]⟩ : ByteArray), .slice none 0 0]) ?_ 0 _ rfl; (with_reducible repeat (first | refine blk_drewN ?_ _ | refine blk_drew ?_ | refine blk_alloc ?_ _)); refine blk_far ?_ NB433_442.out _; (with_reducible repeat (first | refine blk_drewN ?_ _ | refine blk_drew ?_ | refine blk_alloc ?_ _)); exact BK433.out) Tryz.underlying29 rfl (by kernel_rfl)) rfl ?_
   exact ⟨_, _, q33_, q11_, q11_, q32_, q39_, q10_⟩
  ·replace c6 := Bool.eq_false_iff.mpr c6
   subst c6
   have H1 : (if t443.toList = ([48] : List UInt8) then ((script_reader_text.f t444 t445 false).bind fun bt451 => (some (0, t438, bt451.1, (t443.toList == ([49] : List UInt8)), ([] : List ByteArray), (⟨#[]⟩ : ByteArray), (⟨#[]⟩ : ByteArray), ([] : List (S44)), bt451.2.1, bt451.2.2.1, bt451.2.2.2))) else ((script_reader_text.f t444 t445 (t443.toList != ([49] : List UInt8))).bind fun bt455 => (some (0, t438, bt455.1, (t443.toList == ([49] : List UInt8)), ([] : List ByteArray), (⟨#[]⟩ : ByteArray), (⟨#[]⟩ : ByteArray), ([] : List (S44)), bt455.2.1, bt455.2.2.1, bt455.2.2.2)))) = some (r1, r2, r3, r4, r5, r6, r7, r8, r9, r10, r11) := by rw [if_neg (show ¬ (false = true) by decide)] at H; exact H
   clear H
   have H := H1
   clear H1
   by_cases c22 : t443.toList = ([48] : List UInt8)
   ·rw [if_pos c22] at H
    have c22b0 : (t443.toList == ([48] : List UInt8)) = true := beq_iff_eq.mpr c22
    have c22b1 : (t443.toList != ([48] : List UInt8)) = false := bne_eq_false_iff_eq.mpr c22
    clear c22
    replace H := Option.bind_eq_some_iff.mp H
    obtain ⟨⟨t451, t452, t453, t454⟩, A230, H⟩ := H
    replace H : (some (0, t438, t451, (t443.toList == ([49] : List UInt8)), ([] : List ByteArray), (⟨#[]⟩ : ByteArray), (⟨#[]⟩ : ByteArray), ([] : List (S44)), t452, t453, t454)) = some (r1, r2, r3, r4, r5, r6, r7, r8, r9, r10, r11) := H
    have A23 := Aside0.mk A230
    clear A230
    simp only [Option.some.injEq, Prod.mk.injEq] at H
    obtain ⟨rfl, rfl, rfl, rfl, rfl, rfl, rfl, rfl, rfl, rfl, rfl⟩ := H
    go_enter Tryz.func25, Tryz.ntmps25
    go_wp2_with (first | ((with_reducible refine gate_dst (N := 2) rfl ?_); (try (refine gate_guard (by rfl) ?_; dsimp only)); refine box_event ?hg (N := 2) ?hd (cs := #[.int .i64 0, .string (⟨#[]⟩ : ByteArray), .string (⟨#[]⟩ : ByteArray), .bool false, .slice none 0 0, .string (⟨#[]⟩ : ByteArray), .string (⟨#[]⟩ : ByteArray), .slice none 0 0]) (t := 29) ?hr ?_; (case hd => rfl); (case hg => rfl); (case hr => first | (go_simp; done) | (go_simp; rfl)); intro gb433 hg w24 hbox hb; have n0_ := Aside0.mk (IsS71.below q24_ hb); have n1_ := Aside0.mk (KeepBut.trans q6_ (KeepBut.of_below hb g none) (.inl rfl)); have n2_ := Aside0.mk (below_step q26_ hb); have n3_ := Aside0.mk (hbox); have n4_ := Aside0.mk ((q31_ : w.heap.size ≤ gb433)); have n5_ := Aside0.mk ((Nat.le_trans HW0.out (q31_ : w.heap.size ≤ gb433) : w0.heap.size ≤ gb433)); have n6_ := Aside0.mk ((by rw [hg]; exact Nat.ne_of_lt (IsS71.lt (show IsS71 w0 _ g s0_0 s0_1 s0_2 from by repeat (first | (with_reducible first | exact HI0.out | apply IsS71.alloc | apply IsS71.drewN | apply IsS71.drew | apply IsS71.set_0 | apply IsS71.set_1 | apply IsS71.set_2) | exact HI0.out))) : g ≠ gb433)); have n7_ := Aside0.mk ((by rw [hg]; exact Nat.ne_of_gt (IsS71.lt (show IsS71 w0 _ g s0_0 s0_1 s0_2 from by repeat (first | (with_reducible first | exact HI0.out | apply IsS71.alloc | apply IsS71.drewN | apply IsS71.drew | apply IsS71.set_0 | apply IsS71.set_1 | apply IsS71.set_2) | exact HI0.out))) : gb433 ≠ g)); clear HI0; clear HK; clear HB; have HI0 := n0_; have HK := n1_; have HB := n2_; have BK433 := n3_; have GW433 := n4_; have GE433 := n5_; have NB0_433 := n6_; have NB433_0 := n7_; clear n0_ n1_ n2_ n3_ n4_ n5_ n6_ n7_; clear hb hbox hg) | ((with_reducible refine gate_callee (f := 35) rfl ?_); refine goesL_ (some 12) rfl rfl Tryz.func35 (by kernel_rfl) rfl #[.pointer (some ⟨g, 0, none⟩)] rfl q3_ ?_; (with_reducible refine (script_reader_text.calls g s0_0 s0_1 s0_2 t434 t435 t436 t437 w0 _ ?side1 ?side2 A2.out).mono ?_); (case side1 => repeat (first | (with_reducible first | exact HI0.out | apply IsS71.alloc | apply IsS71.drewN | apply IsS71.drew | apply IsS71.set_0 | apply IsS71.set_1 | apply IsS71.set_2 | (apply IsS71.far; rotate_left; exact NB0_433.out; rotate_right)) | exact HI0.out)); (case side2 => repeat (first | (with_reducible first | exact HB.out | apply below_alloc | apply pw_below_drewN | apply below_drew1 | refine below_set ?_ (IsS71.ge HI0.out) | refine below_set ?_ GE433.out) | exact HB.out)); rintro e w25 ⟨rfl, hi, hb, hk⟩; refine ⟨_, rfl, ?_⟩; have n0_ := Aside0.mk (KeepBut.blk hk (g' := gb433) (o := .cells #[.int .i64 0, .string (⟨#[]⟩ : ByteArray), .string (⟨#[]⟩ : ByteArray), .bool false, .slice none 0 0, .string (⟨#[]⟩ : ByteArray), .string (⟨#[]⟩ : ByteArray), .slice none 0 0] 29 (0, 0)) q1_ NB433_0.out (by simp)); have n1_ := Aside0.mk (KeepBut.trans q2_ hk (.inl rfl)); have n2_ := Aside0.mk (hb); have n3_ := Aside0.mk (hi); clear BK433; clear HK; clear HB; clear HI0; have BK433 := n0_; have HK := n1_; have HB := n2_; have HI0 := n3_; clear n0_ n1_ n2_ n3_; (try clear hb); (try clear hb2); (try clear hk); (try clear hi)) | ((with_reducible refine gate_callee (f := 35) rfl ?_); refine goesL_ (some 16) rfl rfl Tryz.func35 (by kernel_rfl) rfl #[.pointer (some ⟨g, 0, none⟩)] rfl q3_ ?_; (with_reducible refine (script_reader_text.calls g t435 t436 t437 t438 t439 t440 t441 w0 _ ?side1 ?side2 A4.out).mono ?_); (case side1 => repeat (first | (with_reducible first | exact HI0.out | apply IsS71.alloc | apply IsS71.drewN | apply IsS71.drew | apply IsS71.set_0 | apply IsS71.set_1 | apply IsS71.set_2 | (apply IsS71.far; rotate_left; exact NB0_433.out; rotate_right)) | exact HI0.out)); (case side2 => repeat (first | (with_reducible first | exact HB.out | apply below_alloc | apply pw_below_drewN | apply below_drew1 | refine below_set ?_ (IsS71.ge HI0.out) | refine below_set ?_ GE433.out) | exact HB.out)); rintro e w26 ⟨rfl, hi, hb, hk⟩; refine ⟨_, rfl, ?_⟩; have n0_ := Aside0.mk (KeepBut.blk hk (g' := gb433) (o := .cells #[.int .i64 0, .string (⟨#[]⟩ : ByteArray), .string (⟨#[]⟩ : ByteArray), .bool false, .slice none 0 0, .string (⟨#[]⟩ : ByteArray), .string (⟨#[]⟩ : ByteArray), .slice none 0 0] 29 (0, 0)) q1_ NB433_0.out (by simp)); have n1_ := Aside0.mk (KeepBut.trans q2_ hk (.inl rfl)); have n2_ := Aside0.mk (hb); have n3_ := Aside0.mk (hi); clear BK433; clear HK; clear HB; clear HI0; have BK433 := n0_; have HK := n1_; have HB := n2_; have HI0 := n3_; clear n0_ n1_ n2_ n3_; (try clear hb); (try clear hb2); (try clear hk); (try clear hi)) | ((with_reducible refine gate_dst (N := 3) rfl ?_); (try (refine gate_guard (by rfl) ?_; dsimp only)); refine box_event ?hg (N := 3) ?hd (cs := #[.int .i64 0, .string (⟨#[]⟩ : ByteArray), .string (⟨#[]⟩ : ByteArray), .bool false, .slice none 0 0, .string (⟨#[]⟩ : ByteArray), .string (⟨#[]⟩ : ByteArray), .slice none 0 0]) (t := 29) ?hr ?_; (case hd => rfl); (case hg => rfl); (case hr => first | (go_simp; done) | (go_simp; rfl)); intro gb442 hg w27 hbox hb; have n0_ := Aside0.mk (IsS71.below q19_ hb); have n1_ := Aside0.mk (blk_below (g := gb433) (o := .cells #[.int .i64 0, .string (⟨#[]⟩ : ByteArray), .string (⟨#[]⟩ : ByteArray), .bool false, .slice none 0 0, .string (⟨#[]⟩ : ByteArray), .string (⟨#[]⟩ : ByteArray), .slice none 0 0] 29 (0, 0)) q1_ hb); have n2_ := Aside0.mk (KeepBut.trans q2_ (KeepBut.of_below hb g none) (.inl rfl)); have n3_ := Aside0.mk (below_step q22_ hb); have n4_ := Aside0.mk (hbox); have n5_ := Aside0.mk ((q34_ : w.heap.size ≤ gb442)); have n6_ := Aside0.mk ((Nat.le_trans HW0.out (q34_ : w.heap.size ≤ gb442) : w0.heap.size ≤ gb442)); have n7_ := Aside0.mk ((q13_ : gb433 ≠ gb442)); have n8_ := Aside0.mk ((q14_ : gb442 ≠ gb433)); have n9_ := Aside0.mk ((q29_ : g ≠ gb442)); have n10_ := Aside0.mk ((q30_ : gb442 ≠ g)); clear HI0; clear BK433; clear HK; clear HB; have HI0 := n0_; have BK433 := n1_; have HK := n2_; have HB := n3_; have BK442 := n4_; have GW442 := n5_; have GE442 := n6_; have NB433_442 := n7_; have NB442_433 := n8_; have NB0_442 := n9_; have NB442_0 := n10_; clear n0_ n1_ n2_ n3_ n4_ n5_ n6_ n7_ n8_ n9_ n10_; clear hb hbox hg; have hnb28 := NB442_433.out; have hnc28 := NB433_442.out; have hnb29 := NB442_0.out; have hnc29 := NB0_442.out; obtain ⟨hcz30_0, hcz30_1, hcz30_2, hcz30_3, hcz30_4, hcz30_5, hcz30_6, hcz30_7, hfz30_0, hfz30_1, hfz30_2, hfz30_3, hfz30_4, hfz30_5, hfz30_6, hfz30_7⟩ := cellsF8 BK442.out) | ((with_reducible refine gate_callee (f := 35) rfl ?_); refine goesL_ (some 19) rfl rfl Tryz.func35 (by kernel_rfl) rfl #[.pointer (some ⟨g, 0, none⟩)] rfl q3_ ?_; (with_reducible refine (script_reader_text.calls g t439 t440 t441 t443 t444 t445 false w0 _ ?side1 ?side2 A5.out).mono ?_); (case side1 => repeat (first | (with_reducible first | exact HI0.out | apply IsS71.alloc | apply IsS71.drewN | apply IsS71.drew | apply IsS71.set_0 | apply IsS71.set_1 | apply IsS71.set_2 | (apply IsS71.far; rotate_left; exact NB0_433.out; rotate_right) | (apply IsS71.far; rotate_left; exact NB0_442.out; rotate_right)) | exact HI0.out)); (case side2 => repeat (first | (with_reducible first | exact HB.out | apply below_alloc | apply pw_below_drewN | apply below_drew1 | refine below_set ?_ (IsS71.ge HI0.out) | refine below_set ?_ GE433.out | refine below_set ?_ GE442.out) | exact HB.out)); rintro e w31 ⟨rfl, hi, hb, hk⟩; refine ⟨_, rfl, ?_⟩; have n0_ := Aside0.mk (KeepBut.blk hk (g' := gb433) (o := .cells #[.int .i64 0, .string (⟨#[]⟩ : ByteArray), .string (⟨#[]⟩ : ByteArray), .bool false, .slice none 0 0, .string (⟨#[]⟩ : ByteArray), .string (⟨#[]⟩ : ByteArray), .slice none 0 0] 29 (0, 0)) q7_ NB433_0.out (by simp)); have n1_ := Aside0.mk (KeepBut.blk hk (g' := gb442) (o := .cells #[.int .i64 0, .string t438, .string (⟨#[]⟩ : ByteArray), .bool false, .slice none 0 0, .string (⟨#[]⟩ : ByteArray), .string (⟨#[]⟩ : ByteArray), .slice none 0 0] 29 (0, 0)) q0_ NB442_0.out (by simp)); have n2_ := Aside0.mk (KeepBut.trans q10_ hk (.inl rfl)); have n3_ := Aside0.mk (hb); have n4_ := Aside0.mk (hi); clear BK433; clear BK442; clear HK; clear HB; clear HI0; have BK433 := n0_; have BK442 := n1_; have HK := n2_; have HB := n3_; have HI0 := n4_; clear n0_ n1_ n2_ n3_ n4_; (try clear hb); (try clear hb2); (try clear hk); (try clear hi); obtain ⟨HGz32, hgz32⟩ := HI0.out; have hcz32_0 := cellS71_0 HGz32; have hcz32_1 := cellS71_1 HGz32; have hcz32_2 := cellS71_2 HGz32; have hfz32_0 := blk_frozen HGz32 0; have hfz32_1 := blk_frozen HGz32 1; have hfz32_2 := blk_frozen HGz32 2; clear HGz32 hgz32; obtain ⟨hcz33_0, hcz33_1, hcz33_2, hcz33_3, hcz33_4, hcz33_5, hcz33_6, hcz33_7, hfz33_0, hfz33_1, hfz33_2, hfz33_3, hfz33_4, hfz33_5, hfz33_6, hfz33_7⟩ := cellsF8 BK442.out) | ((with_reducible refine gate_callee (f := 35) rfl ?_); refine goesL_ (some 39) rfl rfl Tryz.func35 (by kernel_rfl) rfl #[.pointer (some ⟨g, 0, none⟩)] rfl q3_ ?_; (with_reducible refine (script_reader_text.calls g t444 t445 false t451 t452 t453 t454 w0 _ ?side1 ?side2 A23.out).mono ?_); (case side1 => repeat (first | (with_reducible first | exact HI0.out | apply IsS71.alloc | apply IsS71.drewN | apply IsS71.drew | apply IsS71.set_0 | apply IsS71.set_1 | apply IsS71.set_2 | (apply IsS71.far; rotate_left; exact NB0_433.out; rotate_right) | (apply IsS71.far; rotate_left; exact NB0_442.out; rotate_right)) | exact HI0.out)); (case side2 => repeat (first | (with_reducible first | exact HB.out | apply below_alloc | apply pw_below_drewN | apply below_drew1 | refine below_set ?_ (IsS71.ge HI0.out) | refine below_set ?_ GE433.out | refine below_set ?_ GE442.out) | exact HB.out)); rintro e w34 ⟨rfl, hi, hb, hk⟩; refine ⟨_, rfl, ?_⟩; have n0_ := Aside0.mk (KeepBut.blk hk (g' := gb433) (o := .cells #[.int .i64 0, .string (⟨#[]⟩ : ByteArray), .string (⟨#[]⟩ : ByteArray), .bool false, .slice none 0 0, .string (⟨#[]⟩ : ByteArray), .string (⟨#[]⟩ : ByteArray), .slice none 0 0] 29 (0, 0)) q27_ NB433_0.out (by simp)); have n1_ := Aside0.mk (KeepBut.blk hk (g' := gb442) (o := .cells #[.int .i64 0, .string t438, .string (⟨#[]⟩ : ByteArray), .bool (t443.toList == ([49] : List UInt8)), .slice none 0 0, .string (⟨#[]⟩ : ByteArray), .string (⟨#[]⟩ : ByteArray), .slice none 0 0] 29 (0, 0)) q21_ NB442_0.out (by simp)); have n2_ := Aside0.mk (KeepBut.trans q10_ hk (.inl rfl)); have n3_ := Aside0.mk (hb); have n4_ := Aside0.mk (hi); clear BK433; clear BK442; clear HK; clear HB; clear HI0; have BK433 := n0_; have BK442 := n1_; have HK := n2_; have HB := n3_; have HI0 := n4_; clear n0_ n1_ n2_ n3_ n4_; (try clear hb); (try clear hb2); (try clear hk); (try clear hi); obtain ⟨hcz35_0, hcz35_1, hcz35_2, hcz35_3, hcz35_4, hcz35_5, hcz35_6, hcz35_7, hfz35_0, hfz35_1, hfz35_2, hfz35_3, hfz35_4, hfz35_5, hfz35_6, hfz35_7⟩ := cellsF8 BK442.out; have hnb36 := NB433_0.out; have hnc36 := NB0_433.out; obtain ⟨hcz37_0, hcz37_1, hcz37_2, hcz37_3, hcz37_4, hcz37_5, hcz37_6, hcz37_7, hfz37_0, hfz37_1, hfz37_2, hfz37_3, hfz37_4, hfz37_5, hfz37_6, hfz37_7⟩ := cellsF8 BK433.out))
    refine bodyPost_ret (results_cell_row rfl _ _ gb433 29 #[.int .i64 0, .string t438, .string t451, .bool (t443.toList == ([49] : List UInt8)), .slice none 0 0, .string (⟨#[]⟩ : ByteArray), .string (⟨#[]⟩ : ByteArray), .slice none 0 0] (0, 0) _ rfl (by (with_reducible repeat (first | refine blk_drewN ?_ _ | refine blk_drew ?_ | refine blk_alloc ?_ _)); refine blk_put (cs := #[.int .i64 0, .string t438, .string t451, .bool (t443.toList == ([49] : List UInt8)), .slice none 0 0, .string (⟨#[]⟩ : ByteArray), .string (⟨#[]⟩ : ByteArray), .slice none 0 0]) ?_ 7 _ rfl; (with_reducible repeat (first | refine blk_drewN ?_ _ | refine blk_drew ?_ | refine blk_alloc ?_ _)); refine blk_put (cs := #[.int .i64 0, .string t438, .string t451, .bool (t443.toList == ([49] : List UInt8)), .slice none 0 0, .string (⟨#[]⟩ : ByteArray), .string (⟨#[]⟩ : ByteArray), .slice none 0 0]) ?_ 6 _ rfl; (with_reducible repeat (first | refine blk_drewN ?_ _ | refine blk_drew ?_ | refine blk_alloc ?_ _)); refine blk_put (cs := #[.int .i64 0, .string t438, .string t451, .bool (t443.toList == ([49] : List UInt8)), .slice none 0 0, .string (⟨#[]⟩ : ByteArray), .string (⟨#[]⟩ : ByteArray), .slice none 0 0]) ?_ 5 _ rfl; (with_reducible repeat (first | refine blk_drewN ?_ _ | refine blk_drew ?_ | refine blk_alloc ?_ _)); refine blk_put (cs := #[.int .i64 0, .string t438, .string t451, .bool (t443.toList == ([49] : List UInt8)), .slice none 0 0, .string (⟨#[]⟩ : ByteArray), .string (⟨#[]⟩ : ByteArray), .slice none 0 0]) ?_ 4 _ rfl; (with_reducible repeat (first | refine blk_drewN ?_ _ | refine blk_drew ?_ | refine blk_alloc ?_ _)); refine blk_put (cs := #[.int .i64 0, .string t438, .string t451, .bool false, .slice none 0 0, .string (⟨#[]⟩ : ByteArray), .string (⟨#[]⟩ : ByteArray), .slice none 0 0]) ?_ 3 _ rfl; (with_reducible repeat (first | refine blk_drewN ?_ _ | refine blk_drew ?_ | refine blk_alloc ?_ _)); refine blk_put (cs := #[.int .i64 0, .string t438, .string (⟨#[]⟩ : ByteArray), .bool false, .slice none 0 0, .string (⟨#[]⟩ : ByteArray), .string (⟨#[]⟩ : ByteArray), .slice none 0 0]) ?_ 2 _ rfl; (with_reducible repeat (first | refine blk_drewN ?_ _ | refine blk_drew ?_ | refine blk_alloc ?_ _)); refine blk_put (cs := #[.int .i64 0, .string (⟨#[]⟩ : ByteArray), .string (⟨#[]⟩ : ByteArray), .bool false, .slice none 0 0, .string (⟨#[]⟩ : ByteArray), .string (⟨#[]⟩ : ByteArray), .slice none 0 0]) ?_ 1 _ rfl; (with_reducible repeat (first | refine blk_drewN ?_ _ | refine blk_drew ?_ | refine blk_alloc ?_ _)); refine blk_put (cs := #[.int .i64 0, .string (⟨#[]⟩ : ByteArray), .string (⟨#[]⟩ : ByteArray), .bool false, .slice none 0 0, .string (⟨#[]⟩ : ByteArray), .string (⟨#[]⟩ : ByteArray), .slice none 0 0]) ?_ 0 _ rfl; (with_reducible repeat (first | refine blk_drewN ?_ _ | refine blk_drew ?_ | refine blk_alloc ?_ _)); refine blk_far ?_ NB433_442.out _; (with_reducible repeat (first | refine blk_drewN ?_ _ | refine blk_drew ?_ | refine blk_alloc ?_ _)); exact BK433.out) Tryz.underlying29 rfl (by kernel_rfl)) rfl ?_
    exact ⟨_, _, q33_, q11_, q11_, q32_, q39_, q10_⟩
   ·rw [if_neg c22] at H
    have c22b0 : (t443.toList == ([48] : List UInt8)) = false := beq_eq_false_iff_ne.mpr c22
    have c22b1 : (t443.toList != ([48] : List UInt8)) = true := bne_iff_ne.mpr c22
    replace H := Option.bind_eq_some_iff.mp H
    obtain ⟨⟨t455, t456, t457, t458⟩, A380, H⟩ := H
    replace H : (some (0, t438, t455, (t443.toList == ([49] : List UInt8)), ([] : List ByteArray), (⟨#[]⟩ : ByteArray), (⟨#[]⟩ : ByteArray), ([] : List (S44)), t456, t457, t458)) = some (r1, r2, r3, r4, r5, r6, r7, r8, r9, r10, r11) := H
    have A38 := Aside0.mk A380
    clear A380
    simp only [Option.some.injEq, Prod.mk.injEq] at H
    obtain ⟨rfl, rfl, rfl, rfl, rfl, rfl, rfl, rfl, rfl, rfl, rfl⟩ := H
    have Aq := Aside0.mk (show script_reader_text.f t444 t445 (!(t443.toList == ([49] : List UInt8))) = some (t455, t456, t457, t458) from A38.out)
    go_enter Tryz.func25, Tryz.ntmps25
    go_wp2_with (first | ((with_reducible refine gate_dst (N := 2) rfl ?_); (try (refine gate_guard (by rfl) ?_; dsimp only)); refine box_event ?hg (N := 2) ?hd (cs := #[.int .i64 0, .string (⟨#[]⟩ : ByteArray), .string (⟨#[]⟩ : ByteArray), .bool false, .slice none 0 0, .string (⟨#[]⟩ : ByteArray), .string (⟨#[]⟩ : ByteArray), .slice none 0 0]) (t := 29) ?hr ?_; (case hd => rfl); (case hg => rfl); (case hr => first | (go_simp; done) | (go_simp; rfl)); intro gb433 hg w39 hbox hb; have n0_ := Aside0.mk (IsS71.below q24_ hb); have n1_ := Aside0.mk (KeepBut.trans q6_ (KeepBut.of_below hb g none) (.inl rfl)); have n2_ := Aside0.mk (below_step q26_ hb); have n3_ := Aside0.mk (hbox); have n4_ := Aside0.mk ((q31_ : w.heap.size ≤ gb433)); have n5_ := Aside0.mk ((Nat.le_trans HW0.out (q31_ : w.heap.size ≤ gb433) : w0.heap.size ≤ gb433)); have n6_ := Aside0.mk ((by rw [hg]; exact Nat.ne_of_lt (IsS71.lt (show IsS71 w0 _ g s0_0 s0_1 s0_2 from by repeat (first | (with_reducible first | exact HI0.out | apply IsS71.alloc | apply IsS71.drewN | apply IsS71.drew | apply IsS71.set_0 | apply IsS71.set_1 | apply IsS71.set_2) | exact HI0.out))) : g ≠ gb433)); have n7_ := Aside0.mk ((by rw [hg]; exact Nat.ne_of_gt (IsS71.lt (show IsS71 w0 _ g s0_0 s0_1 s0_2 from by repeat (first | (with_reducible first | exact HI0.out | apply IsS71.alloc | apply IsS71.drewN | apply IsS71.drew | apply IsS71.set_0 | apply IsS71.set_1 | apply IsS71.set_2) | exact HI0.out))) : gb433 ≠ g)); clear HI0; clear HK; clear HB; have HI0 := n0_; have HK := n1_; have HB := n2_; have BK433 := n3_; have GW433 := n4_; have GE433 := n5_; have NB0_433 := n6_; have NB433_0 := n7_; clear n0_ n1_ n2_ n3_ n4_ n5_ n6_ n7_; clear hb hbox hg) | ((with_reducible refine gate_callee (f := 35) rfl ?_); refine goesL_ (some 12) rfl rfl Tryz.func35 (by kernel_rfl) rfl #[.pointer (some ⟨g, 0, none⟩)] rfl q3_ ?_; (with_reducible refine (script_reader_text.calls g s0_0 s0_1 s0_2 t434 t435 t436 t437 w0 _ ?side1 ?side2 A2.out).mono ?_); (case side1 => repeat (first | (with_reducible first | exact HI0.out | apply IsS71.alloc | apply IsS71.drewN | apply IsS71.drew | apply IsS71.set_0 | apply IsS71.set_1 | apply IsS71.set_2 | (apply IsS71.far; rotate_left; exact NB0_433.out; rotate_right)) | exact HI0.out)); (case side2 => repeat (first | (with_reducible first | exact HB.out | apply below_alloc | apply pw_below_drewN | apply below_drew1 | refine below_set ?_ (IsS71.ge HI0.out) | refine below_set ?_ GE433.out) | exact HB.out)); rintro e w40 ⟨rfl, hi, hb, hk⟩; refine ⟨_, rfl, ?_⟩; have n0_ := Aside0.mk (KeepBut.blk hk (g' := gb433) (o := .cells #[.int .i64 0, .string (⟨#[]⟩ : ByteArray), .string (⟨#[]⟩ : ByteArray), .bool false, .slice none 0 0, .string (⟨#[]⟩ : ByteArray), .string (⟨#[]⟩ : ByteArray), .slice none 0 0] 29 (0, 0)) q1_ NB433_0.out (by simp)); have n1_ := Aside0.mk (KeepBut.trans q2_ hk (.inl rfl)); have n2_ := Aside0.mk (hb); have n3_ := Aside0.mk (hi); clear BK433; clear HK; clear HB; clear HI0; have BK433 := n0_; have HK := n1_; have HB := n2_; have HI0 := n3_; clear n0_ n1_ n2_ n3_; (try clear hb); (try clear hb2); (try clear hk); (try clear hi)) | ((with_reducible refine gate_callee (f := 35) rfl ?_); refine goesL_ (some 16) rfl rfl Tryz.func35 (by kernel_rfl) rfl #[.pointer (some ⟨g, 0, none⟩)] rfl q3_ ?_; (with_reducible refine (script_reader_text.calls g t435 t436 t437 t438 t439 t440 t441 w0 _ ?side1 ?side2 A4.out).mono ?_); (case side1 => repeat (first | (with_reducible first | exact HI0.out | apply IsS71.alloc | apply IsS71.drewN | apply IsS71.drew | apply IsS71.set_0 | apply IsS71.set_1 | apply IsS71.set_2 | (apply IsS71.far; rotate_left; exact NB0_433.out; rotate_right)) | exact HI0.out)); (case side2 => repeat (first | (with_reducible first | exact HB.out | apply below_alloc | apply pw_below_drewN | apply below_drew1 | refine below_set ?_ (IsS71.ge HI0.out) | refine below_set ?_ GE433.out) | exact HB.out)); rintro e w41 ⟨rfl, hi, hb, hk⟩; refine ⟨_, rfl, ?_⟩; have n0_ := Aside0.mk (KeepBut.blk hk (g' := gb433) (o := .cells #[.int .i64 0, .string (⟨#[]⟩ : ByteArray), .string (⟨#[]⟩ : ByteArray), .bool false, .slice none 0 0, .string (⟨#[]⟩ : ByteArray), .string (⟨#[]⟩ : ByteArray), .slice none 0 0] 29 (0, 0)) q1_ NB433_0.out (by simp)); have n1_ := Aside0.mk (KeepBut.trans q2_ hk (.inl rfl)); have n2_ := Aside0.mk (hb); have n3_ := Aside0.mk (hi); clear BK433; clear HK; clear HB; clear HI0; have BK433 := n0_; have HK := n1_; have HB := n2_; have HI0 := n3_; clear n0_ n1_ n2_ n3_; (try clear hb); (try clear hb2); (try clear hk); (try clear hi)) | ((with_reducible refine gate_dst (N := 3) rfl ?_); (try (refine gate_guard (by rfl) ?_; dsimp only)); refine box_event ?hg (N := 3) ?hd (cs := #[.int .i64 0, .string (⟨#[]⟩ : ByteArray), .string (⟨#[]⟩ : ByteArray), .bool false, .slice none 0 0, .string (⟨#[]⟩ : ByteArray), .string (⟨#[]⟩ : ByteArray), .slice none 0 0]) (t := 29) ?hr ?_; (case hd => rfl); (case hg => rfl); (case hr => first | (go_simp; done) | (go_simp; rfl)); intro gb442 hg w42 hbox hb; have n0_ := Aside0.mk (IsS71.below q19_ hb); have n1_ := Aside0.mk (blk_below (g := gb433) (o := .cells #[.int .i64 0, .string (⟨#[]⟩ : ByteArray), .string (⟨#[]⟩ : ByteArray), .bool false, .slice none 0 0, .string (⟨#[]⟩ : ByteArray), .string (⟨#[]⟩ : ByteArray), .slice none 0 0] 29 (0, 0)) q1_ hb); have n2_ := Aside0.mk (KeepBut.trans q2_ (KeepBut.of_below hb g none) (.inl rfl)); have n3_ := Aside0.mk (below_step q22_ hb); have n4_ := Aside0.mk (hbox); have n5_ := Aside0.mk ((q34_ : w.heap.size ≤ gb442)); have n6_ := Aside0.mk ((Nat.le_trans HW0.out (q34_ : w.heap.size ≤ gb442) : w0.heap.size ≤ gb442)); have n7_ := Aside0.mk ((q13_ : gb433 ≠ gb442)); have n8_ := Aside0.mk ((q14_ : gb442 ≠ gb433)); have n9_ := Aside0.mk ((q29_ : g ≠ gb442)); have n10_ := Aside0.mk ((q30_ : gb442 ≠ g)); clear HI0; clear BK433; clear HK; clear HB; have HI0 := n0_; have BK433 := n1_; have HK := n2_; have HB := n3_; have BK442 := n4_; have GW442 := n5_; have GE442 := n6_; have NB433_442 := n7_; have NB442_433 := n8_; have NB0_442 := n9_; have NB442_0 := n10_; clear n0_ n1_ n2_ n3_ n4_ n5_ n6_ n7_ n8_ n9_ n10_; clear hb hbox hg; have hnb43 := NB442_433.out; have hnc43 := NB433_442.out; have hnb44 := NB442_0.out; have hnc44 := NB0_442.out; obtain ⟨hcz45_0, hcz45_1, hcz45_2, hcz45_3, hcz45_4, hcz45_5, hcz45_6, hcz45_7, hfz45_0, hfz45_1, hfz45_2, hfz45_3, hfz45_4, hfz45_5, hfz45_6, hfz45_7⟩ := cellsF8 BK442.out) | ((with_reducible refine gate_callee (f := 35) rfl ?_); refine goesL_ (some 19) rfl rfl Tryz.func35 (by kernel_rfl) rfl #[.pointer (some ⟨g, 0, none⟩)] rfl q3_ ?_; (with_reducible refine (script_reader_text.calls g t439 t440 t441 t443 t444 t445 false w0 _ ?side1 ?side2 A5.out).mono ?_); (case side1 => repeat (first | (with_reducible first | exact HI0.out | apply IsS71.alloc | apply IsS71.drewN | apply IsS71.drew | apply IsS71.set_0 | apply IsS71.set_1 | apply IsS71.set_2 | (apply IsS71.far; rotate_left; exact NB0_433.out; rotate_right) | (apply IsS71.far; rotate_left; exact NB0_442.out; rotate_right)) | exact HI0.out)); (case side2 => repeat (first | (with_reducible first | exact HB.out | apply below_alloc | apply pw_below_drewN | apply below_drew1 | refine below_set ?_ (IsS71.ge HI0.out) | refine below_set ?_ GE433.out | refine below_set ?_ GE442.out) | exact HB.out)); rintro e w46 ⟨rfl, hi, hb, hk⟩; refine ⟨_, rfl, ?_⟩; have n0_ := Aside0.mk (KeepBut.blk hk (g' := gb433) (o := .cells #[.int .i64 0, .string (⟨#[]⟩ : ByteArray), .string (⟨#[]⟩ : ByteArray), .bool false, .slice none 0 0, .string (⟨#[]⟩ : ByteArray), .string (⟨#[]⟩ : ByteArray), .slice none 0 0] 29 (0, 0)) q7_ NB433_0.out (by simp)); have n1_ := Aside0.mk (KeepBut.blk hk (g' := gb442) (o := .cells #[.int .i64 0, .string t438, .string (⟨#[]⟩ : ByteArray), .bool false, .slice none 0 0, .string (⟨#[]⟩ : ByteArray), .string (⟨#[]⟩ : ByteArray), .slice none 0 0] 29 (0, 0)) q0_ NB442_0.out (by simp)); have n2_ := Aside0.mk (KeepBut.trans q10_ hk (.inl rfl)); have n3_ := Aside0.mk (hb); have n4_ := Aside0.mk (hi); clear BK433; clear BK442; clear HK; clear HB; clear HI0; have BK433 := n0_; have BK442 := n1_; have HK := n2_; have HB := n3_; have HI0 := n4_; clear n0_ n1_ n2_ n3_ n4_; (try clear hb); (try clear hb2); (try clear hk); (try clear hi); obtain ⟨HGz47, hgz47⟩ := HI0.out; have hcz47_0 := cellS71_0 HGz47; have hcz47_1 := cellS71_1 HGz47; have hcz47_2 := cellS71_2 HGz47; have hfz47_0 := blk_frozen HGz47 0; have hfz47_1 := blk_frozen HGz47 1; have hfz47_2 := blk_frozen HGz47 2; clear HGz47 hgz47; obtain ⟨hcz48_0, hcz48_1, hcz48_2, hcz48_3, hcz48_4, hcz48_5, hcz48_6, hcz48_7, hfz48_0, hfz48_1, hfz48_2, hfz48_3, hfz48_4, hfz48_5, hfz48_6, hfz48_7⟩ := cellsF8 BK442.out) | ((with_reducible refine gate_callee (f := 35) rfl ?_); refine goesL_ (some 39) rfl rfl Tryz.func35 (by kernel_rfl) rfl #[.pointer (some ⟨g, 0, none⟩)] rfl q3_ ?_; (with_reducible refine (script_reader_text.calls g t444 t445 (!(t443.toList == ([49] : List UInt8))) t455 t456 t457 t458 w0 _ ?side1 ?side2 Aq.out).mono ?_); (case side1 => repeat (first | (with_reducible first | exact HI0.out | apply IsS71.alloc | apply IsS71.drewN | apply IsS71.drew | apply IsS71.set_0 | apply IsS71.set_1 | apply IsS71.set_2 | (apply IsS71.far; rotate_left; exact NB0_433.out; rotate_right) | (apply IsS71.far; rotate_left; exact NB0_442.out; rotate_right)) | exact HI0.out)); (case side2 => repeat (first | (with_reducible first | exact HB.out | apply below_alloc | apply pw_below_drewN | apply below_drew1 | refine below_set ?_ (IsS71.ge HI0.out) | refine below_set ?_ GE433.out | refine below_set ?_ GE442.out) | exact HB.out)); rintro e w49 ⟨rfl, hi, hb, hk⟩; refine ⟨_, rfl, ?_⟩; have n0_ := Aside0.mk (KeepBut.blk hk (g' := gb433) (o := .cells #[.int .i64 0, .string (⟨#[]⟩ : ByteArray), .string (⟨#[]⟩ : ByteArray), .bool false, .slice none 0 0, .string (⟨#[]⟩ : ByteArray), .string (⟨#[]⟩ : ByteArray), .slice none 0 0] 29 (0, 0)) q27_ NB433_0.out (by simp)); have n1_ := Aside0.mk (KeepBut.blk hk (g' := gb442) (o := .cells #[.int .i64 0, .string t438, .string (⟨#[]⟩ : ByteArray), .bool (t443.toList == ([49] : List UInt8)), .slice none 0 0, .string (⟨#[]⟩ : ByteArray), .string (⟨#[]⟩ : ByteArray), .slice none 0 0] 29 (0, 0)) q21_ NB442_0.out (by simp)); have n2_ := Aside0.mk (KeepBut.trans q10_ hk (.inl rfl)); have n3_ := Aside0.mk (hb); have n4_ := Aside0.mk (hi); clear BK433; clear BK442; clear HK; clear HB; clear HI0; have BK433 := n0_; have BK442 := n1_; have HK := n2_; have HB := n3_; have HI0 := n4_; clear n0_ n1_ n2_ n3_ n4_; (try clear hb); (try clear hb2); (try clear hk); (try clear hi); obtain ⟨hcz50_0, hcz50_1, hcz50_2, hcz50_3, hcz50_4, hcz50_5, hcz50_6, hcz50_7, hfz50_0, hfz50_1, hfz50_2, hfz50_3, hfz50_4, hfz50_5, hfz50_6, hfz50_7⟩ := cellsF8 BK442.out; have hnb51 := NB433_0.out; have hnc51 := NB0_433.out; obtain ⟨hcz52_0, hcz52_1, hcz52_2, hcz52_3, hcz52_4, hcz52_5, hcz52_6, hcz52_7, hfz52_0, hfz52_1, hfz52_2, hfz52_3, hfz52_4, hfz52_5, hfz52_6, hfz52_7⟩ := cellsF8 BK433.out))
    refine bodyPost_ret (results_cell_row rfl _ _ gb433 29 #[.int .i64 0, .string t438, .string t455, .bool (t443.toList == ([49] : List UInt8)), .slice none 0 0, .string (⟨#[]⟩ : ByteArray), .string (⟨#[]⟩ : ByteArray), .slice none 0 0] (0, 0) _ rfl (by (with_reducible repeat (first | refine blk_drewN ?_ _ | refine blk_drew ?_ | refine blk_alloc ?_ _)); refine blk_put (cs := #[.int .i64 0, .string t438, .string t455, .bool (t443.toList == ([49] : List UInt8)), .slice none 0 0, .string (⟨#[]⟩ : ByteArray), .string (⟨#[]⟩ : ByteArray), .slice none 0 0]) ?_ 7 _ rfl; (with_reducible repeat (first | refine blk_drewN ?_ _ | refine blk_drew ?_ | refine blk_alloc ?_ _)); refine blk_put (cs := #[.int .i64 0, .string t438, .string t455, .bool (t443.toList == ([49] : List UInt8)), .slice none 0 0, .string (⟨#[]⟩ : ByteArray), .string (⟨#[]⟩ : ByteArray), .slice none 0 0]) ?_ 6 _ rfl; (with_reducible repeat (first | refine blk_drewN ?_ _ | refine blk_drew ?_ | refine blk_alloc ?_ _)); refine blk_put (cs := #[.int .i64 0, .string t438, .string t455, .bool (t443.toList == ([49] : List UInt8)), .slice none 0 0, .string (⟨#[]⟩ : ByteArray), .string (⟨#[]⟩ : ByteArray), .slice none 0 0]) ?_ 5 _ rfl; (with_reducible repeat (first | refine blk_drewN ?_ _ | refine blk_drew ?_ | refine blk_alloc ?_ _)); refine blk_put (cs := #[.int .i64 0, .string t438, .string t455, .bool (t443.toList == ([49] : List UInt8)), .slice none 0 0, .string (⟨#[]⟩ : ByteArray), .string (⟨#[]⟩ : ByteArray), .slice none 0 0]) ?_ 4 _ rfl; (with_reducible repeat (first | refine blk_drewN ?_ _ | refine blk_drew ?_ | refine blk_alloc ?_ _)); refine blk_put (cs := #[.int .i64 0, .string t438, .string t455, .bool false, .slice none 0 0, .string (⟨#[]⟩ : ByteArray), .string (⟨#[]⟩ : ByteArray), .slice none 0 0]) ?_ 3 _ rfl; (with_reducible repeat (first | refine blk_drewN ?_ _ | refine blk_drew ?_ | refine blk_alloc ?_ _)); refine blk_put (cs := #[.int .i64 0, .string t438, .string (⟨#[]⟩ : ByteArray), .bool false, .slice none 0 0, .string (⟨#[]⟩ : ByteArray), .string (⟨#[]⟩ : ByteArray), .slice none 0 0]) ?_ 2 _ rfl; (with_reducible repeat (first | refine blk_drewN ?_ _ | refine blk_drew ?_ | refine blk_alloc ?_ _)); refine blk_put (cs := #[.int .i64 0, .string (⟨#[]⟩ : ByteArray), .string (⟨#[]⟩ : ByteArray), .bool false, .slice none 0 0, .string (⟨#[]⟩ : ByteArray), .string (⟨#[]⟩ : ByteArray), .slice none 0 0]) ?_ 1 _ rfl; (with_reducible repeat (first | refine blk_drewN ?_ _ | refine blk_drew ?_ | refine blk_alloc ?_ _)); refine blk_put (cs := #[.int .i64 0, .string (⟨#[]⟩ : ByteArray), .string (⟨#[]⟩ : ByteArray), .bool false, .slice none 0 0, .string (⟨#[]⟩ : ByteArray), .string (⟨#[]⟩ : ByteArray), .slice none 0 0]) ?_ 0 _ rfl; (with_reducible repeat (first | refine blk_drewN ?_ _ | refine blk_drew ?_ | refine blk_alloc ?_ _)); refine blk_far ?_ NB433_442.out _; (with_reducible repeat (first | refine blk_drewN ?_ _ | refine blk_drew ?_ | refine blk_alloc ?_ _)); exact BK433.out) Tryz.underlying29 rfl (by kernel_rfl)) rfl ?_
    exact ⟨_, _, q33_, q11_, q11_, q32_, q39_, q10_⟩
 ·rw [if_neg c3] at H
  have c3b0 : (t434.toList == ([97] : List UInt8)) = false := beq_eq_false_iff_ne.mpr c3
  have c3b1 : (t434.toList != ([97] : List UInt8)) = true := bne_iff_ne.mpr c3
  by_cases c53 : t434.toList = ([99] : List UInt8)
  ·rw [if_pos c53] at H
   have c53b0 : (t434.toList == ([99] : List UInt8)) = true := beq_iff_eq.mpr c53
   have c53b1 : (t434.toList != ([99] : List UInt8)) = false := bne_eq_false_iff_eq.mpr c53
   clear c53
   replace H := Option.bind_eq_some_iff.mp H
   obtain ⟨⟨t459, t460, t461, t462⟩, A540, H⟩ := H
   replace H : ((script_reader_number.f t460 t461 t462).bind fun bt464 => (script_reader_step.l0 k bt464.1 bt464.2.1 bt464.2.2.1 bt464.2.2.2 1 t459 (⟨#[]⟩ : ByteArray) false ([] : List ByteArray) (⟨#[]⟩ : ByteArray) (⟨#[]⟩ : ByteArray))) = some (r1, r2, r3, r4, r5, r6, r7, r8, r9, r10, r11) := H
   have A54 := Aside0.mk A540
   clear A540
   replace H := Option.bind_eq_some_iff.mp H
   obtain ⟨⟨t464, t465, t466, t467⟩, A550, H⟩ := H
   replace H : (script_reader_step.l0 k t464 t465 t466 t467 1 t459 (⟨#[]⟩ : ByteArray) false ([] : List ByteArray) (⟨#[]⟩ : ByteArray) (⟨#[]⟩ : ByteArray)) = some (r1, r2, r3, r4, r5, r6, r7, r8, r9, r10, r11) := H
   have A55 := Aside0.mk A550
   clear A550
   have H' := Aside0.mk H
   clear H
   go_enter Tryz.func25, Tryz.ntmps25
   go_wp2_with (first | ((with_reducible refine gate_dst (N := 2) rfl ?_); (try (refine gate_guard (by rfl) ?_; dsimp only)); refine box_event ?hg (N := 2) ?hd (cs := #[.int .i64 0, .string (⟨#[]⟩ : ByteArray), .string (⟨#[]⟩ : ByteArray), .bool false, .slice none 0 0, .string (⟨#[]⟩ : ByteArray), .string (⟨#[]⟩ : ByteArray), .slice none 0 0]) (t := 29) ?hr ?_; (case hd => rfl); (case hg => rfl); (case hr => first | (go_simp; done) | (go_simp; rfl)); intro gb433 hg w56 hbox hb; have n0_ := Aside0.mk (IsS71.below q24_ hb); have n1_ := Aside0.mk (KeepBut.trans q6_ (KeepBut.of_below hb g none) (.inl rfl)); have n2_ := Aside0.mk (below_step q26_ hb); have n3_ := Aside0.mk (hbox); have n4_ := Aside0.mk ((q31_ : w.heap.size ≤ gb433)); have n5_ := Aside0.mk ((Nat.le_trans HW0.out (q31_ : w.heap.size ≤ gb433) : w0.heap.size ≤ gb433)); have n6_ := Aside0.mk ((by rw [hg]; exact Nat.ne_of_lt (IsS71.lt (show IsS71 w0 _ g s0_0 s0_1 s0_2 from by repeat (first | (with_reducible first | exact HI0.out | apply IsS71.alloc | apply IsS71.drewN | apply IsS71.drew | apply IsS71.set_0 | apply IsS71.set_1 | apply IsS71.set_2) | exact HI0.out))) : g ≠ gb433)); have n7_ := Aside0.mk ((by rw [hg]; exact Nat.ne_of_gt (IsS71.lt (show IsS71 w0 _ g s0_0 s0_1 s0_2 from by repeat (first | (with_reducible first | exact HI0.out | apply IsS71.alloc | apply IsS71.drewN | apply IsS71.drew | apply IsS71.set_0 | apply IsS71.set_1 | apply IsS71.set_2) | exact HI0.out))) : gb433 ≠ g)); clear HI0; clear HK; clear HB; have HI0 := n0_; have HK := n1_; have HB := n2_; have BK433 := n3_; have GW433 := n4_; have GE433 := n5_; have NB0_433 := n6_; have NB433_0 := n7_; clear n0_ n1_ n2_ n3_ n4_ n5_ n6_ n7_; clear hb hbox hg) | ((with_reducible refine gate_callee (f := 35) rfl ?_); refine goesL_ (some 12) rfl rfl Tryz.func35 (by kernel_rfl) rfl #[.pointer (some ⟨g, 0, none⟩)] rfl q3_ ?_; (with_reducible refine (script_reader_text.calls g s0_0 s0_1 s0_2 t434 t435 t436 t437 w0 _ ?side1 ?side2 A2.out).mono ?_); (case side1 => repeat (first | (with_reducible first | exact HI0.out | apply IsS71.alloc | apply IsS71.drewN | apply IsS71.drew | apply IsS71.set_0 | apply IsS71.set_1 | apply IsS71.set_2 | (apply IsS71.far; rotate_left; exact NB0_433.out; rotate_right)) | exact HI0.out)); (case side2 => repeat (first | (with_reducible first | exact HB.out | apply below_alloc | apply pw_below_drewN | apply below_drew1 | refine below_set ?_ (IsS71.ge HI0.out) | refine below_set ?_ GE433.out) | exact HB.out)); rintro e w57 ⟨rfl, hi, hb, hk⟩; refine ⟨_, rfl, ?_⟩; have n0_ := Aside0.mk (KeepBut.blk hk (g' := gb433) (o := .cells #[.int .i64 0, .string (⟨#[]⟩ : ByteArray), .string (⟨#[]⟩ : ByteArray), .bool false, .slice none 0 0, .string (⟨#[]⟩ : ByteArray), .string (⟨#[]⟩ : ByteArray), .slice none 0 0] 29 (0, 0)) q1_ NB433_0.out (by simp)); have n1_ := Aside0.mk (KeepBut.trans q2_ hk (.inl rfl)); have n2_ := Aside0.mk (hb); have n3_ := Aside0.mk (hi); clear BK433; clear HK; clear HB; clear HI0; have BK433 := n0_; have HK := n1_; have HB := n2_; have HI0 := n3_; clear n0_ n1_ n2_ n3_; (try clear hb); (try clear hb2); (try clear hk); (try clear hi)) | ((with_reducible refine gate_callee (f := 35) rfl ?_); refine goesL_ (some 45) rfl rfl Tryz.func35 (by kernel_rfl) rfl #[.pointer (some ⟨g, 0, none⟩)] rfl q3_ ?_; (with_reducible refine (script_reader_text.calls g t435 t436 t437 t459 t460 t461 t462 w0 _ ?side1 ?side2 A54.out).mono ?_); (case side1 => repeat (first | (with_reducible first | exact HI0.out | apply IsS71.alloc | apply IsS71.drewN | apply IsS71.drew | apply IsS71.set_0 | apply IsS71.set_1 | apply IsS71.set_2 | (apply IsS71.far; rotate_left; exact NB0_433.out; rotate_right)) | exact HI0.out)); (case side2 => repeat (first | (with_reducible first | exact HB.out | apply below_alloc | apply pw_below_drewN | apply below_drew1 | refine below_set ?_ (IsS71.ge HI0.out) | refine below_set ?_ GE433.out) | exact HB.out)); rintro e w58 ⟨rfl, hi, hb, hk⟩; refine ⟨_, rfl, ?_⟩; have n0_ := Aside0.mk (KeepBut.blk hk (g' := gb433) (o := .cells #[.int .i64 0, .string (⟨#[]⟩ : ByteArray), .string (⟨#[]⟩ : ByteArray), .bool false, .slice none 0 0, .string (⟨#[]⟩ : ByteArray), .string (⟨#[]⟩ : ByteArray), .slice none 0 0] 29 (0, 0)) q1_ NB433_0.out (by simp)); have n1_ := Aside0.mk (KeepBut.trans q2_ hk (.inl rfl)); have n2_ := Aside0.mk (hb); have n3_ := Aside0.mk (hi); clear BK433; clear HK; clear HB; clear HI0; have BK433 := n0_; have HK := n1_; have HB := n2_; have HI0 := n3_; clear n0_ n1_ n2_ n3_; (try clear hb); (try clear hb2); (try clear hk); (try clear hi)) | ((with_reducible refine gate_dst (N := 5) rfl ?_); (try (refine gate_guard (by rfl) ?_; dsimp only)); refine box_event ?hg (N := 5) ?hd (cs := #[.int .i64 0, .string (⟨#[]⟩ : ByteArray), .string (⟨#[]⟩ : ByteArray), .bool false, .slice none 0 0, .string (⟨#[]⟩ : ByteArray), .string (⟨#[]⟩ : ByteArray), .slice none 0 0]) (t := 29) ?hr ?_; (case hd => rfl); (case hg => rfl); (case hr => first | (go_simp; done) | (go_simp; rfl)); intro gb463 hg w59 hbox hb; have n0_ := Aside0.mk (IsS71.below q19_ hb); have n1_ := Aside0.mk (blk_below (g := gb433) (o := .cells #[.int .i64 0, .string (⟨#[]⟩ : ByteArray), .string (⟨#[]⟩ : ByteArray), .bool false, .slice none 0 0, .string (⟨#[]⟩ : ByteArray), .string (⟨#[]⟩ : ByteArray), .slice none 0 0] 29 (0, 0)) q1_ hb); have n2_ := Aside0.mk (KeepBut.trans q2_ (KeepBut.of_below hb g none) (.inl rfl)); have n3_ := Aside0.mk (below_step q22_ hb); have n4_ := Aside0.mk (hbox); have n5_ := Aside0.mk ((q34_ : w.heap.size ≤ gb463)); have n6_ := Aside0.mk ((Nat.le_trans HW0.out (q34_ : w.heap.size ≤ gb463) : w0.heap.size ≤ gb463)); have n7_ := Aside0.mk ((q13_ : gb433 ≠ gb463)); have n8_ := Aside0.mk ((q14_ : gb463 ≠ gb433)); have n9_ := Aside0.mk (((by rw [hg]; exact Nat.ne_of_lt (IsS71.lt (show IsS71 w0 _ g t460 t461 t462 from by repeat (first | (with_reducible first | exact HI0.out | apply IsS71.alloc | apply IsS71.drewN | apply IsS71.drew | apply IsS71.set_0 | apply IsS71.set_1 | apply IsS71.set_2 | (apply IsS71.far; rotate_left; exact NB0_433.out; rotate_right)) | exact HI0.out)))) : g ≠ gb463)); have n10_ := Aside0.mk (((by rw [hg]; exact Nat.ne_of_gt (IsS71.lt (show IsS71 w0 _ g t460 t461 t462 from by repeat (first | (with_reducible first | exact HI0.out | apply IsS71.alloc | apply IsS71.drewN | apply IsS71.drew | apply IsS71.set_0 | apply IsS71.set_1 | apply IsS71.set_2 | (apply IsS71.far; rotate_left; exact NB0_433.out; rotate_right)) | exact HI0.out)))) : gb463 ≠ g)); clear HI0; clear BK433; clear HK; clear HB; have HI0 := n0_; have BK433 := n1_; have HK := n2_; have HB := n3_; have BK463 := n4_; have GW463 := n5_; have GE463 := n6_; have NB433_463 := n7_; have NB463_433 := n8_; have NB0_463 := n9_; have NB463_0 := n10_; clear n0_ n1_ n2_ n3_ n4_ n5_ n6_ n7_ n8_ n9_ n10_; clear hb hbox hg; have hnb60 := NB463_433.out; have hnc60 := NB433_463.out; have hnb61 := NB463_0.out; have hnc61 := NB0_463.out; obtain ⟨hcz62_0, hcz62_1, hcz62_2, hcz62_3, hcz62_4, hcz62_5, hcz62_6, hcz62_7, hfz62_0, hfz62_1, hfz62_2, hfz62_3, hfz62_4, hfz62_5, hfz62_6, hfz62_7⟩ := cellsF8 BK463.out) | ((with_reducible refine gate_callee (f := 36) rfl ?_); refine goesL_ (some 48) rfl rfl Tryz.func36 (by kernel_rfl) rfl #[.pointer (some ⟨g, 0, none⟩)] rfl q3_ ?_; (with_reducible refine (script_reader_number.calls g t460 t461 t462 t464 t465 t466 t467 w0 _ ?side1 ?side2 A55.out).mono ?_); (case side1 => repeat (first | (with_reducible first | exact HI0.out | apply IsS71.alloc | apply IsS71.drewN | apply IsS71.drew | apply IsS71.set_0 | apply IsS71.set_1 | apply IsS71.set_2 | (apply IsS71.far; rotate_left; exact NB0_433.out; rotate_right) | (apply IsS71.far; rotate_left; exact NB0_463.out; rotate_right)) | exact HI0.out)); (case side2 => repeat (first | (with_reducible first | exact HB.out | apply below_alloc | apply pw_below_drewN | apply below_drew1 | refine below_set ?_ (IsS71.ge HI0.out) | refine below_set ?_ GE433.out | refine below_set ?_ GE463.out) | exact HB.out)); rintro e w63 ⟨rfl, hi, hb, hk⟩; refine ⟨_, rfl, ?_⟩; have n0_ := Aside0.mk (KeepBut.blk hk (g' := gb433) (o := .cells #[.int .i64 0, .string (⟨#[]⟩ : ByteArray), .string (⟨#[]⟩ : ByteArray), .bool false, .slice none 0 0, .string (⟨#[]⟩ : ByteArray), .string (⟨#[]⟩ : ByteArray), .slice none 0 0] 29 (0, 0)) (by (with_reducible repeat (first | refine blk_drewN ?_ _ | refine blk_drew ?_ | refine blk_alloc ?_ _)); refine blk_far ?_ NB433_463.out _; (with_reducible repeat (first | refine blk_drewN ?_ _ | refine blk_drew ?_ | refine blk_alloc ?_ _)); refine blk_far ?_ NB433_463.out _; (with_reducible repeat (first | refine blk_drewN ?_ _ | refine blk_drew ?_ | refine blk_alloc ?_ _)); refine blk_far ?_ NB433_463.out _; (with_reducible repeat (first | refine blk_drewN ?_ _ | refine blk_drew ?_ | refine blk_alloc ?_ _)); refine blk_far ?_ NB433_463.out _; (with_reducible repeat (first | refine blk_drewN ?_ _ | refine blk_drew ?_ | refine blk_alloc ?_ _)); refine blk_far ?_ NB433_463.out _; (with_reducible repeat (first | refine blk_drewN ?_ _ | refine blk_drew ?_ | refine blk_alloc ?_ _)); refine blk_far ?_ NB433_463.out _; (with_reducible repeat (first | refine blk_drewN ?_ _ | refine blk_drew ?_ | refine blk_alloc ?_ _)); refine blk_far ?_ NB433_463.out _; (with_reducible repeat (first | refine blk_drewN ?_ _ | refine blk_drew ?_ | refine blk_alloc ?_ _)); refine blk_far ?_ NB433_463.out _; (with_reducible repeat (first | refine blk_drewN ?_ _ | refine blk_drew ?_ | refine blk_alloc ?_ _)); exact BK433.out) NB433_0.out (by simp)); have n1_ := Aside0.mk (KeepBut.blk hk (g' := gb463) (o := .cells #[.int .i64 1, .string t459, .string (⟨#[]⟩ : ByteArray), .bool false, .slice none 0 0, .string (⟨#[]⟩ : ByteArray), .string (⟨#[]⟩ : ByteArray), .slice none 0 0] 29 (0, 0)) (by (with_reducible repeat (first | refine blk_drewN ?_ _ | refine blk_drew ?_ | refine blk_alloc ?_ _)); refine blk_put (cs := #[.int .i64 1, .string t459, .string (⟨#[]⟩ : ByteArray), .bool false, .slice none 0 0, .string (⟨#[]⟩ : ByteArray), .string (⟨#[]⟩ : ByteArray), .slice none 0 0]) ?_ 7 _ rfl; (with_reducible repeat (first | refine blk_drewN ?_ _ | refine blk_drew ?_ | refine blk_alloc ?_ _)); refine blk_put (cs := #[.int .i64 1, .string t459, .string (⟨#[]⟩ : ByteArray), .bool false, .slice none 0 0, .string (⟨#[]⟩ : ByteArray), .string (⟨#[]⟩ : ByteArray), .slice none 0 0]) ?_ 6 _ rfl; (with_reducible repeat (first | refine blk_drewN ?_ _ | refine blk_drew ?_ | refine blk_alloc ?_ _)); refine blk_put (cs := #[.int .i64 1, .string t459, .string (⟨#[]⟩ : ByteArray), .bool false, .slice none 0 0, .string (⟨#[]⟩ : ByteArray), .string (⟨#[]⟩ : ByteArray), .slice none 0 0]) ?_ 5 _ rfl; (with_reducible repeat (first | refine blk_drewN ?_ _ | refine blk_drew ?_ | refine blk_alloc ?_ _)); refine blk_put (cs := #[.int .i64 1, .string t459, .string (⟨#[]⟩ : ByteArray), .bool false, .slice none 0 0, .string (⟨#[]⟩ : ByteArray), .string (⟨#[]⟩ : ByteArray), .slice none 0 0]) ?_ 4 _ rfl; (with_reducible repeat (first | refine blk_drewN ?_ _ | refine blk_drew ?_ | refine blk_alloc ?_ _)); refine blk_put (cs := #[.int .i64 1, .string t459, .string (⟨#[]⟩ : ByteArray), .bool false, .slice none 0 0, .string (⟨#[]⟩ : ByteArray), .string (⟨#[]⟩ : ByteArray), .slice none 0 0]) ?_ 3 _ rfl; (with_reducible repeat (first | refine blk_drewN ?_ _ | refine blk_drew ?_ | refine blk_alloc ?_ _)); refine blk_put (cs := #[.int .i64 1, .string t459, .string (⟨#[]⟩ : ByteArray), .bool false, .slice none 0 0, .string (⟨#[]⟩ : ByteArray), .string (⟨#[]⟩ : ByteArray), .slice none 0 0]) ?_ 2 _ rfl; (with_reducible repeat (first | refine blk_drewN ?_ _ | refine blk_drew ?_ | refine blk_alloc ?_ _)); refine blk_put (cs := #[.int .i64 1, .string (⟨#[]⟩ : ByteArray), .string (⟨#[]⟩ : ByteArray), .bool false, .slice none 0 0, .string (⟨#[]⟩ : ByteArray), .string (⟨#[]⟩ : ByteArray), .slice none 0 0]) ?_ 1 _ rfl; (with_reducible repeat (first | refine blk_drewN ?_ _ | refine blk_drew ?_ | refine blk_alloc ?_ _)); refine blk_put (cs := #[.int .i64 0, .string (⟨#[]⟩ : ByteArray), .string (⟨#[]⟩ : ByteArray), .bool false, .slice none 0 0, .string (⟨#[]⟩ : ByteArray), .string (⟨#[]⟩ : ByteArray), .slice none 0 0]) ?_ 0 _ rfl; (with_reducible repeat (first | refine blk_drewN ?_ _ | refine blk_drew ?_ | refine blk_alloc ?_ _)); exact BK463.out) NB463_0.out (by simp)); have n2_ := Aside0.mk (KeepBut.trans q16_ hk (.inl rfl)); have n3_ := Aside0.mk (hb); have n4_ := Aside0.mk (hi); clear BK433; clear BK463; clear HK; clear HB; clear HI0; have BK433 := n0_; have BK463 := n1_; have HK := n2_; have HB := n3_; have HI0 := n4_; clear n0_ n1_ n2_ n3_ n4_; (try clear hb); (try clear hb2); (try clear hk); (try clear hi)))
   go_loopg [6] k (fun kq v6 w' => ∃ (x6_1 : Int) (x1000_1 : ByteArray) (x1001_1 : Int) (x1002_1 : Bool) (x464004_1 : List ByteArray) (u464004 : Value), v6 = .int .i64 x6_1 ∧ Aside0 (script_reader_step.l0 kq x6_1 x1000_1 x1001_1 x1002_1 1 t459 (⟨#[]⟩ : ByteArray) false x464004_1 (⟨#[]⟩ : ByteArray) (⟨#[]⟩ : ByteArray) = some (r1, r2, r3, r4, r5, r6, r7, r8, r9, r10, r11)) ∧ Aside0 (kq ≤ k) ∧ Aside0 (Kd.R Kd.string 9 w' w.heap.size (fun _ => True) u464004 x464004_1) ∧ Aside0 (w'.heap[gb433]? = some (.cells #[.int .i64 0, .string (⟨#[]⟩ : ByteArray), .string (⟨#[]⟩ : ByteArray), .bool false, (.slice none 0 0), .string (⟨#[]⟩ : ByteArray), .string (⟨#[]⟩ : ByteArray), (.slice none 0 0)] 29 (0, 0))) ∧ Aside0 (w'.heap[gb463]? = some (.cells #[.int .i64 1, .string t459, .string (⟨#[]⟩ : ByteArray), .bool false, u464004, .string (⟨#[]⟩ : ByteArray), .string (⟨#[]⟩ : ByteArray), (.slice none 0 0)] 29 (0, 0))) ∧ Aside0 (IsS71 w0 w' g x1000_1 x1001_1 x1002_1) ∧ Aside0 (KeepBut w w' g none) ∧ Aside0 (Below w0.heap.size w0 w'))
   case atStart => exact ⟨(t464), (t465), (t466), (t467), (([] : List ByteArray)), (.slice none 0 0), q45_, H', ⟨Nat.le_refl _⟩, ⟨q11_⟩, ⟨q1_⟩, ⟨q47_⟩, ⟨q18_⟩, ⟨q16_⟩, ⟨q25_⟩⟩
   case round =>
    clear H'
    try clear c1
    try clear c2
    try clear p2
    try clear c3
    try clear c3b0
    try clear c3b1
    try clear c4
    try clear c5
    try clear c6
    try clear c12
    try clear c13
    try clear c20
    try clear c22
    try clear c22b0
    try clear c22b1
    try clear c25
    try clear c28
    try clear c29
    try clear c35
    try clear c36
    try clear c43
    try clear c44
    try clear c51
    try clear c53
    try clear c53b0
    try clear c53b1
    try clear c60
    try clear c61
    try clear hcz14_0
    try clear hcz14_1
    try clear hcz14_2
    try clear hcz14_3
    try clear hcz14_4
    try clear hcz14_5
    try clear hcz14_6
    try clear hcz14_7
    try clear hcz16_0
    try clear hcz16_1
    try clear hcz16_2
    try clear hcz17_0
    try clear hcz17_1
    try clear hcz17_2
    try clear hcz17_3
    try clear hcz17_4
    try clear hcz17_5
    try clear hcz17_6
    try clear hcz17_7
    try clear hcz19_0
    try clear hcz19_1
    try clear hcz19_2
    try clear hcz19_3
    try clear hcz19_4
    try clear hcz19_5
    try clear hcz19_6
    try clear hcz19_7
    try clear hcz21_0
    try clear hcz21_1
    try clear hcz21_2
    try clear hcz21_3
    try clear hcz21_4
    try clear hcz21_5
    try clear hcz21_6
    try clear hcz21_7
    try clear hcz30_0
    try clear hcz30_1
    try clear hcz30_2
    try clear hcz30_3
    try clear hcz30_4
    try clear hcz30_5
    try clear hcz30_6
    try clear hcz30_7
    try clear hcz32_0
    try clear hcz32_1
    try clear hcz32_2
    try clear hcz33_0
    try clear hcz33_1
    try clear hcz33_2
    try clear hcz33_3
    try clear hcz33_4
    try clear hcz33_5
    try clear hcz33_6
    try clear hcz33_7
    try clear hcz35_0
    try clear hcz35_1
    try clear hcz35_2
    try clear hcz35_3
    try clear hcz35_4
    try clear hcz35_5
    try clear hcz35_6
    try clear hcz35_7
    try clear hcz37_0
    try clear hcz37_1
    try clear hcz37_2
    try clear hcz37_3
    try clear hcz37_4
    try clear hcz37_5
    try clear hcz37_6
    try clear hcz37_7
    try clear hcz45_0
    try clear hcz45_1
    try clear hcz45_2
    try clear hcz45_3
    try clear hcz45_4
    try clear hcz45_5
    try clear hcz45_6
    try clear hcz45_7
    try clear hcz47_0
    try clear hcz47_1
    try clear hcz47_2
    try clear hcz48_0
    try clear hcz48_1
    try clear hcz48_2
    try clear hcz48_3
    try clear hcz48_4
    try clear hcz48_5
    try clear hcz48_6
    try clear hcz48_7
    try clear hcz50_0
    try clear hcz50_1
    try clear hcz50_2
    try clear hcz50_3
    try clear hcz50_4
    try clear hcz50_5
    try clear hcz50_6
    try clear hcz50_7
    try clear hcz52_0
    try clear hcz52_1
    try clear hcz52_2
    try clear hcz52_3
    try clear hcz52_4
    try clear hcz52_5
    try clear hcz52_6
    try clear hcz52_7
    try clear hcz62_0
    try clear hcz62_1
    try clear hcz62_2
    try clear hcz62_3
    try clear hcz62_4
    try clear hcz62_5
    try clear hcz62_6
    try clear hcz62_7
    try clear hfz14_0
    try clear hfz14_1
    try clear hfz14_2
    try clear hfz14_3
    try clear hfz14_4
    try clear hfz14_5
    try clear hfz14_6
    try clear hfz14_7
    try clear hfz16_0
    try clear hfz16_1
    try clear hfz16_2
    try clear hfz17_0
    try clear hfz17_1
    try clear hfz17_2
    try clear hfz17_3
    try clear hfz17_4
    try clear hfz17_5
    try clear hfz17_6
    try clear hfz17_7
    try clear hfz19_0
    try clear hfz19_1
    try clear hfz19_2
    try clear hfz19_3
    try clear hfz19_4
    try clear hfz19_5
    try clear hfz19_6
    try clear hfz19_7
    try clear hfz21_0
    try clear hfz21_1
    try clear hfz21_2
    try clear hfz21_3
    try clear hfz21_4
    try clear hfz21_5
    try clear hfz21_6
    try clear hfz21_7
    try clear hfz30_0
    try clear hfz30_1
    try clear hfz30_2
    try clear hfz30_3
    try clear hfz30_4
    try clear hfz30_5
    try clear hfz30_6
    try clear hfz30_7
    try clear hfz32_0
    try clear hfz32_1
    try clear hfz32_2
    try clear hfz33_0
    try clear hfz33_1
    try clear hfz33_2
    try clear hfz33_3
    try clear hfz33_4
    try clear hfz33_5
    try clear hfz33_6
    try clear hfz33_7
    try clear hfz35_0
    try clear hfz35_1
    try clear hfz35_2
    try clear hfz35_3
    try clear hfz35_4
    try clear hfz35_5
    try clear hfz35_6
    try clear hfz35_7
    try clear hfz37_0
    try clear hfz37_1
    try clear hfz37_2
    try clear hfz37_3
    try clear hfz37_4
    try clear hfz37_5
    try clear hfz37_6
    try clear hfz37_7
    try clear hfz45_0
    try clear hfz45_1
    try clear hfz45_2
    try clear hfz45_3
    try clear hfz45_4
    try clear hfz45_5
    try clear hfz45_6
    try clear hfz45_7
    try clear hfz47_0
    try clear hfz47_1
    try clear hfz47_2
    try clear hfz48_0
    try clear hfz48_1
    try clear hfz48_2
    try clear hfz48_3
    try clear hfz48_4
    try clear hfz48_5
    try clear hfz48_6
    try clear hfz48_7
    try clear hfz50_0
    try clear hfz50_1
    try clear hfz50_2
    try clear hfz50_3
    try clear hfz50_4
    try clear hfz50_5
    try clear hfz50_6
    try clear hfz50_7
    try clear hfz52_0
    try clear hfz52_1
    try clear hfz52_2
    try clear hfz52_3
    try clear hfz52_4
    try clear hfz52_5
    try clear hfz52_6
    try clear hfz52_7
    try clear hfz62_0
    try clear hfz62_1
    try clear hfz62_2
    try clear hfz62_3
    try clear hfz62_4
    try clear hfz62_5
    try clear hfz62_6
    try clear hfz62_7
    obtain ⟨x6_1, x1000_1, x1001_1, x1002_1, x464004_1, u464004, rfl, HA, HK1, HO_464004, BK433, BK463, HI0, HK, HB⟩ := hrel
    cases gk with
    | zero => exact absurd HA.out (by simp [script_reader_step.l0])
    | succ k1 =>
     have H := HA.out
     clear HA
     simp only [script_reader_step.l0] at H
     by_cases c64 : x6_1 > 0
     ·rw [if_pos c64] at H
      have c64b0 : decide (0 < x6_1) = true := decide_eq_true c64
      clear c64
      by_cases c65 : x1002_1 = true
      ·subst c65
       have H1 : (some (1, t459, (⟨#[]⟩ : ByteArray), false, x464004_1, (⟨#[]⟩ : ByteArray), (⟨#[]⟩ : ByteArray), ([] : List (S44)), x1000_1, x1001_1, true)) = some (r1, r2, r3, r4, r5, r6, r7, r8, r9, r10, r11) := by rw [if_pos rfl] at H; exact H
       clear H
       have H := H1
       clear H1
       simp only [Option.some.injEq, Prod.mk.injEq] at H
       obtain ⟨rfl, rfl, rfl, rfl, rfl, rfl, rfl, rfl, rfl, rfl, rfl⟩ := H
       obtain ⟨HGz66, hgz66⟩ := HI0.out
       have hcz66_0 := cellS71_0 HGz66
       have hcz66_1 := cellS71_1 HGz66
       have hcz66_2 := cellS71_2 HGz66
       have hfz66_0 := blk_frozen HGz66 0
       have hfz66_1 := blk_frozen HGz66 1
       have hfz66_2 := blk_frozen HGz66 2
       clear HGz66 hgz66
       have hnb67 := NB463_433.out
       have hnc67 := NB433_463.out
       have hnb68 := NB463_0.out
       have hnc68 := NB0_463.out
       obtain ⟨hcz69_0, hcz69_1, hcz69_2, hcz69_3, hcz69_4, hcz69_5, hcz69_6, hcz69_7, hfz69_0, hfz69_1, hfz69_2, hfz69_3, hfz69_4, hfz69_5, hfz69_6, hfz69_7⟩ := cellsF8 BK463.out
       have hnb70 := NB433_0.out
       have hnc70 := NB0_433.out
       obtain ⟨hcz71_0, hcz71_1, hcz71_2, hcz71_3, hcz71_4, hcz71_5, hcz71_6, hcz71_7, hfz71_0, hfz71_1, hfz71_2, hfz71_3, hfz71_4, hfz71_5, hfz71_6, hfz71_7⟩ := cellsF8 BK433.out
       obtain ⟨Ao72, co72, eo72⟩ := Kd.R_slice HO_464004.out
       subst eo72
       go_wp2
       refine bodyPost_ret (results_cell_row rfl _ _ gb433 29 #[.int .i64 1, .string t459, .string (⟨#[]⟩ : ByteArray), .bool false, .slice Ao72 x464004_1.length co72, .string (⟨#[]⟩ : ByteArray), .string (⟨#[]⟩ : ByteArray), .slice none 0 0] (0, 0) _ rfl (by (with_reducible repeat (first | refine blk_drewN ?_ _ | refine blk_drew ?_ | refine blk_alloc ?_ _)); refine blk_put (cs := #[.int .i64 1, .string t459, .string (⟨#[]⟩ : ByteArray), .bool false, .slice Ao72 x464004_1.length co72, .string (⟨#[]⟩ : ByteArray), .string (⟨#[]⟩ : ByteArray), .slice none 0 0]) ?_ 7 _ rfl; (with_reducible repeat (first | refine blk_drewN ?_ _ | refine blk_drew ?_ | refine blk_alloc ?_ _)); refine blk_put (cs := #[.int .i64 1, .string t459, .string (⟨#[]⟩ : ByteArray), .bool false, .slice Ao72 x464004_1.length co72, .string (⟨#[]⟩ : ByteArray), .string (⟨#[]⟩ : ByteArray), .slice none 0 0]) ?_ 6 _ rfl; (with_reducible repeat (first | refine blk_drewN ?_ _ | refine blk_drew ?_ | refine blk_alloc ?_ _)); refine blk_put (cs := #[.int .i64 1, .string t459, .string (⟨#[]⟩ : ByteArray), .bool false, .slice Ao72 x464004_1.length co72, .string (⟨#[]⟩ : ByteArray), .string (⟨#[]⟩ : ByteArray), .slice none 0 0]) ?_ 5 _ rfl; (with_reducible repeat (first | refine blk_drewN ?_ _ | refine blk_drew ?_ | refine blk_alloc ?_ _)); refine blk_put (cs := #[.int .i64 1, .string t459, .string (⟨#[]⟩ : ByteArray), .bool false, .slice none 0 0, .string (⟨#[]⟩ : ByteArray), .string (⟨#[]⟩ : ByteArray), .slice none 0 0]) ?_ 4 _ rfl; (with_reducible repeat (first | refine blk_drewN ?_ _ | refine blk_drew ?_ | refine blk_alloc ?_ _)); refine blk_put (cs := #[.int .i64 1, .string t459, .string (⟨#[]⟩ : ByteArray), .bool false, .slice none 0 0, .string (⟨#[]⟩ : ByteArray), .string (⟨#[]⟩ : ByteArray), .slice none 0 0]) ?_ 3 _ rfl; (with_reducible repeat (first | refine blk_drewN ?_ _ | refine blk_drew ?_ | refine blk_alloc ?_ _)); refine blk_put (cs := #[.int .i64 1, .string t459, .string (⟨#[]⟩ : ByteArray), .bool false, .slice none 0 0, .string (⟨#[]⟩ : ByteArray), .string (⟨#[]⟩ : ByteArray), .slice none 0 0]) ?_ 2 _ rfl; (with_reducible repeat (first | refine blk_drewN ?_ _ | refine blk_drew ?_ | refine blk_alloc ?_ _)); refine blk_put (cs := #[.int .i64 1, .string (⟨#[]⟩ : ByteArray), .string (⟨#[]⟩ : ByteArray), .bool false, .slice none 0 0, .string (⟨#[]⟩ : ByteArray), .string (⟨#[]⟩ : ByteArray), .slice none 0 0]) ?_ 1 _ rfl; (with_reducible repeat (first | refine blk_drewN ?_ _ | refine blk_drew ?_ | refine blk_alloc ?_ _)); refine blk_put (cs := #[.int .i64 0, .string (⟨#[]⟩ : ByteArray), .string (⟨#[]⟩ : ByteArray), .bool false, .slice none 0 0, .string (⟨#[]⟩ : ByteArray), .string (⟨#[]⟩ : ByteArray), .slice none 0 0]) ?_ 0 _ rfl; (with_reducible repeat (first | refine blk_drewN ?_ _ | refine blk_drew ?_ | refine blk_alloc ?_ _)); exact BK433.out) Tryz.underlying29 rfl (by kernel_rfl)) rfl ?_
       exact ⟨_, _, q33_, (by (with_reducible repeat (first | apply Kd.R_alloc | apply Kd.R_drewN | apply Kd.R_drew)); exact Kd.R_mono (Kd.R_far (p := ⟨gb433, 7, none⟩) (Kd.R_far (p := ⟨gb433, 6, none⟩) (Kd.R_far (p := ⟨gb433, 5, none⟩) (Kd.R_far (p := ⟨gb433, 4, none⟩) (Kd.R_far (p := ⟨gb433, 3, none⟩) (Kd.R_far (p := ⟨gb433, 2, none⟩) (Kd.R_far (p := ⟨gb433, 1, none⟩) (Kd.R_far (p := ⟨gb433, 0, none⟩) (Kd.R_types HO_464004.out BK433.out (by decide)) (fun _ hk => hk.2) (.int .i64 1)) (fun _ hk => hk.2) (.string t459)) (fun _ hk => hk.2) (.string (⟨#[]⟩ : ByteArray))) (fun _ hk => hk.2) (.bool false)) (fun _ hk => hk.2) (.slice Ao72 x464004_1.length co72)) (fun _ hk => hk.2) (.string (⟨#[]⟩ : ByteArray))) (fun _ hk => hk.2) (.string (⟨#[]⟩ : ByteArray))) (fun _ hk => hk.2) (.slice none 0 0)) (fun _ hk => trivial)), q11_, q18_, q25_, q16_⟩
      ·replace c65 := Bool.eq_false_iff.mpr c65
       subst c65
       have H1 : ((script_reader_text.f x1000_1 x1001_1 false).bind fun bt468 => (if x464004_1.length < 8796093022208 then (script_reader_step.l0 k1 (wrap64 (x6_1 - 1)) bt468.2.1 bt468.2.2.1 bt468.2.2.2 1 t459 (⟨#[]⟩ : ByteArray) false (x464004_1 ++ [bt468.1]) (⟨#[]⟩ : ByteArray) (⟨#[]⟩ : ByteArray)) else (none))) = some (r1, r2, r3, r4, r5, r6, r7, r8, r9, r10, r11) := by rw [if_neg (show ¬ (false = true) by decide)] at H; exact H
       clear H
       have H := H1
       clear H1
       replace H := Option.bind_eq_some_iff.mp H
       obtain ⟨⟨t468, t469, t470, t471⟩, A730, H⟩ := H
       replace H : (if x464004_1.length < 8796093022208 then (script_reader_step.l0 k1 (wrap64 (x6_1 - 1)) t469 t470 t471 1 t459 (⟨#[]⟩ : ByteArray) false (x464004_1 ++ [t468]) (⟨#[]⟩ : ByteArray) (⟨#[]⟩ : ByteArray)) else (none)) = some (r1, r2, r3, r4, r5, r6, r7, r8, r9, r10, r11) := H
       have A73 := Aside0.mk A730
       clear A730
       by_cases c74 : x464004_1.length < 8796093022208
       ·rw [if_pos c74] at H
        have LMc74 := Aside0.mk c74
        clear c74
        obtain ⟨y472, hy472⟩ : ∃ y_ : List ByteArray, y_ = (x464004_1 ++ [t468]) := ⟨_, rfl⟩
        replace H : (script_reader_step.l0 k1 (wrap64 (x6_1 - 1)) t469 t470 t471 1 t459 (⟨#[]⟩ : ByteArray) false y472 (⟨#[]⟩ : ByteArray) (⟨#[]⟩ : ByteArray)) = some (r1, r2, r3, r4, r5, r6, r7, r8, r9, r10, r11) := by first | (rw [hy472]; with_reducible exact H) | (have H2_ := (Option.bind_some _ _).symm.trans H; rw [hy472]; with_reducible exact H2_) | (have H2_ := (Option.bind_some _ _).symm.trans H; with_reducible exact H2_) | with_reducible exact H | (rw [hy472]; exact H) | exact H
        have Ny472 := Aside0.mk hy472
        clear hy472
        have H' := Aside0.mk H
        clear H
        obtain ⟨HGz75, hgz75⟩ := HI0.out
        have hcz75_0 := cellS71_0 HGz75
        have hcz75_1 := cellS71_1 HGz75
        have hcz75_2 := cellS71_2 HGz75
        have hfz75_0 := blk_frozen HGz75 0
        have hfz75_1 := blk_frozen HGz75 1
        have hfz75_2 := blk_frozen HGz75 2
        clear HGz75 hgz75
        try go_wp2
        have n0_ := Aside0.mk (Kd.R_drew HO_464004.out)
        have n1_ := Aside0.mk (blk_drew BK433.out)
        have n2_ := Aside0.mk (blk_drew BK463.out)
        have n3_ := Aside0.mk (IsS71.drew HI0.out)
        have n4_ := Aside0.mk (keep_drew HK.out)
        have n5_ := Aside0.mk (below_drew1 HB.out)
        clear HO_464004
        clear BK433
        clear BK463
        clear HI0
        clear HK
        clear HB
        have HO_464004 := n0_
        have BK433 := n1_
        have BK463 := n2_
        have HI0 := n3_
        have HK := n4_
        have HB := n5_
        clear n0_ n1_ n2_ n3_ n4_ n5_
        refine start_ (n := 8) (S := fun w' => w'.cell? ⟨gb463, 0, none⟩ = some (.int .i64 1) ∧ w'.cell? ⟨gb463, 1, none⟩ = some (.string t459) ∧ w'.cell? ⟨gb463, 2, none⟩ = some (.string (⟨#[]⟩ : ByteArray)) ∧ w'.cell? ⟨gb463, 3, none⟩ = some (.bool false) ∧ w'.cell? ⟨gb463, 4, none⟩ = some (u464004) ∧ w'.cell? ⟨gb463, 5, none⟩ = some (.string (⟨#[]⟩ : ByteArray)) ∧ w'.cell? ⟨gb463, 6, none⟩ = some (.string (⟨#[]⟩ : ByteArray)) ∧ w'.cell? ⟨gb463, 7, none⟩ = some (.slice none 0 0)) (ds := [7]) #[false, false, false, false, false, false, false, false] (by kernel_rfl) rfl rfl ⟨(blk_cell BK463.out 0).trans rfl, (blk_cell BK463.out 1).trans rfl, (blk_cell BK463.out 2).trans rfl, (blk_cell BK463.out 3).trans rfl, (blk_cell BK463.out 4).trans rfl, (blk_cell BK463.out 5).trans rfl, (blk_cell BK463.out 6).trans rfl, (blk_cell BK463.out 7).trans rfl⟩ (fun hHeld => ?_); refine with_tabW script_reader_step.tab13 script_reader_step.bits13 (fun HT_ HW_ => ?_)
        generalize wr.drew = w76 at HO_464004 BK433 BK463 HI0 HK HB hHeld ⊢
        refine pure_ (i := 0) (N := some 60) (v := ?_) (a' := ?_) #[true, false, false, false, false, false, false, false] rfl rfl (any_of HT_.out (by kernel_rfl)) (fun _ _ _ h => h) (Or.inl ⟨(by rfl), ?_⟩) ?_ ?_
        rotate_left
        ·intro w'
         go_simp
         with_reducible rfl
        rotate_left
        ·simp only [Act.put, List.setIfInBounds_toArray, List.set_cons_zero, List.set_cons_succ, i64_w, i32_w]
         rfl
        refine pure_ (i := 2) (N := some 62) (v := ?_) (a' := ?_) #[true, false, true, false, false, false, false, false] rfl rfl (any_of HT_.out (by kernel_rfl)) (fun _ _ _ h => h) (Or.inl ⟨(by rfl), ?_⟩) ?_ ?_
        rotate_left
        ·intro w'
         go_simp
         with_reducible rfl
        rotate_left
        ·simp only [Act.put, List.setIfInBounds_toArray, List.set_cons_zero, List.set_cons_succ, i64_w, i32_w]
         rfl
        refine take_ (i := 1) (N := some 61) (v := ?_) (a' := ?_) #[true, true, true, false, false, false, false, false] rfl rfl (take_ofW HT_.out HW_.out (by kernel_rfl)) (fun _ _ _ h => h) (Or.inl ⟨(by rfl), ?_⟩) hHeld ?_ ?_
        rotate_left
        ·rintro w' ⟨s0, s1, s2, s3, s4, s5, s6, s7⟩
         go_simp
         with_reducible rfl
        rotate_left
        ·simp only [Act.put, List.setIfInBounds_toArray, List.set_cons_zero, List.set_cons_succ, i64_w, i32_w]
         rfl
        refine one_ (i := 3) (N := some 63) #[true, true, true, true, false, false, false, false] rfl rfl (one_of HT_.out (by kernel_rfl)) (by decide) (fun K hK => ?_)
        refine goes_ Tryz.func35 (by kernel_rfl) rfl #[.pointer (some ⟨g, 0, none⟩)] (by rfl) rfl rfl q3_ ?_
        with_reducible refine (script_reader_text.calls g x1000_1 x1001_1 false t468 t469 t470 t471 w0 _ ?side1 ?side2 A73.out).mono ?_
        (case side1 => repeat (first | (with_reducible first | exact HI0.out | apply IsS71.alloc | apply IsS71.drewN | apply IsS71.drew | apply IsS71.set_0 | apply IsS71.set_1 | apply IsS71.set_2 | (apply IsS71.far; rotate_left; exact NB0_433.out; rotate_right) | (apply IsS71.far; rotate_left; exact NB0_463.out; rotate_right)) | exact HI0.out))
        (case side2 => repeat (first | (with_reducible first | exact HB.out | apply below_alloc | apply pw_below_drewN | apply below_drew1 | refine below_set ?_ (IsS71.ge HI0.out) | refine below_set ?_ GE433.out | refine below_set ?_ GE463.out) | exact HB.out))
        rintro e w77 ⟨rfl, hi, hb, hk⟩
        refine ⟨_, rfl, ?_⟩
        have n0_ := Aside0.mk (Kd.R_mono (Kd.R_keep (IsS71.apart (show IsS71 w0 _ g x1000_1 x1001_1 false from by repeat (first | (with_reducible first | exact HI0.out | apply IsS71.alloc | apply IsS71.drewN | apply IsS71.drew | apply IsS71.set_0 | apply IsS71.set_1 | apply IsS71.set_2 | (apply IsS71.far; rotate_left; exact NB0_433.out; rotate_right) | (apply IsS71.far; rotate_left; exact NB0_463.out; rotate_right)) | exact HI0.out)) (by (with_reducible repeat (first | apply Kd.R_alloc | apply Kd.R_drewN | apply Kd.R_drew)); exact HO_464004.out) (by decide)) hk (fun _ h => h.2)) (fun _ h => h.1))
        have n1_ := Aside0.mk (KeepBut.blk hk (g' := gb433) (o := .cells #[.int .i64 0, .string (⟨#[]⟩ : ByteArray), .string (⟨#[]⟩ : ByteArray), .bool false, .slice none 0 0, .string (⟨#[]⟩ : ByteArray), .string (⟨#[]⟩ : ByteArray), .slice none 0 0] 29 (0, 0)) q1_ NB433_0.out (by simp))
        have n2_ := Aside0.mk (KeepBut.blk hk (g' := gb463) (o := .cells #[.int .i64 1, .string t459, .string (⟨#[]⟩ : ByteArray), .bool false, u464004, .string (⟨#[]⟩ : ByteArray), .string (⟨#[]⟩ : ByteArray), .slice none 0 0] 29 (0, 0)) q47_ NB463_0.out (by simp))
        have n3_ := Aside0.mk (KeepBut.trans q16_ hk (.inl rfl))
        have n4_ := Aside0.mk (hb)
        have n5_ := Aside0.mk (hi)
        clear HO_464004
        clear BK433
        clear BK463
        clear HK
        clear HB
        clear HI0
        have HO_464004 := n0_
        have BK433 := n1_
        have BK463 := n2_
        have HK := n3_
        have HB := n4_
        have HI0 := n5_
        clear n0_ n1_ n2_ n3_ n4_ n5_
        (try clear hb)
        (try clear hb2)
        (try clear hk)
        (try clear hi)
        refine hK.out _ _ ⟨(blk_cell BK463.out 0).trans rfl, (blk_cell BK463.out 1).trans rfl, (blk_cell BK463.out 2).trans rfl, (blk_cell BK463.out 3).trans rfl, (blk_cell BK463.out 4).trans rfl, (blk_cell BK463.out 5).trans rfl, (blk_cell BK463.out 6).trans rfl, (blk_cell BK463.out 7).trans rfl⟩ (fun hHeld => ?_)
        clear hK K
        refine norm_ (a' := ?_) ?_ ?_
        rotate_left
        ·show Act.put _ (some 63) _ = _
         simp only [Act.put, List.setIfInBounds_toArray, List.set_cons_zero, List.set_cons_succ, i64_w, i32_w]
         rfl
        refine one_ (i := 4) (N := some 64) #[true, true, true, true, true, false, false, false] rfl rfl (one_of HT_.out (by kernel_rfl)) (by decide) (fun K hK => ?_)
        refine value_ (w1 := ?_) (v := ?_) (by rfl) rfl ?_ ?_
        rotate_left 2
        ·go_simp
         constructor
         ·rfl
         ·rfl
        refine hK.out _ _ ⟨(blk_cell (blk_alloc BK463.out _) 0).trans rfl, (blk_cell (blk_alloc BK463.out _) 1).trans rfl, (blk_cell (blk_alloc BK463.out _) 2).trans rfl, (blk_cell (blk_alloc BK463.out _) 3).trans rfl, (blk_cell (blk_alloc BK463.out _) 4).trans rfl, (blk_cell (blk_alloc BK463.out _) 5).trans rfl, (blk_cell (blk_alloc BK463.out _) 6).trans rfl, (blk_cell (blk_alloc BK463.out _) 7).trans rfl⟩ (fun hHeld => ?_)
        clear hK K
        refine norm_ (a' := ?_) ?_ ?_
        rotate_left
        ·show Act.put _ (some 64) _ = _
         simp only [Act.put, List.setIfInBounds_toArray, List.set_cons_zero, List.set_cons_succ, i64_w, i32_w]
         rfl
        refine one_ (i := 5) (N := some 65) #[true, true, true, true, true, true, false, false] rfl rfl (one_of HT_.out (by kernel_rfl)) (by decide) (fun K hK => ?_)
        refine Kd.R_append_step Kd.string w.heap.size (by rfl) (.tmp 61) (.tmp 64) 26 9 (.string ⟨#[]⟩) 16 rfl Tryz.underlying26 info9 rfl (by decide) (by omega) u464004 x464004_1 t468 [.string t468] (fun _ => True) (fun _ => False) rfl rfl ?aP (fun _ hk => hk.elim) ?aF ?aO (Below.refl _ _) ?aS ?aL ?_
        (case aP => exact rfl)
        (case aF => exact (fun _ _ => trivial))
        (case aO => exact (by (with_reducible repeat (first | apply Kd.R_alloc | apply Kd.R_drewN | apply Kd.R_drew)); exact HO_464004.out))
        (case aS => exact (keep_size (w := w) (g := g) (row := none) q16_))
        (case aL => have := LMc74.out; omega)
        intro v473 w78 ho hb hg hat
        rw [← Ny472.out] at ho
        have n0_ := Aside0.mk (blk_grown (g := gb433) (o := .cells #[.int .i64 0, .string (⟨#[]⟩ : ByteArray), .string (⟨#[]⟩ : ByteArray), .bool false, .slice none 0 0, .string (⟨#[]⟩ : ByteArray), .string (⟨#[]⟩ : ByteArray), .slice none 0 0] 29 (0, 0)) q1_ hg (Kd.R_ne HO_464004.out BK433.out (by decide)))
        have n1_ := Aside0.mk (blk_grown (g := gb463) (o := .cells #[.int .i64 1, .string t459, .string (⟨#[]⟩ : ByteArray), .bool false, u464004, .string (⟨#[]⟩ : ByteArray), .string (⟨#[]⟩ : ByteArray), .slice none 0 0] 29 (0, 0)) q47_ hg (Kd.R_ne HO_464004.out BK463.out (by decide)))
        have n2_ := Aside0.mk (IsS71.grown q18_ hg (IsS71.own_ne HI0.out HO_464004.out (by decide)))
        have n3_ := Aside0.mk (below_weaken q25_ HL.out hb)
        have n4_ := Aside0.mk (KeepBut.trans q16_ (KeepBut.of_grown hg g) (Kd.R_base2 HO_464004.out))
        have n5_ := Aside0.mk (ho)
        clear BK433
        clear BK463
        clear HI0
        clear HB
        clear HK
        clear HO_464004
        have BK433 := n0_
        have BK463 := n1_
        have HI0 := n2_
        have HB := n3_
        have HK := n4_
        have HO474 := n5_
        clear n0_ n1_ n2_ n3_ n4_ n5_
        clear ho hb hg hat
        obtain ⟨Ao79, co79, eo79⟩ := Kd.R_slice HO474.out
        (first | subst eo79 | (injection eo79 with f1_ f2_ f3_; have f4_ := f1_.symm; have f5_ := f3_.symm; clear f1_ f2_ f3_; subst f4_; subst f5_))
        refine hK.out _ _ ⟨(blk_cell BK463.out 0).trans rfl, (blk_cell BK463.out 1).trans rfl, (blk_cell BK463.out 2).trans rfl, (blk_cell BK463.out 3).trans rfl, (blk_cell BK463.out 4).trans rfl, (blk_cell BK463.out 5).trans rfl, (blk_cell BK463.out 6).trans rfl, (blk_cell BK463.out 7).trans rfl⟩ (fun hHeld => ?_)
        clear hK K
        refine norm_ (a' := ?_) ?_ ?_
        rotate_left
        ·show Act.put _ (some 65) _ = _
         simp only [Act.put, List.setIfInBounds_toArray, List.set_cons_zero, List.set_cons_succ, i64_w, i32_w]
         rfl
        refine pure_ (i := 6) (N := some 66) (v := ?_) (a' := ?_) #[true, true, true, true, true, true, true, false] rfl rfl (any_of HT_.out (by kernel_rfl)) (fun _ _ _ h => h) (Or.inl ⟨(by rfl), ?_⟩) ?_ ?_
        rotate_left
        ·intro w'
         go_simp
         with_reducible rfl
        rotate_left
        ·simp only [Act.put, List.setIfInBounds_toArray, List.set_cons_zero, List.set_cons_succ, i64_w, i32_w]
         rfl
        refine last_ (i := 7) (N := none) #[true, true, true, true, true, true, true, true] rfl rfl (one_of HT_.out (by kernel_rfl)) (by decide) (fun K hK => ?_)
        have hs80 : w78.cell? ⟨gb463, 4, none⟩ = some (u464004) := (blk_cell BK463.out 4).trans rfl
        have hfs80 := blk_frozen BK463.out 4
        have hns80_0 := NB433_463.out
        have hms80_0 := NB463_433.out
        refine skip_ (w1 := ?_) (by rfl) rfl ?_ ?_
        rotate_left
        ·go_simp
         rfl
        refine hK.out _ _ ?_
        clear hK K
        refine done_ (done_of HT_.out (by kernel_rfl)) ?_
        try go_wp2
        go_roundg k1
        case measure => have := HK1.out; omega
        case rel => exact ⟨(wrap64 (x6_1 - 1)), (t469), (t470), (t471), (y472), (.slice Ao79 y472.length co79), q45_, H', ⟨(by have := HK1.out; omega)⟩, ⟨(by (with_reducible repeat (first | apply Kd.R_alloc | apply Kd.R_drewN | apply Kd.R_drew)); exact Kd.R_mono (Kd.R_far (p := ⟨gb463, 4, none⟩) (Kd.R_types HO474.out BK463.out (by decide)) (fun _ hk => hk.2) (.slice Ao79 y472.length co79)) (fun _ hk => trivial))⟩, ⟨(by (with_reducible repeat (first | refine blk_drewN ?_ _ | refine blk_drew ?_ | refine blk_alloc ?_ _)); refine blk_far ?_ NB433_463.out _; (with_reducible repeat (first | refine blk_drewN ?_ _ | refine blk_drew ?_ | refine blk_alloc ?_ _)); exact BK433.out)⟩, ⟨(by (with_reducible repeat (first | refine blk_drewN ?_ _ | refine blk_drew ?_ | refine blk_alloc ?_ _)); refine blk_put (cs := #[.int .i64 1, .string t459, .string (⟨#[]⟩ : ByteArray), .bool false, u464004, .string (⟨#[]⟩ : ByteArray), .string (⟨#[]⟩ : ByteArray), .slice none 0 0]) ?_ 4 _ rfl; (with_reducible repeat (first | refine blk_drewN ?_ _ | refine blk_drew ?_ | refine blk_alloc ?_ _)); exact BK463.out)⟩, ⟨q18_⟩, ⟨q16_⟩, ⟨q25_⟩⟩
       ·rw [if_neg c74] at H
        exact absurd H (by simp)
     ·rw [if_neg c64] at H
      have c64b0 : decide (0 < x6_1) = false := decide_eq_false c64
      clear c64
      simp only [Option.some.injEq, Prod.mk.injEq] at H
      obtain ⟨rfl, rfl, rfl, rfl, rfl, rfl, rfl, rfl, rfl, rfl, rfl⟩ := H
      have hnb81 := NB463_433.out
      have hnc81 := NB433_463.out
      have hnb82 := NB463_0.out
      have hnc82 := NB0_463.out
      obtain ⟨hcz83_0, hcz83_1, hcz83_2, hcz83_3, hcz83_4, hcz83_5, hcz83_6, hcz83_7, hfz83_0, hfz83_1, hfz83_2, hfz83_3, hfz83_4, hfz83_5, hfz83_6, hfz83_7⟩ := cellsF8 BK463.out
      have hnb84 := NB433_0.out
      have hnc84 := NB0_433.out
      obtain ⟨hcz85_0, hcz85_1, hcz85_2, hcz85_3, hcz85_4, hcz85_5, hcz85_6, hcz85_7, hfz85_0, hfz85_1, hfz85_2, hfz85_3, hfz85_4, hfz85_5, hfz85_6, hfz85_7⟩ := cellsF8 BK433.out
      obtain ⟨Ao86, co86, eo86⟩ := Kd.R_slice HO_464004.out
      subst eo86
      go_wp2
      refine bodyPost_ret (results_cell_row rfl _ _ gb433 29 #[.int .i64 1, .string t459, .string (⟨#[]⟩ : ByteArray), .bool false, .slice Ao86 x464004_1.length co86, .string (⟨#[]⟩ : ByteArray), .string (⟨#[]⟩ : ByteArray), .slice none 0 0] (0, 0) _ rfl (by (with_reducible repeat (first | refine blk_drewN ?_ _ | refine blk_drew ?_ | refine blk_alloc ?_ _)); refine blk_put (cs := #[.int .i64 1, .string t459, .string (⟨#[]⟩ : ByteArray), .bool false, .slice Ao86 x464004_1.length co86, .string (⟨#[]⟩ : ByteArray), .string (⟨#[]⟩ : ByteArray), .slice none 0 0]) ?_ 7 _ rfl; (with_reducible repeat (first | refine blk_drewN ?_ _ | refine blk_drew ?_ | refine blk_alloc ?_ _)); refine blk_put (cs := #[.int .i64 1, .string t459, .string (⟨#[]⟩ : ByteArray), .bool false, .slice Ao86 x464004_1.length co86, .string (⟨#[]⟩ : ByteArray), .string (⟨#[]⟩ : ByteArray), .slice none 0 0]) ?_ 6 _ rfl; (with_reducible repeat (first | refine blk_drewN ?_ _ | refine blk_drew ?_ | refine blk_alloc ?_ _)); refine blk_put (cs := #[.int .i64 1, .string t459, .string (⟨#[]⟩ : ByteArray), .bool false, .slice Ao86 x464004_1.length co86, .string (⟨#[]⟩ : ByteArray), .string (⟨#[]⟩ : ByteArray), .slice none 0 0]) ?_ 5 _ rfl; (with_reducible repeat (first | refine blk_drewN ?_ _ | refine blk_drew ?_ | refine blk_alloc ?_ _)); refine blk_put (cs := #[.int .i64 1, .string t459, .string (⟨#[]⟩ : ByteArray), .bool false, .slice none 0 0, .string (⟨#[]⟩ : ByteArray), .string (⟨#[]⟩ : ByteArray), .slice none 0 0]) ?_ 4 _ rfl; (with_reducible repeat (first | refine blk_drewN ?_ _ | refine blk_drew ?_ | refine blk_alloc ?_ _)); refine blk_put (cs := #[.int .i64 1, .string t459, .string (⟨#[]⟩ : ByteArray), .bool false, .slice none 0 0, .string (⟨#[]⟩ : ByteArray), .string (⟨#[]⟩ : ByteArray), .slice none 0 0]) ?_ 3 _ rfl; (with_reducible repeat (first | refine blk_drewN ?_ _ | refine blk_drew ?_ | refine blk_alloc ?_ _)); refine blk_put (cs := #[.int .i64 1, .string t459, .string (⟨#[]⟩ : ByteArray), .bool false, .slice none 0 0, .string (⟨#[]⟩ : ByteArray), .string (⟨#[]⟩ : ByteArray), .slice none 0 0]) ?_ 2 _ rfl; (with_reducible repeat (first | refine blk_drewN ?_ _ | refine blk_drew ?_ | refine blk_alloc ?_ _)); refine blk_put (cs := #[.int .i64 1, .string (⟨#[]⟩ : ByteArray), .string (⟨#[]⟩ : ByteArray), .bool false, .slice none 0 0, .string (⟨#[]⟩ : ByteArray), .string (⟨#[]⟩ : ByteArray), .slice none 0 0]) ?_ 1 _ rfl; (with_reducible repeat (first | refine blk_drewN ?_ _ | refine blk_drew ?_ | refine blk_alloc ?_ _)); refine blk_put (cs := #[.int .i64 0, .string (⟨#[]⟩ : ByteArray), .string (⟨#[]⟩ : ByteArray), .bool false, .slice none 0 0, .string (⟨#[]⟩ : ByteArray), .string (⟨#[]⟩ : ByteArray), .slice none 0 0]) ?_ 0 _ rfl; (with_reducible repeat (first | refine blk_drewN ?_ _ | refine blk_drew ?_ | refine blk_alloc ?_ _)); exact BK433.out) Tryz.underlying29 rfl (by kernel_rfl)) rfl ?_
      exact ⟨_, _, q33_, (by (with_reducible repeat (first | apply Kd.R_alloc | apply Kd.R_drewN | apply Kd.R_drew)); exact Kd.R_mono (Kd.R_far (p := ⟨gb433, 7, none⟩) (Kd.R_far (p := ⟨gb433, 6, none⟩) (Kd.R_far (p := ⟨gb433, 5, none⟩) (Kd.R_far (p := ⟨gb433, 4, none⟩) (Kd.R_far (p := ⟨gb433, 3, none⟩) (Kd.R_far (p := ⟨gb433, 2, none⟩) (Kd.R_far (p := ⟨gb433, 1, none⟩) (Kd.R_far (p := ⟨gb433, 0, none⟩) (Kd.R_types HO_464004.out BK433.out (by decide)) (fun _ hk => hk.2) (.int .i64 1)) (fun _ hk => hk.2) (.string t459)) (fun _ hk => hk.2) (.string (⟨#[]⟩ : ByteArray))) (fun _ hk => hk.2) (.bool false)) (fun _ hk => hk.2) (.slice Ao86 x464004_1.length co86)) (fun _ hk => hk.2) (.string (⟨#[]⟩ : ByteArray))) (fun _ hk => hk.2) (.string (⟨#[]⟩ : ByteArray))) (fun _ hk => hk.2) (.slice none 0 0)) (fun _ hk => trivial)), q11_, q18_, q25_, q16_⟩
  ·rw [if_neg c53] at H
   have c53b0 : (t434.toList == ([99] : List UInt8)) = false := beq_eq_false_iff_ne.mpr c53
   have c53b1 : (t434.toList != ([99] : List UInt8)) = true := bne_iff_ne.mpr c53
   by_cases c87 : t434.toList = ([113] : List UInt8)
   ·rw [if_pos c87] at H
    have c87b0 : (t434.toList == ([113] : List UInt8)) = true := beq_iff_eq.mpr c87
    have c87b1 : (t434.toList != ([113] : List UInt8)) = false := bne_eq_false_iff_eq.mpr c87
    clear c87
    replace H := Option.bind_eq_some_iff.mp H
    obtain ⟨⟨t475, t476, t477, t478⟩, A880, H⟩ := H
    replace H : ((script_reader_text.f t476 t477 t478).bind fun bt479 => ((script_reader_number.f bt479.2.1 bt479.2.2.1 bt479.2.2.2).bind fun bt484 => (script_reader_step.l1 k bt484.1 bt484.2.1 bt484.2.2.1 bt484.2.2.2 2 (⟨#[]⟩ : ByteArray) (⟨#[]⟩ : ByteArray) false t475 bt479.1 ([] : List (S44))))) = some (r1, r2, r3, r4, r5, r6, r7, r8, r9, r10, r11) := H
    have A88 := Aside0.mk A880
    clear A880
    replace H := Option.bind_eq_some_iff.mp H
    obtain ⟨⟨t479, t480, t481, t482⟩, A890, H⟩ := H
    replace H : ((script_reader_number.f t480 t481 t482).bind fun bt484 => (script_reader_step.l1 k bt484.1 bt484.2.1 bt484.2.2.1 bt484.2.2.2 2 (⟨#[]⟩ : ByteArray) (⟨#[]⟩ : ByteArray) false t475 t479 ([] : List (S44)))) = some (r1, r2, r3, r4, r5, r6, r7, r8, r9, r10, r11) := H
    have A89 := Aside0.mk A890
    clear A890
    replace H := Option.bind_eq_some_iff.mp H
    obtain ⟨⟨t484, t485, t486, t487⟩, A900, H⟩ := H
    replace H : (script_reader_step.l1 k t484 t485 t486 t487 2 (⟨#[]⟩ : ByteArray) (⟨#[]⟩ : ByteArray) false t475 t479 ([] : List (S44))) = some (r1, r2, r3, r4, r5, r6, r7, r8, r9, r10, r11) := H
    have A90 := Aside0.mk A900
    clear A900
    have H' := Aside0.mk H
    clear H
    go_enter Tryz.func25, Tryz.ntmps25
    go_wp2_with (first | ((with_reducible refine gate_dst (N := 2) rfl ?_); (try (refine gate_guard (by rfl) ?_; dsimp only)); refine box_event ?hg (N := 2) ?hd (cs := #[.int .i64 0, .string (⟨#[]⟩ : ByteArray), .string (⟨#[]⟩ : ByteArray), .bool false, .slice none 0 0, .string (⟨#[]⟩ : ByteArray), .string (⟨#[]⟩ : ByteArray), .slice none 0 0]) (t := 29) ?hr ?_; (case hd => rfl); (case hg => rfl); (case hr => first | (go_simp; done) | (go_simp; rfl)); intro gb433 hg w91 hbox hb; have n0_ := Aside0.mk (IsS71.below q24_ hb); have n1_ := Aside0.mk (KeepBut.trans q6_ (KeepBut.of_below hb g none) (.inl rfl)); have n2_ := Aside0.mk (below_step q26_ hb); have n3_ := Aside0.mk (hbox); have n4_ := Aside0.mk ((q31_ : w.heap.size ≤ gb433)); have n5_ := Aside0.mk ((Nat.le_trans HW0.out (q31_ : w.heap.size ≤ gb433) : w0.heap.size ≤ gb433)); have n6_ := Aside0.mk ((by rw [hg]; exact Nat.ne_of_lt (IsS71.lt (show IsS71 w0 _ g s0_0 s0_1 s0_2 from by repeat (first | (with_reducible first | exact HI0.out | apply IsS71.alloc | apply IsS71.drewN | apply IsS71.drew | apply IsS71.set_0 | apply IsS71.set_1 | apply IsS71.set_2) | exact HI0.out))) : g ≠ gb433)); have n7_ := Aside0.mk ((by rw [hg]; exact Nat.ne_of_gt (IsS71.lt (show IsS71 w0 _ g s0_0 s0_1 s0_2 from by repeat (first | (with_reducible first | exact HI0.out | apply IsS71.alloc | apply IsS71.drewN | apply IsS71.drew | apply IsS71.set_0 | apply IsS71.set_1 | apply IsS71.set_2) | exact HI0.out))) : gb433 ≠ g)); clear HI0; clear HK; clear HB; have HI0 := n0_; have HK := n1_; have HB := n2_; have BK433 := n3_; have GW433 := n4_; have GE433 := n5_; have NB0_433 := n6_; have NB433_0 := n7_; clear n0_ n1_ n2_ n3_ n4_ n5_ n6_ n7_; clear hb hbox hg) | ((with_reducible refine gate_callee (f := 35) rfl ?_); refine goesL_ (some 12) rfl rfl Tryz.func35 (by kernel_rfl) rfl #[.pointer (some ⟨g, 0, none⟩)] rfl q3_ ?_; (with_reducible refine (script_reader_text.calls g s0_0 s0_1 s0_2 t434 t435 t436 t437 w0 _ ?side1 ?side2 A2.out).mono ?_); (case side1 => repeat (first | (with_reducible first | exact HI0.out | apply IsS71.alloc | apply IsS71.drewN | apply IsS71.drew | apply IsS71.set_0 | apply IsS71.set_1 | apply IsS71.set_2 | (apply IsS71.far; rotate_left; exact NB0_433.out; rotate_right)) | exact HI0.out)); (case side2 => repeat (first | (with_reducible first | exact HB.out | apply below_alloc | apply pw_below_drewN | apply below_drew1 | refine below_set ?_ (IsS71.ge HI0.out) | refine below_set ?_ GE433.out) | exact HB.out)); rintro e w92 ⟨rfl, hi, hb, hk⟩; refine ⟨_, rfl, ?_⟩; have n0_ := Aside0.mk (KeepBut.blk hk (g' := gb433) (o := .cells #[.int .i64 0, .string (⟨#[]⟩ : ByteArray), .string (⟨#[]⟩ : ByteArray), .bool false, .slice none 0 0, .string (⟨#[]⟩ : ByteArray), .string (⟨#[]⟩ : ByteArray), .slice none 0 0] 29 (0, 0)) q1_ NB433_0.out (by simp)); have n1_ := Aside0.mk (KeepBut.trans q2_ hk (.inl rfl)); have n2_ := Aside0.mk (hb); have n3_ := Aside0.mk (hi); clear BK433; clear HK; clear HB; clear HI0; have BK433 := n0_; have HK := n1_; have HB := n2_; have HI0 := n3_; clear n0_ n1_ n2_ n3_; (try clear hb); (try clear hb2); (try clear hk); (try clear hi)) | ((with_reducible refine gate_callee (f := 35) rfl ?_); refine goesL_ (some 71) rfl rfl Tryz.func35 (by kernel_rfl) rfl #[.pointer (some ⟨g, 0, none⟩)] rfl q3_ ?_; (with_reducible refine (script_reader_text.calls g t435 t436 t437 t475 t476 t477 t478 w0 _ ?side1 ?side2 A88.out).mono ?_); (case side1 => repeat (first | (with_reducible first | exact HI0.out | apply IsS71.alloc | apply IsS71.drewN | apply IsS71.drew | apply IsS71.set_0 | apply IsS71.set_1 | apply IsS71.set_2 | (apply IsS71.far; rotate_left; exact NB0_433.out; rotate_right)) | exact HI0.out)); (case side2 => repeat (first | (with_reducible first | exact HB.out | apply below_alloc | apply pw_below_drewN | apply below_drew1 | refine below_set ?_ (IsS71.ge HI0.out) | refine below_set ?_ GE433.out) | exact HB.out)); rintro e w93 ⟨rfl, hi, hb, hk⟩; refine ⟨_, rfl, ?_⟩; have n0_ := Aside0.mk (KeepBut.blk hk (g' := gb433) (o := .cells #[.int .i64 0, .string (⟨#[]⟩ : ByteArray), .string (⟨#[]⟩ : ByteArray), .bool false, .slice none 0 0, .string (⟨#[]⟩ : ByteArray), .string (⟨#[]⟩ : ByteArray), .slice none 0 0] 29 (0, 0)) q1_ NB433_0.out (by simp)); have n1_ := Aside0.mk (KeepBut.trans q2_ hk (.inl rfl)); have n2_ := Aside0.mk (hb); have n3_ := Aside0.mk (hi); clear BK433; clear HK; clear HB; clear HI0; have BK433 := n0_; have HK := n1_; have HB := n2_; have HI0 := n3_; clear n0_ n1_ n2_ n3_; (try clear hb); (try clear hb2); (try clear hk); (try clear hi)) | ((with_reducible refine gate_callee (f := 35) rfl ?_); refine goesL_ (some 73) rfl rfl Tryz.func35 (by kernel_rfl) rfl #[.pointer (some ⟨g, 0, none⟩)] rfl q3_ ?_; (with_reducible refine (script_reader_text.calls g t476 t477 t478 t479 t480 t481 t482 w0 _ ?side1 ?side2 A89.out).mono ?_); (case side1 => repeat (first | (with_reducible first | exact HI0.out | apply IsS71.alloc | apply IsS71.drewN | apply IsS71.drew | apply IsS71.set_0 | apply IsS71.set_1 | apply IsS71.set_2 | (apply IsS71.far; rotate_left; exact NB0_433.out; rotate_right)) | exact HI0.out)); (case side2 => repeat (first | (with_reducible first | exact HB.out | apply below_alloc | apply pw_below_drewN | apply below_drew1 | refine below_set ?_ (IsS71.ge HI0.out) | refine below_set ?_ GE433.out) | exact HB.out)); rintro e w94 ⟨rfl, hi, hb, hk⟩; refine ⟨_, rfl, ?_⟩; have n0_ := Aside0.mk (KeepBut.blk hk (g' := gb433) (o := .cells #[.int .i64 0, .string (⟨#[]⟩ : ByteArray), .string (⟨#[]⟩ : ByteArray), .bool false, .slice none 0 0, .string (⟨#[]⟩ : ByteArray), .string (⟨#[]⟩ : ByteArray), .slice none 0 0] 29 (0, 0)) q1_ NB433_0.out (by simp)); have n1_ := Aside0.mk (KeepBut.trans q2_ hk (.inl rfl)); have n2_ := Aside0.mk (hb); have n3_ := Aside0.mk (hi); clear BK433; clear HK; clear HB; clear HI0; have BK433 := n0_; have HK := n1_; have HB := n2_; have HI0 := n3_; clear n0_ n1_ n2_ n3_; (try clear hb); (try clear hb2); (try clear hk); (try clear hi)) | ((with_reducible refine gate_dst (N := 7) rfl ?_); (try (refine gate_guard (by rfl) ?_; dsimp only)); refine box_event ?hg (N := 7) ?hd (cs := #[.int .i64 0, .string (⟨#[]⟩ : ByteArray), .string (⟨#[]⟩ : ByteArray), .bool false, .slice none 0 0, .string (⟨#[]⟩ : ByteArray), .string (⟨#[]⟩ : ByteArray), .slice none 0 0]) (t := 29) ?hr ?_; (case hd => rfl); (case hg => rfl); (case hr => first | (go_simp; done) | (go_simp; rfl)); intro gb483 hg w95 hbox hb; have n0_ := Aside0.mk (IsS71.below q19_ hb); have n1_ := Aside0.mk (blk_below (g := gb433) (o := .cells #[.int .i64 0, .string (⟨#[]⟩ : ByteArray), .string (⟨#[]⟩ : ByteArray), .bool false, .slice none 0 0, .string (⟨#[]⟩ : ByteArray), .string (⟨#[]⟩ : ByteArray), .slice none 0 0] 29 (0, 0)) q1_ hb); have n2_ := Aside0.mk (KeepBut.trans q2_ (KeepBut.of_below hb g none) (.inl rfl)); have n3_ := Aside0.mk (below_step q22_ hb); have n4_ := Aside0.mk (hbox); have n5_ := Aside0.mk ((q34_ : w.heap.size ≤ gb483)); have n6_ := Aside0.mk ((Nat.le_trans HW0.out (q34_ : w.heap.size ≤ gb483) : w0.heap.size ≤ gb483)); have n7_ := Aside0.mk ((q13_ : gb433 ≠ gb483)); have n8_ := Aside0.mk ((q14_ : gb483 ≠ gb433)); have n9_ := Aside0.mk (((by rw [hg]; exact Nat.ne_of_lt (IsS71.lt (show IsS71 w0 _ g t480 t481 t482 from by repeat (first | (with_reducible first | exact HI0.out | apply IsS71.alloc | apply IsS71.drewN | apply IsS71.drew | apply IsS71.set_0 | apply IsS71.set_1 | apply IsS71.set_2 | (apply IsS71.far; rotate_left; exact NB0_433.out; rotate_right)) | exact HI0.out)))) : g ≠ gb483)); have n10_ := Aside0.mk (((by rw [hg]; exact Nat.ne_of_gt (IsS71.lt (show IsS71 w0 _ g t480 t481 t482 from by repeat (first | (with_reducible first | exact HI0.out | apply IsS71.alloc | apply IsS71.drewN | apply IsS71.drew | apply IsS71.set_0 | apply IsS71.set_1 | apply IsS71.set_2 | (apply IsS71.far; rotate_left; exact NB0_433.out; rotate_right)) | exact HI0.out)))) : gb483 ≠ g)); clear HI0; clear BK433; clear HK; clear HB; have HI0 := n0_; have BK433 := n1_; have HK := n2_; have HB := n3_; have BK483 := n4_; have GW483 := n5_; have GE483 := n6_; have NB433_483 := n7_; have NB483_433 := n8_; have NB0_483 := n9_; have NB483_0 := n10_; clear n0_ n1_ n2_ n3_ n4_ n5_ n6_ n7_ n8_ n9_ n10_; clear hb hbox hg; have hnb96 := NB483_433.out; have hnc96 := NB433_483.out; have hnb97 := NB483_0.out; have hnc97 := NB0_483.out; obtain ⟨hcz98_0, hcz98_1, hcz98_2, hcz98_3, hcz98_4, hcz98_5, hcz98_6, hcz98_7, hfz98_0, hfz98_1, hfz98_2, hfz98_3, hfz98_4, hfz98_5, hfz98_6, hfz98_7⟩ := cellsF8 BK483.out) | ((with_reducible refine gate_callee (f := 36) rfl ?_); refine goesL_ (some 76) rfl rfl Tryz.func36 (by kernel_rfl) rfl #[.pointer (some ⟨g, 0, none⟩)] rfl q3_ ?_; (with_reducible refine (script_reader_number.calls g t480 t481 t482 t484 t485 t486 t487 w0 _ ?side1 ?side2 A90.out).mono ?_); (case side1 => repeat (first | (with_reducible first | exact HI0.out | apply IsS71.alloc | apply IsS71.drewN | apply IsS71.drew | apply IsS71.set_0 | apply IsS71.set_1 | apply IsS71.set_2 | (apply IsS71.far; rotate_left; exact NB0_433.out; rotate_right) | (apply IsS71.far; rotate_left; exact NB0_483.out; rotate_right)) | exact HI0.out)); (case side2 => repeat (first | (with_reducible first | exact HB.out | apply below_alloc | apply pw_below_drewN | apply below_drew1 | refine below_set ?_ (IsS71.ge HI0.out) | refine below_set ?_ GE433.out | refine below_set ?_ GE483.out) | exact HB.out)); rintro e w99 ⟨rfl, hi, hb, hk⟩; refine ⟨_, rfl, ?_⟩; have n0_ := Aside0.mk (KeepBut.blk hk (g' := gb433) (o := .cells #[.int .i64 0, .string (⟨#[]⟩ : ByteArray), .string (⟨#[]⟩ : ByteArray), .bool false, .slice none 0 0, .string (⟨#[]⟩ : ByteArray), .string (⟨#[]⟩ : ByteArray), .slice none 0 0] 29 (0, 0)) (by (with_reducible repeat (first | refine blk_drewN ?_ _ | refine blk_drew ?_ | refine blk_alloc ?_ _)); refine blk_far ?_ NB433_483.out _; (with_reducible repeat (first | refine blk_drewN ?_ _ | refine blk_drew ?_ | refine blk_alloc ?_ _)); refine blk_far ?_ NB433_483.out _; (with_reducible repeat (first | refine blk_drewN ?_ _ | refine blk_drew ?_ | refine blk_alloc ?_ _)); refine blk_far ?_ NB433_483.out _; (with_reducible repeat (first | refine blk_drewN ?_ _ | refine blk_drew ?_ | refine blk_alloc ?_ _)); refine blk_far ?_ NB433_483.out _; (with_reducible repeat (first | refine blk_drewN ?_ _ | refine blk_drew ?_ | refine blk_alloc ?_ _)); refine blk_far ?_ NB433_483.out _; (with_reducible repeat (first | refine blk_drewN ?_ _ | refine blk_drew ?_ | refine blk_alloc ?_ _)); refine blk_far ?_ NB433_483.out _; (with_reducible repeat (first | refine blk_drewN ?_ _ | refine blk_drew ?_ | refine blk_alloc ?_ _)); refine blk_far ?_ NB433_483.out _; (with_reducible repeat (first | refine blk_drewN ?_ _ | refine blk_drew ?_ | refine blk_alloc ?_ _)); refine blk_far ?_ NB433_483.out _; (with_reducible repeat (first | refine blk_drewN ?_ _ | refine blk_drew ?_ | refine blk_alloc ?_ _)); exact BK433.out) NB433_0.out (by simp)); have n1_ := Aside0.mk (KeepBut.blk hk (g' := gb483) (o := .cells #[.int .i64 2, .string (⟨#[]⟩ : ByteArray), .string (⟨#[]⟩ : ByteArray), .bool false, .slice none 0 0, .string t475, .string t479, .slice none 0 0] 29 (0, 0)) (by (with_reducible repeat (first | refine blk_drewN ?_ _ | refine blk_drew ?_ | refine blk_alloc ?_ _)); refine blk_put (cs := #[.int .i64 2, .string (⟨#[]⟩ : ByteArray), .string (⟨#[]⟩ : ByteArray), .bool false, .slice none 0 0, .string t475, .string t479, .slice none 0 0]) ?_ 7 _ rfl; (with_reducible repeat (first | refine blk_drewN ?_ _ | refine blk_drew ?_ | refine blk_alloc ?_ _)); refine blk_put (cs := #[.int .i64 2, .string (⟨#[]⟩ : ByteArray), .string (⟨#[]⟩ : ByteArray), .bool false, .slice none 0 0, .string t475, .string (⟨#[]⟩ : ByteArray), .slice none 0 0]) ?_ 6 _ rfl; (with_reducible repeat (first | refine blk_drewN ?_ _ | refine blk_drew ?_ | refine blk_alloc ?_ _)); refine blk_put (cs := #[.int .i64 2, .string (⟨#[]⟩ : ByteArray), .string (⟨#[]⟩ : ByteArray), .bool false, .slice none 0 0, .string (⟨#[]⟩ : ByteArray), .string (⟨#[]⟩ : ByteArray), .slice none 0 0]) ?_ 5 _ rfl; (with_reducible repeat (first | refine blk_drewN ?_ _ | refine blk_drew ?_ | refine blk_alloc ?_ _)); refine blk_put (cs := #[.int .i64 2, .string (⟨#[]⟩ : ByteArray), .string (⟨#[]⟩ : ByteArray), .bool false, .slice none 0 0, .string (⟨#[]⟩ : ByteArray), .string (⟨#[]⟩ : ByteArray), .slice none 0 0]) ?_ 4 _ rfl; (with_reducible repeat (first | refine blk_drewN ?_ _ | refine blk_drew ?_ | refine blk_alloc ?_ _)); refine blk_put (cs := #[.int .i64 2, .string (⟨#[]⟩ : ByteArray), .string (⟨#[]⟩ : ByteArray), .bool false, .slice none 0 0, .string (⟨#[]⟩ : ByteArray), .string (⟨#[]⟩ : ByteArray), .slice none 0 0]) ?_ 3 _ rfl; (with_reducible repeat (first | refine blk_drewN ?_ _ | refine blk_drew ?_ | refine blk_alloc ?_ _)); refine blk_put (cs := #[.int .i64 2, .string (⟨#[]⟩ : ByteArray), .string (⟨#[]⟩ : ByteArray), .bool false, .slice none 0 0, .string (⟨#[]⟩ : ByteArray), .string (⟨#[]⟩ : ByteArray), .slice none 0 0]) ?_ 2 _ rfl; (with_reducible repeat (first | refine blk_drewN ?_ _ | refine blk_drew ?_ | refine blk_alloc ?_ _)); refine blk_put (cs := #[.int .i64 2, .string (⟨#[]⟩ : ByteArray), .string (⟨#[]⟩ : ByteArray), .bool false, .slice none 0 0, .string (⟨#[]⟩ : ByteArray), .string (⟨#[]⟩ : ByteArray), .slice none 0 0]) ?_ 1 _ rfl; (with_reducible repeat (first | refine blk_drewN ?_ _ | refine blk_drew ?_ | refine blk_alloc ?_ _)); refine blk_put (cs := #[.int .i64 0, .string (⟨#[]⟩ : ByteArray), .string (⟨#[]⟩ : ByteArray), .bool false, .slice none 0 0, .string (⟨#[]⟩ : ByteArray), .string (⟨#[]⟩ : ByteArray), .slice none 0 0]) ?_ 0 _ rfl; (with_reducible repeat (first | refine blk_drewN ?_ _ | refine blk_drew ?_ | refine blk_alloc ?_ _)); exact BK483.out) NB483_0.out (by simp)); have n2_ := Aside0.mk (KeepBut.trans q5_ hk (.inl rfl)); have n3_ := Aside0.mk (hb); have n4_ := Aside0.mk (hi); clear BK433; clear BK483; clear HK; clear HB; clear HI0; have BK433 := n0_; have BK483 := n1_; have HK := n2_; have HB := n3_; have HI0 := n4_; clear n0_ n1_ n2_ n3_ n4_; (try clear hb); (try clear hb2); (try clear hk); (try clear hi)))
    go_loopg [8] k (fun kq v8 w' => ∃ (x8_1 : Int) (x1000_1 : ByteArray) (x1001_1 : Int) (x1002_1 : Bool) (x484007_1 : List (S44)) (u484007 : Value), v8 = .int .i64 x8_1 ∧ Aside0 (script_reader_step.l1 kq x8_1 x1000_1 x1001_1 x1002_1 2 (⟨#[]⟩ : ByteArray) (⟨#[]⟩ : ByteArray) false t475 t479 x484007_1 = some (r1, r2, r3, r4, r5, r6, r7, r8, r9, r10, r11)) ∧ Aside0 (kq ≤ k) ∧ Aside0 (Kd.R k44 44 w' w.heap.size (fun _ => True) u484007 x484007_1) ∧ Aside0 (w'.heap[gb433]? = some (.cells #[.int .i64 0, .string (⟨#[]⟩ : ByteArray), .string (⟨#[]⟩ : ByteArray), .bool false, (.slice none 0 0), .string (⟨#[]⟩ : ByteArray), .string (⟨#[]⟩ : ByteArray), (.slice none 0 0)] 29 (0, 0))) ∧ Aside0 (w'.heap[gb483]? = some (.cells #[.int .i64 2, .string (⟨#[]⟩ : ByteArray), .string (⟨#[]⟩ : ByteArray), .bool false, (.slice none 0 0), .string t475, .string t479, u484007] 29 (0, 0))) ∧ Aside0 (IsS71 w0 w' g x1000_1 x1001_1 x1002_1) ∧ Aside0 (KeepBut w w' g none) ∧ Aside0 (Below w0.heap.size w0 w'))
    case atStart => exact ⟨(t484), (t485), (t486), (t487), (([] : List (S44))), (.slice none 0 0), q45_, H', ⟨Nat.le_refl _⟩, ⟨q11_⟩, ⟨q1_⟩, ⟨q12_⟩, ⟨q15_⟩, ⟨q5_⟩, ⟨q20_⟩⟩
    case round =>
     clear H'
     try clear c1
     try clear c2
     try clear p2
     try clear c3
     try clear c3b0
     try clear c3b1
     try clear c4
     try clear c5
     try clear c6
     try clear p6
     try clear c7
     try clear c8
     try clear c9
     try clear c12
     try clear c13
     try clear c20
     try clear c22
     try clear c22b0
     try clear c22b1
     try clear c25
     try clear c28
     try clear c29
     try clear c35
     try clear c36
     try clear c43
     try clear c44
     try clear c51
     try clear c53
     try clear c53b0
     try clear c53b1
     try clear c60
     try clear c61
     try clear c64
     try clear c64b0
     try clear p64
     try clear c65
     try clear c67
     try clear c68
     try clear c70
     try clear c74
     try clear c81
     try clear c82
     try clear c84
     try clear c87
     try clear c87b0
     try clear c87b1
     try clear c96
     try clear c97
     try clear hcz14_0
     try clear hcz14_1
     try clear hcz14_2
     try clear hcz14_3
     try clear hcz14_4
     try clear hcz14_5
     try clear hcz14_6
     try clear hcz14_7
     try clear hcz16_0
     try clear hcz16_1
     try clear hcz16_2
     try clear hcz17_0
     try clear hcz17_1
     try clear hcz17_2
     try clear hcz17_3
     try clear hcz17_4
     try clear hcz17_5
     try clear hcz17_6
     try clear hcz17_7
     try clear hcz19_0
     try clear hcz19_1
     try clear hcz19_2
     try clear hcz19_3
     try clear hcz19_4
     try clear hcz19_5
     try clear hcz19_6
     try clear hcz19_7
     try clear hcz21_0
     try clear hcz21_1
     try clear hcz21_2
     try clear hcz21_3
     try clear hcz21_4
     try clear hcz21_5
     try clear hcz21_6
     try clear hcz21_7
     try clear hcz30_0
     try clear hcz30_1
     try clear hcz30_2
     try clear hcz30_3
     try clear hcz30_4
     try clear hcz30_5
     try clear hcz30_6
     try clear hcz30_7
     try clear hcz32_0
     try clear hcz32_1
     try clear hcz32_2
     try clear hcz33_0
     try clear hcz33_1
     try clear hcz33_2
     try clear hcz33_3
     try clear hcz33_4
     try clear hcz33_5
     try clear hcz33_6
     try clear hcz33_7
     try clear hcz35_0
     try clear hcz35_1
     try clear hcz35_2
     try clear hcz35_3
     try clear hcz35_4
     try clear hcz35_5
     try clear hcz35_6
     try clear hcz35_7
     try clear hcz37_0
     try clear hcz37_1
     try clear hcz37_2
     try clear hcz37_3
     try clear hcz37_4
     try clear hcz37_5
     try clear hcz37_6
     try clear hcz37_7
     try clear hcz45_0
     try clear hcz45_1
     try clear hcz45_2
     try clear hcz45_3
     try clear hcz45_4
     try clear hcz45_5
     try clear hcz45_6
     try clear hcz45_7
     try clear hcz47_0
     try clear hcz47_1
     try clear hcz47_2
     try clear hcz48_0
     try clear hcz48_1
     try clear hcz48_2
     try clear hcz48_3
     try clear hcz48_4
     try clear hcz48_5
     try clear hcz48_6
     try clear hcz48_7
     try clear hcz50_0
     try clear hcz50_1
     try clear hcz50_2
     try clear hcz50_3
     try clear hcz50_4
     try clear hcz50_5
     try clear hcz50_6
     try clear hcz50_7
     try clear hcz52_0
     try clear hcz52_1
     try clear hcz52_2
     try clear hcz52_3
     try clear hcz52_4
     try clear hcz52_5
     try clear hcz52_6
     try clear hcz52_7
     try clear hcz62_0
     try clear hcz62_1
     try clear hcz62_2
     try clear hcz62_3
     try clear hcz62_4
     try clear hcz62_5
     try clear hcz62_6
     try clear hcz62_7
     try clear hcz66_0
     try clear hcz66_1
     try clear hcz66_2
     try clear hcz69_0
     try clear hcz69_1
     try clear hcz69_2
     try clear hcz69_3
     try clear hcz69_4
     try clear hcz69_5
     try clear hcz69_6
     try clear hcz69_7
     try clear hcz71_0
     try clear hcz71_1
     try clear hcz71_2
     try clear hcz71_3
     try clear hcz71_4
     try clear hcz71_5
     try clear hcz71_6
     try clear hcz71_7
     try clear hcz75_0
     try clear hcz75_1
     try clear hcz75_2
     try clear hcz83_0
     try clear hcz83_1
     try clear hcz83_2
     try clear hcz83_3
     try clear hcz83_4
     try clear hcz83_5
     try clear hcz83_6
     try clear hcz83_7
     try clear hcz85_0
     try clear hcz85_1
     try clear hcz85_2
     try clear hcz85_3
     try clear hcz85_4
     try clear hcz85_5
     try clear hcz85_6
     try clear hcz85_7
     try clear hcz98_0
     try clear hcz98_1
     try clear hcz98_2
     try clear hcz98_3
     try clear hcz98_4
     try clear hcz98_5
     try clear hcz98_6
     try clear hcz98_7
     try clear hfz14_0
     try clear hfz14_1
     try clear hfz14_2
     try clear hfz14_3
     try clear hfz14_4
     try clear hfz14_5
     try clear hfz14_6
     try clear hfz14_7
     try clear hfz16_0
     try clear hfz16_1
     try clear hfz16_2
     try clear hfz17_0
     try clear hfz17_1
     try clear hfz17_2
     try clear hfz17_3
     try clear hfz17_4
     try clear hfz17_5
     try clear hfz17_6
     try clear hfz17_7
     try clear hfz19_0
     try clear hfz19_1
     try clear hfz19_2
     try clear hfz19_3
     try clear hfz19_4
     try clear hfz19_5
     try clear hfz19_6
     try clear hfz19_7
     try clear hfz21_0
     try clear hfz21_1
     try clear hfz21_2
     try clear hfz21_3
     try clear hfz21_4
     try clear hfz21_5
     try clear hfz21_6
     try clear hfz21_7
     try clear hfz30_0
     try clear hfz30_1
     try clear hfz30_2
     try clear hfz30_3
     try clear hfz30_4
     try clear hfz30_5
     try clear hfz30_6
     try clear hfz30_7
     try clear hfz32_0
     try clear hfz32_1
     try clear hfz32_2
     try clear hfz33_0
     try clear hfz33_1
     try clear hfz33_2
     try clear hfz33_3
     try clear hfz33_4
     try clear hfz33_5
     try clear hfz33_6
     try clear hfz33_7
     try clear hfz35_0
     try clear hfz35_1
     try clear hfz35_2
     try clear hfz35_3
     try clear hfz35_4
     try clear hfz35_5
     try clear hfz35_6
     try clear hfz35_7
     try clear hfz37_0
     try clear hfz37_1
     try clear hfz37_2
     try clear hfz37_3
     try clear hfz37_4
     try clear hfz37_5
     try clear hfz37_6
     try clear hfz37_7
     try clear hfz45_0
     try clear hfz45_1
     try clear hfz45_2
     try clear hfz45_3
     try clear hfz45_4
     try clear hfz45_5
     try clear hfz45_6
     try clear hfz45_7
     try clear hfz47_0
     try clear hfz47_1
     try clear hfz47_2
     try clear hfz48_0
     try clear hfz48_1
     try clear hfz48_2
     try clear hfz48_3
     try clear hfz48_4
     try clear hfz48_5
     try clear hfz48_6
     try clear hfz48_7
     try clear hfz50_0
     try clear hfz50_1
     try clear hfz50_2
     try clear hfz50_3
     try clear hfz50_4
     try clear hfz50_5
     try clear hfz50_6
     try clear hfz50_7
     try clear hfz52_0
     try clear hfz52_1
     try clear hfz52_2
     try clear hfz52_3
     try clear hfz52_4
     try clear hfz52_5
     try clear hfz52_6
     try clear hfz52_7
     try clear hfz62_0
     try clear hfz62_1
     try clear hfz62_2
     try clear hfz62_3
     try clear hfz62_4
     try clear hfz62_5
     try clear hfz62_6
     try clear hfz62_7
     try clear hfz66_0
     try clear hfz66_1
     try clear hfz66_2
     try clear hfz69_0
     try clear hfz69_1
     try clear hfz69_2
     try clear hfz69_3
     try clear hfz69_4
     try clear hfz69_5
     try clear hfz69_6
     try clear hfz69_7
     try clear hfz71_0
     try clear hfz71_1
     try clear hfz71_2
     try clear hfz71_3
     try clear hfz71_4
     try clear hfz71_5
     try clear hfz71_6
     try clear hfz71_7
     try clear hfz75_0
     try clear hfz75_1
     try clear hfz75_2
     try clear hfz83_0
     try clear hfz83_1
     try clear hfz83_2
     try clear hfz83_3
     try clear hfz83_4
     try clear hfz83_5
     try clear hfz83_6
     try clear hfz83_7
     try clear hfz85_0
     try clear hfz85_1
     try clear hfz85_2
     try clear hfz85_3
     try clear hfz85_4
     try clear hfz85_5
     try clear hfz85_6
     try clear hfz85_7
     try clear hfz98_0
     try clear hfz98_1
     try clear hfz98_2
     try clear hfz98_3
     try clear hfz98_4
     try clear hfz98_5
     try clear hfz98_6
     try clear hfz98_7
     try clear p2
     obtain ⟨x8_1, x1000_1, x1001_1, x1002_1, x484007_1, u484007, rfl, HA, HK1, HO_484007, BK433, BK483, HI0, HK, HB⟩ := hrel
     cases gk with
     | zero => exact absurd HA.out (by simp [script_reader_step.l1])
     | succ k1 =>
      have H := HA.out
      clear HA
      simp only [script_reader_step.l1] at H
      have HC100 := Aside0.mk H
      clear H
      go_upto_region 18 with (fail)
      go_cut [85] (fun v85 wc => ∃ (kq : Nat) (x85_99 : Bool), v85 = .bool x85_99 ∧ Aside0 (script_reader_step.j2 kq x8_1 x85_99 x1000_1 x1001_1 x1002_1 2 (⟨#[]⟩ : ByteArray) (⟨#[]⟩ : ByteArray) false t475 t479 x484007_1 = some (r1, r2, r3, r4, r5, r6, r7, r8, r9, r10, r11)) ∧ Aside0 (kq ≤ k1) ∧ Aside0 (Kd.R k44 44 wc w.heap.size (fun _ => True) u484007 x484007_1) ∧ Aside0 (wc.heap[gb433]? = some (.cells #[.int .i64 0, .string (⟨#[]⟩ : ByteArray), .string (⟨#[]⟩ : ByteArray), .bool false, (.slice none 0 0), .string (⟨#[]⟩ : ByteArray), .string (⟨#[]⟩ : ByteArray), (.slice none 0 0)] 29 (0, 0))) ∧ Aside0 (wc.heap[gb483]? = some (.cells #[.int .i64 2, .string (⟨#[]⟩ : ByteArray), .string (⟨#[]⟩ : ByteArray), .bool false, (.slice none 0 0), .string t475, .string t479, u484007] 29 (0, 0))) ∧ Aside0 (IsS71 w0 wc g x1000_1 x1001_1 x1002_1) ∧ Aside0 (KeepBut w wc g none) ∧ Aside0 (Below w0.heap.size w0 wc))
      case first =>
       have H := HC100.out
       clear HC100
       by_cases c101 : x8_1 > 0
       ·rw [if_pos c101] at H
        have c101b0 : decide (0 < x8_1) = true := decide_eq_true c101
        clear c101
        (first | rw [c101b0] | (simp only [i64_w, i32_w]; rw [c101b0]) | skip)
        have H' := Aside0.mk H
        clear H
        obtain ⟨HGz102, hgz102⟩ := HI0.out
        have hcz102_0 := cellS71_0 HGz102
        have hcz102_1 := cellS71_1 HGz102
        have hcz102_2 := cellS71_2 HGz102
        have hfz102_0 := blk_frozen HGz102 0
        have hfz102_1 := blk_frozen HGz102 1
        have hfz102_2 := blk_frozen HGz102 2
        clear HGz102 hgz102
        go_wp2
        go_meet
        case rel => exact ⟨_, (!x1002_1), q45_, H', ⟨(by have := HK1.out; first | omega | exact Nat.le_refl _)⟩, ⟨q23_⟩, ⟨q1_⟩, ⟨q12_⟩, ⟨q15_⟩, ⟨q5_⟩, ⟨q20_⟩⟩
       ·rw [if_neg c101] at H
        have c101b0 : decide (0 < x8_1) = false := decide_eq_false c101
        clear c101
        (first | rw [c101b0] | (simp only [i64_w, i32_w]; rw [c101b0]) | skip)
        have H' := Aside0.mk H
        clear H
        go_wp2
        go_meet
        case rel => exact ⟨_, (false), q45_, H', ⟨(by have := HK1.out; first | omega | exact Nat.le_refl _)⟩, ⟨q23_⟩, ⟨q1_⟩, ⟨q12_⟩, ⟨q15_⟩, ⟨q5_⟩, ⟨q20_⟩⟩
      case rest =>
       clear HC100
       try clear c1
       try clear c2
       try clear p2
       try clear c3
       try clear c3b0
       try clear c3b1
       try clear c4
       try clear c5
       try clear c6
       try clear p6
       try clear c7
       try clear c8
       try clear c9
       try clear c10
       try clear c12
       try clear c13
       try clear c20
       try clear c22
       try clear c22b0
       try clear c22b1
       try clear c25
       try clear c28
       try clear c29
       try clear c35
       try clear c36
       try clear c43
       try clear c44
       try clear c51
       try clear c53
       try clear c53b0
       try clear c53b1
       try clear c60
       try clear c61
       try clear c64
       try clear c64b0
       try clear p64
       try clear c65
       try clear c67
       try clear c68
       try clear c70
       try clear c74
       try clear c81
       try clear c82
       try clear c84
       try clear c87
       try clear c87b0
       try clear c87b1
       try clear c96
       try clear c97
       try clear c101
       try clear c101b0
       try clear hcz102_0
       try clear hcz102_1
       try clear hcz102_2
       try clear hcz14_0
       try clear hcz14_1
       try clear hcz14_2
       try clear hcz14_3
       try clear hcz14_4
       try clear hcz14_5
       try clear hcz14_6
       try clear hcz14_7
       try clear hcz16_0
       try clear hcz16_1
       try clear hcz16_2
       try clear hcz17_0
       try clear hcz17_1
       try clear hcz17_2
       try clear hcz17_3
       try clear hcz17_4
       try clear hcz17_5
       try clear hcz17_6
       try clear hcz17_7
       try clear hcz19_0
       try clear hcz19_1
       try clear hcz19_2
       try clear hcz19_3
       try clear hcz19_4
       try clear hcz19_5
       try clear hcz19_6
       try clear hcz19_7
       try clear hcz21_0
       try clear hcz21_1
       try clear hcz21_2
       try clear hcz21_3
       try clear hcz21_4
       try clear hcz21_5
       try clear hcz21_6
       try clear hcz21_7
       try clear hcz30_0
       try clear hcz30_1
       try clear hcz30_2
       try clear hcz30_3
       try clear hcz30_4
       try clear hcz30_5
       try clear hcz30_6
       try clear hcz30_7
       try clear hcz32_0
       try clear hcz32_1
       try clear hcz32_2
       try clear hcz33_0
       try clear hcz33_1
       try clear hcz33_2
       try clear hcz33_3
       try clear hcz33_4
       try clear hcz33_5
       try clear hcz33_6
       try clear hcz33_7
       try clear hcz35_0
       try clear hcz35_1
       try clear hcz35_2
       try clear hcz35_3
       try clear hcz35_4
       try clear hcz35_5
       try clear hcz35_6
       try clear hcz35_7
       try clear hcz37_0
       try clear hcz37_1
       try clear hcz37_2
       try clear hcz37_3
       try clear hcz37_4
       try clear hcz37_5
       try clear hcz37_6
       try clear hcz37_7
       try clear hcz45_0
       try clear hcz45_1
       try clear hcz45_2
       try clear hcz45_3
       try clear hcz45_4
       try clear hcz45_5
       try clear hcz45_6
       try clear hcz45_7
       try clear hcz47_0
       try clear hcz47_1
       try clear hcz47_2
       try clear hcz48_0
       try clear hcz48_1
       try clear hcz48_2
       try clear hcz48_3
       try clear hcz48_4
       try clear hcz48_5
       try clear hcz48_6
       try clear hcz48_7
       try clear hcz50_0
       try clear hcz50_1
       try clear hcz50_2
       try clear hcz50_3
       try clear hcz50_4
       try clear hcz50_5
       try clear hcz50_6
       try clear hcz50_7
       try clear hcz52_0
       try clear hcz52_1
       try clear hcz52_2
       try clear hcz52_3
       try clear hcz52_4
       try clear hcz52_5
       try clear hcz52_6
       try clear hcz52_7
       try clear hcz62_0
       try clear hcz62_1
       try clear hcz62_2
       try clear hcz62_3
       try clear hcz62_4
       try clear hcz62_5
       try clear hcz62_6
       try clear hcz62_7
       try clear hcz66_0
       try clear hcz66_1
       try clear hcz66_2
       try clear hcz69_0
       try clear hcz69_1
       try clear hcz69_2
       try clear hcz69_3
       try clear hcz69_4
       try clear hcz69_5
       try clear hcz69_6
       try clear hcz69_7
       try clear hcz71_0
       try clear hcz71_1
       try clear hcz71_2
       try clear hcz71_3
       try clear hcz71_4
       try clear hcz71_5
       try clear hcz71_6
       try clear hcz71_7
       try clear hcz75_0
       try clear hcz75_1
       try clear hcz75_2
       try clear hcz83_0
       try clear hcz83_1
       try clear hcz83_2
       try clear hcz83_3
       try clear hcz83_4
       try clear hcz83_5
       try clear hcz83_6
       try clear hcz83_7
       try clear hcz85_0
       try clear hcz85_1
       try clear hcz85_2
       try clear hcz85_3
       try clear hcz85_4
       try clear hcz85_5
       try clear hcz85_6
       try clear hcz85_7
       try clear hcz98_0
       try clear hcz98_1
       try clear hcz98_2
       try clear hcz98_3
       try clear hcz98_4
       try clear hcz98_5
       try clear hcz98_6
       try clear hcz98_7
       try clear hfz102_0
       try clear hfz102_1
       try clear hfz102_2
       try clear hfz14_0
       try clear hfz14_1
       try clear hfz14_2
       try clear hfz14_3
       try clear hfz14_4
       try clear hfz14_5
       try clear hfz14_6
       try clear hfz14_7
       try clear hfz16_0
       try clear hfz16_1
       try clear hfz16_2
       try clear hfz17_0
       try clear hfz17_1
       try clear hfz17_2
       try clear hfz17_3
       try clear hfz17_4
       try clear hfz17_5
       try clear hfz17_6
       try clear hfz17_7
       try clear hfz19_0
       try clear hfz19_1
       try clear hfz19_2
       try clear hfz19_3
       try clear hfz19_4
       try clear hfz19_5
       try clear hfz19_6
       try clear hfz19_7
       try clear hfz21_0
       try clear hfz21_1
       try clear hfz21_2
       try clear hfz21_3
       try clear hfz21_4
       try clear hfz21_5
       try clear hfz21_6
       try clear hfz21_7
       try clear hfz30_0
       try clear hfz30_1
       try clear hfz30_2
       try clear hfz30_3
       try clear hfz30_4
       try clear hfz30_5
       try clear hfz30_6
       try clear hfz30_7
       try clear hfz32_0
       try clear hfz32_1
       try clear hfz32_2
       try clear hfz33_0
       try clear hfz33_1
       try clear hfz33_2
       try clear hfz33_3
       try clear hfz33_4
       try clear hfz33_5
       try clear hfz33_6
       try clear hfz33_7
       try clear hfz35_0
       try clear hfz35_1
       try clear hfz35_2
       try clear hfz35_3
       try clear hfz35_4
       try clear hfz35_5
       try clear hfz35_6
       try clear hfz35_7
       try clear hfz37_0
       try clear hfz37_1
       try clear hfz37_2
       try clear hfz37_3
       try clear hfz37_4
       try clear hfz37_5
       try clear hfz37_6
       try clear hfz37_7
       try clear hfz45_0
       try clear hfz45_1
       try clear hfz45_2
       try clear hfz45_3
       try clear hfz45_4
       try clear hfz45_5
       try clear hfz45_6
       try clear hfz45_7
       try clear hfz47_0
       try clear hfz47_1
       try clear hfz47_2
       try clear hfz48_0
       try clear hfz48_1
       try clear hfz48_2
       try clear hfz48_3
       try clear hfz48_4
       try clear hfz48_5
       try clear hfz48_6
       try clear hfz48_7
       try clear hfz50_0
       try clear hfz50_1
       try clear hfz50_2
       try clear hfz50_3
       try clear hfz50_4
       try clear hfz50_5
       try clear hfz50_6
       try clear hfz50_7
       try clear hfz52_0
       try clear hfz52_1
       try clear hfz52_2
       try clear hfz52_3
       try clear hfz52_4
       try clear hfz52_5
       try clear hfz52_6
       try clear hfz52_7
       try clear hfz62_0
       try clear hfz62_1
       try clear hfz62_2
       try clear hfz62_3
       try clear hfz62_4
       try clear hfz62_5
       try clear hfz62_6
       try clear hfz62_7
       try clear hfz66_0
       try clear hfz66_1
       try clear hfz66_2
       try clear hfz69_0
       try clear hfz69_1
       try clear hfz69_2
       try clear hfz69_3
       try clear hfz69_4
       try clear hfz69_5
       try clear hfz69_6
       try clear hfz69_7
       try clear hfz71_0
       try clear hfz71_1
       try clear hfz71_2
       try clear hfz71_3
       try clear hfz71_4
       try clear hfz71_5
       try clear hfz71_6
       try clear hfz71_7
       try clear hfz75_0
       try clear hfz75_1
       try clear hfz75_2
       try clear hfz83_0
       try clear hfz83_1
       try clear hfz83_2
       try clear hfz83_3
       try clear hfz83_4
       try clear hfz83_5
       try clear hfz83_6
       try clear hfz83_7
       try clear hfz85_0
       try clear hfz85_1
       try clear hfz85_2
       try clear hfz85_3
       try clear hfz85_4
       try clear hfz85_5
       try clear hfz85_6
       try clear hfz85_7
       try clear hfz98_0
       try clear hfz98_1
       try clear hfz98_2
       try clear hfz98_3
       try clear hfz98_4
       try clear hfz98_5
       try clear hfz98_6
       try clear hfz98_7
       try clear p2
       try clear p6
       try clear p64
       obtain ⟨kq, x85_99, rfl, HA, HJ99, HO_484007, BK433, BK483, HI0, HK, HB⟩ := hcut
       cases kq with
       | zero => exact absurd HA.out (by simp [script_reader_step.j2])
       | succ kj99 =>
        have H := HA.out
        clear HA
        simp only [script_reader_step.j2] at H
        by_cases c103 : x85_99 = true
        ·subst c103
         have H1 : ((script_reader_text.f x1000_1 x1001_1 x1002_1).bind fun bt488 => ((script_reader_text.f bt488.2.1 bt488.2.2.1 bt488.2.2.2).bind fun bt493 => ((strings_Index.f (⟨#[116, 110, 109]⟩ : ByteArray) bt493.1).bind fun t497 => ((script_reader_text.f bt493.2.1 bt493.2.2.1 bt493.2.2.2).bind fun bt498 => (if bt498.2.2.2 = true then (if x484007_1.length < 3518437208883 then (script_reader_step.l1 kj99 (wrap64 (x8_1 - 1)) bt498.2.1 bt498.2.2.1 true 2 (⟨#[]⟩ : ByteArray) (⟨#[]⟩ : ByteArray) false t475 t479 (x484007_1 ++ [(⟨bt488.1, t497, bt498.1⟩ : S44)])) else (none)) else (if x484007_1.length < 3518437208883 then (script_reader_step.l1 kj99 (wrap64 (x8_1 - 1)) bt498.2.1 bt498.2.2.1 ((bt493.1.size : Int) != 1) 2 (⟨#[]⟩ : ByteArray) (⟨#[]⟩ : ByteArray) false t475 t479 (x484007_1 ++ [(⟨bt488.1, t497, bt498.1⟩ : S44)])) else (none))))))) = some (r1, r2, r3, r4, r5, r6, r7, r8, r9, r10, r11) := by rw [if_pos rfl] at H; exact H
         clear H
         have H := H1
         clear H1
         replace H := Option.bind_eq_some_iff.mp H
         obtain ⟨⟨t488, t489, t490, t491⟩, A1040, H⟩ := H
         replace H : ((script_reader_text.f t489 t490 t491).bind fun bt493 => ((strings_Index.f (⟨#[116, 110, 109]⟩ : ByteArray) bt493.1).bind fun t497 => ((script_reader_text.f bt493.2.1 bt493.2.2.1 bt493.2.2.2).bind fun bt498 => (if bt498.2.2.2 = true then (if x484007_1.length < 3518437208883 then (script_reader_step.l1 kj99 (wrap64 (x8_1 - 1)) bt498.2.1 bt498.2.2.1 true 2 (⟨#[]⟩ : ByteArray) (⟨#[]⟩ : ByteArray) false t475 t479 (x484007_1 ++ [(⟨t488, t497, bt498.1⟩ : S44)])) else (none)) else (if x484007_1.length < 3518437208883 then (script_reader_step.l1 kj99 (wrap64 (x8_1 - 1)) bt498.2.1 bt498.2.2.1 ((bt493.1.size : Int) != 1) 2 (⟨#[]⟩ : ByteArray) (⟨#[]⟩ : ByteArray) false t475 t479 (x484007_1 ++ [(⟨t488, t497, bt498.1⟩ : S44)])) else (none)))))) = some (r1, r2, r3, r4, r5, r6, r7, r8, r9, r10, r11) := H
         have A104 := Aside0.mk A1040
         clear A1040
         replace H := Option.bind_eq_some_iff.mp H
         obtain ⟨⟨t493, t494, t495, t496⟩, A1050, H⟩ := H
         replace H : ((strings_Index.f (⟨#[116, 110, 109]⟩ : ByteArray) t493).bind fun t497 => ((script_reader_text.f t494 t495 t496).bind fun bt498 => (if bt498.2.2.2 = true then (if x484007_1.length < 3518437208883 then (script_reader_step.l1 kj99 (wrap64 (x8_1 - 1)) bt498.2.1 bt498.2.2.1 true 2 (⟨#[]⟩ : ByteArray) (⟨#[]⟩ : ByteArray) false t475 t479 (x484007_1 ++ [(⟨t488, t497, bt498.1⟩ : S44)])) else (none)) else (if x484007_1.length < 3518437208883 then (script_reader_step.l1 kj99 (wrap64 (x8_1 - 1)) bt498.2.1 bt498.2.2.1 ((t493.size : Int) != 1) 2 (⟨#[]⟩ : ByteArray) (⟨#[]⟩ : ByteArray) false t475 t479 (x484007_1 ++ [(⟨t488, t497, bt498.1⟩ : S44)])) else (none))))) = some (r1, r2, r3, r4, r5, r6, r7, r8, r9, r10, r11) := H
         have A105 := Aside0.mk A1050
         clear A1050
         replace H := Option.bind_eq_some_iff.mp H
         obtain ⟨t497, A1060, H⟩ := H
         replace H : ((script_reader_text.f t494 t495 t496).bind fun bt498 => (if bt498.2.2.2 = true then (if x484007_1.length < 3518437208883 then (script_reader_step.l1 kj99 (wrap64 (x8_1 - 1)) bt498.2.1 bt498.2.2.1 true 2 (⟨#[]⟩ : ByteArray) (⟨#[]⟩ : ByteArray) false t475 t479 (x484007_1 ++ [(⟨t488, t497, bt498.1⟩ : S44)])) else (none)) else (if x484007_1.length < 3518437208883 then (script_reader_step.l1 kj99 (wrap64 (x8_1 - 1)) bt498.2.1 bt498.2.2.1 ((t493.size : Int) != 1) 2 (⟨#[]⟩ : ByteArray) (⟨#[]⟩ : ByteArray) false t475 t479 (x484007_1 ++ [(⟨t488, t497, bt498.1⟩ : S44)])) else (none)))) = some (r1, r2, r3, r4, r5, r6, r7, r8, r9, r10, r11) := H
         have A106 := Aside0.mk A1060
         clear A1060
         replace H := Option.bind_eq_some_iff.mp H
         obtain ⟨⟨t498, t499, t500, t501⟩, A1070, H⟩ := H
         replace H : (if t501 = true then (if x484007_1.length < 3518437208883 then (script_reader_step.l1 kj99 (wrap64 (x8_1 - 1)) t499 t500 true 2 (⟨#[]⟩ : ByteArray) (⟨#[]⟩ : ByteArray) false t475 t479 (x484007_1 ++ [(⟨t488, t497, t498⟩ : S44)])) else (none)) else (if x484007_1.length < 3518437208883 then (script_reader_step.l1 kj99 (wrap64 (x8_1 - 1)) t499 t500 ((t493.size : Int) != 1) 2 (⟨#[]⟩ : ByteArray) (⟨#[]⟩ : ByteArray) false t475 t479 (x484007_1 ++ [(⟨t488, t497, t498⟩ : S44)])) else (none))) = some (r1, r2, r3, r4, r5, r6, r7, r8, r9, r10, r11) := H
         have A107 := Aside0.mk A1070
         clear A1070
         by_cases c108 : t501 = true
         ·subst c108
          have H1 : (if x484007_1.length < 3518437208883 then (script_reader_step.l1 kj99 (wrap64 (x8_1 - 1)) t499 t500 true 2 (⟨#[]⟩ : ByteArray) (⟨#[]⟩ : ByteArray) false t475 t479 (x484007_1 ++ [(⟨t488, t497, t498⟩ : S44)])) else (none)) = some (r1, r2, r3, r4, r5, r6, r7, r8, r9, r10, r11) := by rw [if_pos rfl] at H; exact H
          clear H
          have H := H1
          clear H1
          by_cases c109 : x484007_1.length < 3518437208883
          ·rw [if_pos c109] at H
           have LMc109 := Aside0.mk c109
           clear c109
           obtain ⟨y502, hy502⟩ : ∃ y_ : List (S44), y_ = (x484007_1 ++ [(⟨t488, t497, t498⟩ : S44)]) := ⟨_, rfl⟩
           replace H : (script_reader_step.l1 kj99 (wrap64 (x8_1 - 1)) t499 t500 true 2 (⟨#[]⟩ : ByteArray) (⟨#[]⟩ : ByteArray) false t475 t479 y502) = some (r1, r2, r3, r4, r5, r6, r7, r8, r9, r10, r11) := by first | (rw [hy502]; with_reducible exact H) | (have H2_ := (Option.bind_some _ _).symm.trans H; rw [hy502]; with_reducible exact H2_) | (have H2_ := (Option.bind_some _ _).symm.trans H; with_reducible exact H2_) | with_reducible exact H | (rw [hy502]; exact H) | exact H
           have Ny502 := Aside0.mk hy502
           clear hy502
           have H' := Aside0.mk H
           clear H
           go_wp2_with (first | ((with_reducible refine gate_callee (f := 35) rfl ?_); refine goesL_ (some 89) rfl rfl Tryz.func35 (by kernel_rfl) rfl #[.pointer (some ⟨g, 0, none⟩)] rfl q3_ ?_; (with_reducible refine (script_reader_text.calls g x1000_1 x1001_1 x1002_1 t488 t489 t490 t491 w0 _ ?side1 ?side2 A104.out).mono ?_); (case side1 => repeat (first | (with_reducible first | exact HI0.out | apply IsS71.alloc | apply IsS71.drewN | apply IsS71.drew | apply IsS71.set_0 | apply IsS71.set_1 | apply IsS71.set_2 | (apply IsS71.far; rotate_left; exact NB0_433.out; rotate_right) | (apply IsS71.far; rotate_left; exact NB0_483.out; rotate_right)) | exact HI0.out)); (case side2 => repeat (first | (with_reducible first | exact HB.out | apply below_alloc | apply pw_below_drewN | apply below_drew1 | refine below_set ?_ (IsS71.ge HI0.out) | refine below_set ?_ GE433.out | refine below_set ?_ GE483.out) | exact HB.out)); rintro e w110 ⟨rfl, hi, hb, hk⟩; refine ⟨_, rfl, ?_⟩; have n0_ := Aside0.mk (Kd.R_mono (Kd.R_keep (IsS71.apart (show IsS71 w0 _ g x1000_1 x1001_1 x1002_1 from by repeat (first | (with_reducible first | exact HI0.out | apply IsS71.alloc | apply IsS71.drewN | apply IsS71.drew | apply IsS71.set_0 | apply IsS71.set_1 | apply IsS71.set_2 | (apply IsS71.far; rotate_left; exact NB0_433.out; rotate_right) | (apply IsS71.far; rotate_left; exact NB0_483.out; rotate_right)) | exact HI0.out)) q23_ (by decide)) hk (fun _ h => h.2)) (fun _ h => h.1)); have n1_ := Aside0.mk (KeepBut.blk hk (g' := gb433) (o := .cells #[.int .i64 0, .string (⟨#[]⟩ : ByteArray), .string (⟨#[]⟩ : ByteArray), .bool false, .slice none 0 0, .string (⟨#[]⟩ : ByteArray), .string (⟨#[]⟩ : ByteArray), .slice none 0 0] 29 (0, 0)) q1_ NB433_0.out (by simp)); have n2_ := Aside0.mk (KeepBut.blk hk (g' := gb483) (o := .cells #[.int .i64 2, .string (⟨#[]⟩ : ByteArray), .string (⟨#[]⟩ : ByteArray), .bool false, .slice none 0 0, .string t475, .string t479, u484007] 29 (0, 0)) q12_ NB483_0.out (by simp)); have n3_ := Aside0.mk (KeepBut.trans q5_ hk (.inl rfl)); have n4_ := Aside0.mk (hb); have n5_ := Aside0.mk (hi); clear HO_484007; clear BK433; clear BK483; clear HK; clear HB; clear HI0; have HO_484007 := n0_; have BK433 := n1_; have BK483 := n2_; have HK := n3_; have HB := n4_; have HI0 := n5_; clear n0_ n1_ n2_ n3_ n4_ n5_; (try clear hb); (try clear hb2); (try clear hk); (try clear hi)) | ((with_reducible refine gate_dst (N := 9) rfl ?_); (try (refine gate_guard (by rfl) ?_; dsimp only)); refine box_event ?hg (N := 9) ?hd (cs := #[.string (⟨#[]⟩ : ByteArray), .int .i64 0, .string (⟨#[]⟩ : ByteArray)]) (t := 44) ?hr ?_; (case hd => rfl); (case hg => rfl); (case hr => first | (go_simp; done) | (go_simp; rfl)); intro gb492 hg w111 hbox hb; have n0_ := Aside0.mk (Kd.R_below (Kd.R_elderB q23_ gb492 (Nat.le_of_eq hg.symm)) hb); have n1_ := Aside0.mk (blk_below (g := gb433) (o := .cells #[.int .i64 0, .string (⟨#[]⟩ : ByteArray), .string (⟨#[]⟩ : ByteArray), .bool false, .slice none 0 0, .string (⟨#[]⟩ : ByteArray), .string (⟨#[]⟩ : ByteArray), .slice none 0 0] 29 (0, 0)) q1_ hb); have n2_ := Aside0.mk (blk_below (g := gb483) (o := .cells #[.int .i64 2, .string (⟨#[]⟩ : ByteArray), .string (⟨#[]⟩ : ByteArray), .bool false, .slice none 0 0, .string t475, .string t479, u484007] 29 (0, 0)) q12_ hb); have n3_ := Aside0.mk (IsS71.below q15_ hb); have n4_ := Aside0.mk (KeepBut.trans q5_ (KeepBut.of_below hb g none) (.inl rfl)); have n5_ := Aside0.mk (below_step q20_ hb); have n6_ := Aside0.mk (hbox); have n7_ := Aside0.mk ((q50_ : w.heap.size ≤ gb492)); have n8_ := Aside0.mk ((Nat.le_trans HW0.out (q50_ : w.heap.size ≤ gb492) : w0.heap.size ≤ gb492)); have n9_ := Aside0.mk ((q13_ : gb433 ≠ gb492)); have n10_ := Aside0.mk ((q14_ : gb492 ≠ gb433)); have n11_ := Aside0.mk ((q48_ : gb483 ≠ gb492)); have n12_ := Aside0.mk ((q49_ : gb492 ≠ gb483)); have n13_ := Aside0.mk ((q41_ : g ≠ gb492)); have n14_ := Aside0.mk ((q42_ : gb492 ≠ g)); clear HO_484007; clear BK433; clear BK483; clear HI0; clear HK; clear HB; have HO_484007 := n0_; have BK433 := n1_; have BK483 := n2_; have HI0 := n3_; have HK := n4_; have HB := n5_; have BK492 := n6_; have GW492 := n7_; have GE492 := n8_; have NB433_492 := n9_; have NB492_433 := n10_; have NB483_492 := n11_; have NB492_483 := n12_; have NB0_492 := n13_; have NB492_0 := n14_; clear n0_ n1_ n2_ n3_ n4_ n5_ n6_ n7_ n8_ n9_ n10_ n11_ n12_ n13_ n14_; clear hb hbox hg; have hnb112 := NB492_433.out; have hnc112 := NB433_492.out; have hnb113 := NB492_483.out; have hnc113 := NB483_492.out; have hnb114 := NB492_0.out; have hnc114 := NB0_492.out; obtain ⟨hcz115_0, hcz115_1, hcz115_2, hfz115_0, hfz115_1, hfz115_2⟩ := cellsF3 BK492.out) | ((with_reducible refine gate_callee (f := 35) rfl ?_); refine goesL_ (some 92) rfl rfl Tryz.func35 (by kernel_rfl) rfl #[.pointer (some ⟨g, 0, none⟩)] rfl q3_ ?_; (with_reducible refine (script_reader_text.calls g t489 t490 t491 t493 t494 t495 t496 w0 _ ?side1 ?side2 A105.out).mono ?_); (case side1 => repeat (first | (with_reducible first | exact HI0.out | apply IsS71.alloc | apply IsS71.drewN | apply IsS71.drew | apply IsS71.set_0 | apply IsS71.set_1 | apply IsS71.set_2 | (apply IsS71.far; rotate_left; exact NB0_433.out; rotate_right) | (apply IsS71.far; rotate_left; exact NB0_483.out; rotate_right) | (apply IsS71.far; rotate_left; exact NB0_492.out; rotate_right)) | exact HI0.out)); (case side2 => repeat (first | (with_reducible first | exact HB.out | apply below_alloc | apply pw_below_drewN | apply below_drew1 | refine below_set ?_ (IsS71.ge HI0.out) | refine below_set ?_ GE433.out | refine below_set ?_ GE483.out | refine below_set ?_ GE492.out) | exact HB.out)); rintro e w116 ⟨rfl, hi, hb, hk⟩; refine ⟨_, rfl, ?_⟩; have n0_ := Aside0.mk (Kd.R_mono (Kd.R_keep (IsS71.apart (show IsS71 w0 _ g t489 t490 t491 from by repeat (first | (with_reducible first | exact HI0.out | apply IsS71.alloc | apply IsS71.drewN | apply IsS71.drew | apply IsS71.set_0 | apply IsS71.set_1 | apply IsS71.set_2 | (apply IsS71.far; rotate_left; exact NB0_433.out; rotate_right) | (apply IsS71.far; rotate_left; exact NB0_483.out; rotate_right) | (apply IsS71.far; rotate_left; exact NB0_492.out; rotate_right)) | exact HI0.out)) q40_ (by decide)) hk (fun _ h => h.2)) (fun _ h => h.1)); have n1_ := Aside0.mk (KeepBut.blk hk (g' := gb433) (o := .cells #[.int .i64 0, .string (⟨#[]⟩ : ByteArray), .string (⟨#[]⟩ : ByteArray), .bool false, .slice none 0 0, .string (⟨#[]⟩ : ByteArray), .string (⟨#[]⟩ : ByteArray), .slice none 0 0] 29 (0, 0)) q35_ NB433_0.out (by simp)); have n2_ := Aside0.mk (KeepBut.blk hk (g' := gb483) (o := .cells #[.int .i64 2, .string (⟨#[]⟩ : ByteArray), .string (⟨#[]⟩ : ByteArray), .bool false, .slice none 0 0, .string t475, .string t479, u484007] 29 (0, 0)) q36_ NB483_0.out (by simp)); have n3_ := Aside0.mk (KeepBut.blk hk (g' := gb492) (o := .cells #[.string t488, .int .i64 0, .string (⟨#[]⟩ : ByteArray)] 44 (0, 0)) q28_ NB492_0.out (by simp)); have n4_ := Aside0.mk (KeepBut.trans q4_ hk (.inl rfl)); have n5_ := Aside0.mk (hb); have n6_ := Aside0.mk (hi); clear HO_484007; clear BK433; clear BK483; clear BK492; clear HK; clear HB; clear HI0; have HO_484007 := n0_; have BK433 := n1_; have BK483 := n2_; have BK492 := n3_; have HK := n4_; have HB := n5_; have HI0 := n6_; clear n0_ n1_ n2_ n3_ n4_ n5_ n6_; (try clear hb); (try clear hb2); (try clear hk); (try clear hi)) | ((with_reducible refine gate_callee (f := 37) rfl ?_); refine goesL_ (some 94) rfl rfl Tryz.func37 (by kernel_rfl) rfl #[.string (⟨#[116, 110, 109]⟩ : ByteArray), .string t493] rfl q3_ ?_; (with_reducible refine (strings_Index.calls (⟨#[116, 110, 109]⟩ : ByteArray) t493 t497 _ A106.out).mono ?_); rintro e w117 ⟨rfl, hb⟩; refine ⟨_, rfl, ?_⟩; have n0_ := Aside0.mk (Kd.R_below q23_ hb); have n1_ := Aside0.mk (blk_below (g := gb433) (o := .cells #[.int .i64 0, .string (⟨#[]⟩ : ByteArray), .string (⟨#[]⟩ : ByteArray), .bool false, .slice none 0 0, .string (⟨#[]⟩ : ByteArray), .string (⟨#[]⟩ : ByteArray), .slice none 0 0] 29 (0, 0)) q1_ hb); have n2_ := Aside0.mk (blk_below (g := gb483) (o := .cells #[.int .i64 2, .string (⟨#[]⟩ : ByteArray), .string (⟨#[]⟩ : ByteArray), .bool false, .slice none 0 0, .string t475, .string t479, u484007] 29 (0, 0)) q12_ hb); have n3_ := Aside0.mk (IsS71.below q9_ hb); have n4_ := Aside0.mk (blk_below (g := gb492) (o := .cells #[.string t488, .int .i64 0, .string (⟨#[]⟩ : ByteArray)] 44 (0, 0)) q44_ hb); have n5_ := Aside0.mk (KeepBut.trans q4_ (KeepBut.of_below hb g none) (.inl rfl)); have n6_ := Aside0.mk (below_step q17_ hb); clear HO_484007; clear BK433; clear BK483; clear HI0; clear BK492; clear HK; clear HB; have HO_484007 := n0_; have BK433 := n1_; have BK483 := n2_; have HI0 := n3_; have BK492 := n4_; have HK := n5_; have HB := n6_; clear n0_ n1_ n2_ n3_ n4_ n5_ n6_; (try clear hb); (try clear hb2); (try clear hk); (try clear hi)) | ((with_reducible refine gate_callee (f := 35) rfl ?_); refine goesL_ (some 96) rfl rfl Tryz.func35 (by kernel_rfl) rfl #[.pointer (some ⟨g, 0, none⟩)] rfl q3_ ?_; (with_reducible refine (script_reader_text.calls g t494 t495 t496 t498 t499 t500 true w0 _ ?side1 ?side2 A107.out).mono ?_); (case side1 => repeat (first | (with_reducible first | exact HI0.out | apply IsS71.alloc | apply IsS71.drewN | apply IsS71.drew | apply IsS71.set_0 | apply IsS71.set_1 | apply IsS71.set_2 | (apply IsS71.far; rotate_left; exact NB0_433.out; rotate_right) | (apply IsS71.far; rotate_left; exact NB0_483.out; rotate_right) | (apply IsS71.far; rotate_left; exact NB0_492.out; rotate_right)) | exact HI0.out)); (case side2 => repeat (first | (with_reducible first | exact HB.out | apply below_alloc | apply pw_below_drewN | apply below_drew1 | refine below_set ?_ (IsS71.ge HI0.out) | refine below_set ?_ GE433.out | refine below_set ?_ GE483.out | refine below_set ?_ GE492.out) | exact HB.out)); rintro e w118 ⟨rfl, hi, hb, hk⟩; refine ⟨_, rfl, ?_⟩; have n0_ := Aside0.mk (Kd.R_mono (Kd.R_keep (IsS71.apart (show IsS71 w0 _ g t494 t495 t496 from by repeat (first | (with_reducible first | exact HI0.out | apply IsS71.alloc | apply IsS71.drewN | apply IsS71.drew | apply IsS71.set_0 | apply IsS71.set_1 | apply IsS71.set_2 | (apply IsS71.far; rotate_left; exact NB0_433.out; rotate_right) | (apply IsS71.far; rotate_left; exact NB0_483.out; rotate_right) | (apply IsS71.far; rotate_left; exact NB0_492.out; rotate_right)) | exact HI0.out)) q23_ (by decide)) hk (fun _ h => h.2)) (fun _ h => h.1)); have n1_ := Aside0.mk (KeepBut.blk hk (g' := gb433) (o := .cells #[.int .i64 0, .string (⟨#[]⟩ : ByteArray), .string (⟨#[]⟩ : ByteArray), .bool false, .slice none 0 0, .string (⟨#[]⟩ : ByteArray), .string (⟨#[]⟩ : ByteArray), .slice none 0 0] 29 (0, 0)) q1_ NB433_0.out (by simp)); have n2_ := Aside0.mk (KeepBut.blk hk (g' := gb483) (o := .cells #[.int .i64 2, .string (⟨#[]⟩ : ByteArray), .string (⟨#[]⟩ : ByteArray), .bool false, .slice none 0 0, .string t475, .string t479, u484007] 29 (0, 0)) q12_ NB483_0.out (by simp)); have n3_ := Aside0.mk (KeepBut.blk hk (g' := gb492) (o := .cells #[.string t488, .int .i64 0, .string (⟨#[]⟩ : ByteArray)] 44 (0, 0)) q44_ NB492_0.out (by simp)); have n4_ := Aside0.mk (KeepBut.trans q4_ hk (.inl rfl)); have n5_ := Aside0.mk (hb); have n6_ := Aside0.mk (hi); clear HO_484007; clear BK433; clear BK483; clear BK492; clear HK; clear HB; clear HI0; have HO_484007 := n0_; have BK433 := n1_; have BK483 := n2_; have BK492 := n3_; have HK := n4_; have HB := n5_; have HI0 := n6_; clear n0_ n1_ n2_ n3_ n4_ n5_ n6_; (try clear hb); (try clear hb2); (try clear hk); (try clear hi); obtain ⟨hcz119_0, hcz119_1, hcz119_2, hfz119_0, hfz119_1, hfz119_2⟩ := cellsF3 BK492.out; obtain ⟨HGz120, hgz120⟩ := HI0.out; have hcz120_0 := cellS71_0 HGz120; have hcz120_1 := cellS71_1 HGz120; have hcz120_2 := cellS71_2 HGz120; have hfz120_0 := blk_frozen HGz120 0; have hfz120_1 := blk_frozen HGz120 1; have hfz120_2 := blk_frozen HGz120 2; clear HGz120 hgz120; have hnb121 := NB483_433.out; have hnc121 := NB433_483.out; have hnb122 := NB483_0.out; have hnc122 := NB0_483.out; obtain ⟨hcz123_0, hcz123_1, hcz123_2, hcz123_3, hcz123_4, hcz123_5, hcz123_6, hcz123_7, hfz123_0, hfz123_1, hfz123_2, hfz123_3, hfz123_4, hfz123_5, hfz123_6, hfz123_7⟩ := cellsF8 BK483.out) | ((with_reducible refine gate_builtin (b := .append) (xs := #[.tmp 112, .tmp 114]) rfl ?_); (try (refine gate_guard (by rfl) ?_; dsimp only)); at_builtin; refine Kd.R_append k44 w.heap.size rfl (.tmp 112) (.tmp 114) 27 44 (.agg #[(.string ⟨#[]⟩), (.int .i64 0), (.string ⟨#[]⟩)]) 40 rfl Tryz.underlying27 info44 rfl (by decide) (by omega) u484007 x484007_1 (⟨t488, t497, t498⟩ : S44) [.string t488, .int .i64 t497, .string t498] (fun k_ => k_ ≠ gb492) (fun _ => False) rfl (by first | (go_simp; done) | (go_simp; rfl)) ?aP (fun _ hk => hk.elim) ?aF ?aO (Below.refl _ _) ?aS ?aL ?_; (case aP => exact k44_mkM _ _ _ (⟨t488, t497, t498⟩ : S44)); (case aF => exact (fun k_ hk => Kd.freshB (g := gb492) (o := .cells #[.string t488, .int .i64 t497, .string t498] 44 (0, 0)) q8_ k_ hk)); (case aO => exact (by (with_reducible repeat (first | apply Kd.R_alloc | apply Kd.R_drewN | apply Kd.R_drew)); exact Kd.R_mono (Kd.R_far (p := ⟨g, 2, none⟩) (Kd.R_far (p := ⟨gb492, 2, none⟩) (Kd.R_far (p := ⟨gb492, 1, none⟩) (IsS71.apart HI0.out (Kd.R_mono HO_484007.out (fun k_ hk => (⟨hk, hk.2⟩ : _ ∧ k_ ≠ gb492))) (by decide)) (fun _ hk => hk.1.2) (.int .i64 t497)) (fun _ hk => hk.1.2) (.string t498)) (fun _ hk => hk.2) (.bool true)) (fun _ hk => hk.1.1.2))); (case aS => exact (keep_size (w := w) (g := g) (row := none) q4_)); (case aL => have := LMc109.out; omega); intro v503 w124 ho hb hg hat; rw [← Ny502.out] at ho; have n0_ := Aside0.mk (blk_grown (g := gb433) (o := .cells #[.int .i64 0, .string (⟨#[]⟩ : ByteArray), .string (⟨#[]⟩ : ByteArray), .bool false, .slice none 0 0, .string (⟨#[]⟩ : ByteArray), .string (⟨#[]⟩ : ByteArray), .slice none 0 0] 29 (0, 0)) q37_ hg (Kd.R_ne HO_484007.out BK433.out (by decide))); have n1_ := Aside0.mk (blk_grown (g := gb483) (o := .cells #[.int .i64 2, .string (⟨#[]⟩ : ByteArray), .string (⟨#[]⟩ : ByteArray), .bool false, .slice none 0 0, .string t475, .string t479, u484007] 29 (0, 0)) q38_ hg (Kd.R_ne HO_484007.out BK483.out (by decide))); have n2_ := Aside0.mk (IsS71.grown q9_ hg (IsS71.own_ne HI0.out HO_484007.out (by decide))); have n3_ := Aside0.mk (blk_grown (g := gb492) (o := .cells #[.string t488, .int .i64 t497, .string t498] 44 (0, 0)) q8_ hg (Kd.R_away HO_484007.out (fun _ hk => hk.2))); have n4_ := Aside0.mk (below_weaken q17_ HL.out hb); have n5_ := Aside0.mk (KeepBut.trans q4_ (KeepBut.of_grown hg g) (Kd.R_base2 HO_484007.out)); have n6_ := Aside0.mk (ho); clear BK433; clear BK483; clear HI0; clear BK492; clear HB; clear HK; clear HO_484007; have BK433 := n0_; have BK483 := n1_; have HI0 := n2_; have BK492 := n3_; have HB := n4_; have HK := n5_; have HO504 := n6_; clear n0_ n1_ n2_ n3_ n4_ n5_ n6_; clear ho hb hg hat; obtain ⟨Ao125, co125, eo125⟩ := Kd.R_slice HO504.out; subst eo125; obtain ⟨hcz126_0, hcz126_1, hcz126_2, hcz126_3, hcz126_4, hcz126_5, hcz126_6, hcz126_7, hfz126_0, hfz126_1, hfz126_2, hfz126_3, hfz126_4, hfz126_5, hfz126_6, hfz126_7⟩ := cellsF8 BK483.out))
           go_roundg kj99
           case measure => have := HK1.out; have := HJ99.out; omega
           case rel => exact ⟨(wrap64 (x8_1 - 1)), (t499), (t500), (true), (y502), (.slice Ao125 y502.length co125), q45_, H', ⟨(by have := HK1.out; have := HJ99.out; omega)⟩, ⟨(by (with_reducible repeat (first | apply Kd.R_alloc | apply Kd.R_drewN | apply Kd.R_drew)); exact Kd.R_mono (Kd.R_far (p := ⟨gb483, 7, none⟩) (Kd.R_types HO504.out BK483.out (by decide)) (fun _ hk => hk.2) (.slice Ao125 y502.length co125)) (fun _ hk => trivial))⟩, ⟨q46_⟩, ⟨q43_⟩, ⟨q9_⟩, ⟨q4_⟩, ⟨q17_⟩⟩
          ·rw [if_neg c109] at H
           exact absurd H (by simp)
         ·replace c108 := Bool.eq_false_iff.mpr c108
          subst c108
          have H1 : (if x484007_1.length < 3518437208883 then (script_reader_step.l1 kj99 (wrap64 (x8_1 - 1)) t499 t500 ((t493.size : Int) != 1) 2 (⟨#[]⟩ : ByteArray) (⟨#[]⟩ : ByteArray) false t475 t479 (x484007_1 ++ [(⟨t488, t497, t498⟩ : S44)])) else (none)) = some (r1, r2, r3, r4, r5, r6, r7, r8, r9, r10, r11) := by rw [if_neg (show ¬ (false = true) by decide)] at H; exact H
          clear H
          have H := H1
          clear H1
          by_cases c127 : x484007_1.length < 3518437208883
          ·rw [if_pos c127] at H
           have LMc127 := Aside0.mk c127
           clear c127
           obtain ⟨y505, hy505⟩ : ∃ y_ : List (S44), y_ = (x484007_1 ++ [(⟨t488, t497, t498⟩ : S44)]) := ⟨_, rfl⟩
           replace H : (script_reader_step.l1 kj99 (wrap64 (x8_1 - 1)) t499 t500 ((t493.size : Int) != 1) 2 (⟨#[]⟩ : ByteArray) (⟨#[]⟩ : ByteArray) false t475 t479 y505) = some (r1, r2, r3, r4, r5, r6, r7, r8, r9, r10, r11) := by first | (rw [hy505]; with_reducible exact H) | (have H2_ := (Option.bind_some _ _).symm.trans H; rw [hy505]; with_reducible exact H2_) | (have H2_ := (Option.bind_some _ _).symm.trans H; with_reducible exact H2_) | with_reducible exact H | (rw [hy505]; exact H) | exact H
           have Ny505 := Aside0.mk hy505
           clear hy505
           have H' := Aside0.mk H
           clear H
           go_wp2_with (first | ((with_reducible refine gate_callee (f := 35) rfl ?_); refine goesL_ (some 89) rfl rfl Tryz.func35 (by kernel_rfl) rfl #[.pointer (some ⟨g, 0, none⟩)] rfl q3_ ?_; (with_reducible refine (script_reader_text.calls g x1000_1 x1001_1 x1002_1 t488 t489 t490 t491 w0 _ ?side1 ?side2 A104.out).mono ?_); (case side1 => repeat (first | (with_reducible first | exact HI0.out | apply IsS71.alloc | apply IsS71.drewN | apply IsS71.drew | apply IsS71.set_0 | apply IsS71.set_1 | apply IsS71.set_2 | (apply IsS71.far; rotate_left; exact NB0_433.out; rotate_right) | (apply IsS71.far; rotate_left; exact NB0_483.out; rotate_right)) | exact HI0.out)); (case side2 => repeat (first | (with_reducible first | exact HB.out | apply below_alloc | apply pw_below_drewN | apply below_drew1 | refine below_set ?_ (IsS71.ge HI0.out) | refine below_set ?_ GE433.out | refine below_set ?_ GE483.out) | exact HB.out)); rintro e w128 ⟨rfl, hi, hb, hk⟩; refine ⟨_, rfl, ?_⟩; have n0_ := Aside0.mk (Kd.R_mono (Kd.R_keep (IsS71.apart (show IsS71 w0 _ g x1000_1 x1001_1 x1002_1 from by repeat (first | (with_reducible first | exact HI0.out | apply IsS71.alloc | apply IsS71.drewN | apply IsS71.drew | apply IsS71.set_0 | apply IsS71.set_1 | apply IsS71.set_2 | (apply IsS71.far; rotate_left; exact NB0_433.out; rotate_right) | (apply IsS71.far; rotate_left; exact NB0_483.out; rotate_right)) | exact HI0.out)) q23_ (by decide)) hk (fun _ h => h.2)) (fun _ h => h.1)); have n1_ := Aside0.mk (KeepBut.blk hk (g' := gb433) (o := .cells #[.int .i64 0, .string (⟨#[]⟩ : ByteArray), .string (⟨#[]⟩ : ByteArray), .bool false, .slice none 0 0, .string (⟨#[]⟩ : ByteArray), .string (⟨#[]⟩ : ByteArray), .slice none 0 0] 29 (0, 0)) q1_ NB433_0.out (by simp)); have n2_ := Aside0.mk (KeepBut.blk hk (g' := gb483) (o := .cells #[.int .i64 2, .string (⟨#[]⟩ : ByteArray), .string (⟨#[]⟩ : ByteArray), .bool false, .slice none 0 0, .string t475, .string t479, u484007] 29 (0, 0)) q12_ NB483_0.out (by simp)); have n3_ := Aside0.mk (KeepBut.trans q5_ hk (.inl rfl)); have n4_ := Aside0.mk (hb); have n5_ := Aside0.mk (hi); clear HO_484007; clear BK433; clear BK483; clear HK; clear HB; clear HI0; have HO_484007 := n0_; have BK433 := n1_; have BK483 := n2_; have HK := n3_; have HB := n4_; have HI0 := n5_; clear n0_ n1_ n2_ n3_ n4_ n5_; (try clear hb); (try clear hb2); (try clear hk); (try clear hi)) | ((with_reducible refine gate_dst (N := 9) rfl ?_); (try (refine gate_guard (by rfl) ?_; dsimp only)); refine box_event ?hg (N := 9) ?hd (cs := #[.string (⟨#[]⟩ : ByteArray), .int .i64 0, .string (⟨#[]⟩ : ByteArray)]) (t := 44) ?hr ?_; (case hd => rfl); (case hg => rfl); (case hr => first | (go_simp; done) | (go_simp; rfl)); intro gb492 hg w129 hbox hb; have n0_ := Aside0.mk (Kd.R_below (Kd.R_elderB q23_ gb492 (Nat.le_of_eq hg.symm)) hb); have n1_ := Aside0.mk (blk_below (g := gb433) (o := .cells #[.int .i64 0, .string (⟨#[]⟩ : ByteArray), .string (⟨#[]⟩ : ByteArray), .bool false, .slice none 0 0, .string (⟨#[]⟩ : ByteArray), .string (⟨#[]⟩ : ByteArray), .slice none 0 0] 29 (0, 0)) q1_ hb); have n2_ := Aside0.mk (blk_below (g := gb483) (o := .cells #[.int .i64 2, .string (⟨#[]⟩ : ByteArray), .string (⟨#[]⟩ : ByteArray), .bool false, .slice none 0 0, .string t475, .string t479, u484007] 29 (0, 0)) q12_ hb); have n3_ := Aside0.mk (IsS71.below q15_ hb); have n4_ := Aside0.mk (KeepBut.trans q5_ (KeepBut.of_below hb g none) (.inl rfl)); have n5_ := Aside0.mk (below_step q20_ hb); have n6_ := Aside0.mk (hbox); have n7_ := Aside0.mk ((q50_ : w.heap.size ≤ gb492)); have n8_ := Aside0.mk ((Nat.le_trans HW0.out (q50_ : w.heap.size ≤ gb492) : w0.heap.size ≤ gb492)); have n9_ := Aside0.mk ((q13_ : gb433 ≠ gb492)); have n10_ := Aside0.mk ((q14_ : gb492 ≠ gb433)); have n11_ := Aside0.mk ((q48_ : gb483 ≠ gb492)); have n12_ := Aside0.mk ((q49_ : gb492 ≠ gb483)); have n13_ := Aside0.mk ((q41_ : g ≠ gb492)); have n14_ := Aside0.mk ((q42_ : gb492 ≠ g)); clear HO_484007; clear BK433; clear BK483; clear HI0; clear HK; clear HB; have HO_484007 := n0_; have BK433 := n1_; have BK483 := n2_; have HI0 := n3_; have HK := n4_; have HB := n5_; have BK492 := n6_; have GW492 := n7_; have GE492 := n8_; have NB433_492 := n9_; have NB492_433 := n10_; have NB483_492 := n11_; have NB492_483 := n12_; have NB0_492 := n13_; have NB492_0 := n14_; clear n0_ n1_ n2_ n3_ n4_ n5_ n6_ n7_ n8_ n9_ n10_ n11_ n12_ n13_ n14_; clear hb hbox hg; have hnb130 := NB492_433.out; have hnc130 := NB433_492.out; have hnb131 := NB492_483.out; have hnc131 := NB483_492.out; have hnb132 := NB492_0.out; have hnc132 := NB0_492.out; obtain ⟨hcz133_0, hcz133_1, hcz133_2, hfz133_0, hfz133_1, hfz133_2⟩ := cellsF3 BK492.out) | ((with_reducible refine gate_callee (f := 35) rfl ?_); refine goesL_ (some 92) rfl rfl Tryz.func35 (by kernel_rfl) rfl #[.pointer (some ⟨g, 0, none⟩)] rfl q3_ ?_; (with_reducible refine (script_reader_text.calls g t489 t490 t491 t493 t494 t495 t496 w0 _ ?side1 ?side2 A105.out).mono ?_); (case side1 => repeat (first | (with_reducible first | exact HI0.out | apply IsS71.alloc | apply IsS71.drewN | apply IsS71.drew | apply IsS71.set_0 | apply IsS71.set_1 | apply IsS71.set_2 | (apply IsS71.far; rotate_left; exact NB0_433.out; rotate_right) | (apply IsS71.far; rotate_left; exact NB0_483.out; rotate_right) | (apply IsS71.far; rotate_left; exact NB0_492.out; rotate_right)) | exact HI0.out)); (case side2 => repeat (first | (with_reducible first | exact HB.out | apply below_alloc | apply pw_below_drewN | apply below_drew1 | refine below_set ?_ (IsS71.ge HI0.out) | refine below_set ?_ GE433.out | refine below_set ?_ GE483.out | refine below_set ?_ GE492.out) | exact HB.out)); rintro e w134 ⟨rfl, hi, hb, hk⟩; refine ⟨_, rfl, ?_⟩; have n0_ := Aside0.mk (Kd.R_mono (Kd.R_keep (IsS71.apart (show IsS71 w0 _ g t489 t490 t491 from by repeat (first | (with_reducible first | exact HI0.out | apply IsS71.alloc | apply IsS71.drewN | apply IsS71.drew | apply IsS71.set_0 | apply IsS71.set_1 | apply IsS71.set_2 | (apply IsS71.far; rotate_left; exact NB0_433.out; rotate_right) | (apply IsS71.far; rotate_left; exact NB0_483.out; rotate_right) | (apply IsS71.far; rotate_left; exact NB0_492.out; rotate_right)) | exact HI0.out)) q40_ (by decide)) hk (fun _ h => h.2)) (fun _ h => h.1)); have n1_ := Aside0.mk (KeepBut.blk hk (g' := gb433) (o := .cells #[.int .i64 0, .string (⟨#[]⟩ : ByteArray), .string (⟨#[]⟩ : ByteArray), .bool false, .slice none 0 0, .string (⟨#[]⟩ : ByteArray), .string (⟨#[]⟩ : ByteArray), .slice none 0 0] 29 (0, 0)) q35_ NB433_0.out (by simp)); have n2_ := Aside0.mk (KeepBut.blk hk (g' := gb483) (o := .cells #[.int .i64 2, .string (⟨#[]⟩ : ByteArray), .string (⟨#[]⟩ : ByteArray), .bool false, .slice none 0 0, .string t475, .string t479, u484007] 29 (0, 0)) q36_ NB483_0.out (by simp)); have n3_ := Aside0.mk (KeepBut.blk hk (g' := gb492) (o := .cells #[.string t488, .int .i64 0, .string (⟨#[]⟩ : ByteArray)] 44 (0, 0)) q28_ NB492_0.out (by simp)); have n4_ := Aside0.mk (KeepBut.trans q4_ hk (.inl rfl)); have n5_ := Aside0.mk (hb); have n6_ := Aside0.mk (hi); clear HO_484007; clear BK433; clear BK483; clear BK492; clear HK; clear HB; clear HI0; have HO_484007 := n0_; have BK433 := n1_; have BK483 := n2_; have BK492 := n3_; have HK := n4_; have HB := n5_; have HI0 := n6_; clear n0_ n1_ n2_ n3_ n4_ n5_ n6_; (try clear hb); (try clear hb2); (try clear hk); (try clear hi)) | ((with_reducible refine gate_callee (f := 37) rfl ?_); refine goesL_ (some 94) rfl rfl Tryz.func37 (by kernel_rfl) rfl #[.string (⟨#[116, 110, 109]⟩ : ByteArray), .string t493] rfl q3_ ?_; (with_reducible refine (strings_Index.calls (⟨#[116, 110, 109]⟩ : ByteArray) t493 t497 _ A106.out).mono ?_); rintro e w135 ⟨rfl, hb⟩; refine ⟨_, rfl, ?_⟩; have n0_ := Aside0.mk (Kd.R_below q23_ hb); have n1_ := Aside0.mk (blk_below (g := gb433) (o := .cells #[.int .i64 0, .string (⟨#[]⟩ : ByteArray), .string (⟨#[]⟩ : ByteArray), .bool false, .slice none 0 0, .string (⟨#[]⟩ : ByteArray), .string (⟨#[]⟩ : ByteArray), .slice none 0 0] 29 (0, 0)) q1_ hb); have n2_ := Aside0.mk (blk_below (g := gb483) (o := .cells #[.int .i64 2, .string (⟨#[]⟩ : ByteArray), .string (⟨#[]⟩ : ByteArray), .bool false, .slice none 0 0, .string t475, .string t479, u484007] 29 (0, 0)) q12_ hb); have n3_ := Aside0.mk (IsS71.below q9_ hb); have n4_ := Aside0.mk (blk_below (g := gb492) (o := .cells #[.string t488, .int .i64 0, .string (⟨#[]⟩ : ByteArray)] 44 (0, 0)) q44_ hb); have n5_ := Aside0.mk (KeepBut.trans q4_ (KeepBut.of_below hb g none) (.inl rfl)); have n6_ := Aside0.mk (below_step q17_ hb); clear HO_484007; clear BK433; clear BK483; clear HI0; clear BK492; clear HK; clear HB; have HO_484007 := n0_; have BK433 := n1_; have BK483 := n2_; have HI0 := n3_; have BK492 := n4_; have HK := n5_; have HB := n6_; clear n0_ n1_ n2_ n3_ n4_ n5_ n6_; (try clear hb); (try clear hb2); (try clear hk); (try clear hi)) | ((with_reducible refine gate_callee (f := 35) rfl ?_); refine goesL_ (some 96) rfl rfl Tryz.func35 (by kernel_rfl) rfl #[.pointer (some ⟨g, 0, none⟩)] rfl q3_ ?_; (with_reducible refine (script_reader_text.calls g t494 t495 t496 t498 t499 t500 false w0 _ ?side1 ?side2 A107.out).mono ?_); (case side1 => repeat (first | (with_reducible first | exact HI0.out | apply IsS71.alloc | apply IsS71.drewN | apply IsS71.drew | apply IsS71.set_0 | apply IsS71.set_1 | apply IsS71.set_2 | (apply IsS71.far; rotate_left; exact NB0_433.out; rotate_right) | (apply IsS71.far; rotate_left; exact NB0_483.out; rotate_right) | (apply IsS71.far; rotate_left; exact NB0_492.out; rotate_right)) | exact HI0.out)); (case side2 => repeat (first | (with_reducible first | exact HB.out | apply below_alloc | apply pw_below_drewN | apply below_drew1 | refine below_set ?_ (IsS71.ge HI0.out) | refine below_set ?_ GE433.out | refine below_set ?_ GE483.out | refine below_set ?_ GE492.out) | exact HB.out)); rintro e w136 ⟨rfl, hi, hb, hk⟩; refine ⟨_, rfl, ?_⟩; have n0_ := Aside0.mk (Kd.R_mono (Kd.R_keep (IsS71.apart (show IsS71 w0 _ g t494 t495 t496 from by repeat (first | (with_reducible first | exact HI0.out | apply IsS71.alloc | apply IsS71.drewN | apply IsS71.drew | apply IsS71.set_0 | apply IsS71.set_1 | apply IsS71.set_2 | (apply IsS71.far; rotate_left; exact NB0_433.out; rotate_right) | (apply IsS71.far; rotate_left; exact NB0_483.out; rotate_right) | (apply IsS71.far; rotate_left; exact NB0_492.out; rotate_right)) | exact HI0.out)) q23_ (by decide)) hk (fun _ h => h.2)) (fun _ h => h.1)); have n1_ := Aside0.mk (KeepBut.blk hk (g' := gb433) (o := .cells #[.int .i64 0, .string (⟨#[]⟩ : ByteArray), .string (⟨#[]⟩ : ByteArray), .bool false, .slice none 0 0, .string (⟨#[]⟩ : ByteArray), .string (⟨#[]⟩ : ByteArray), .slice none 0 0] 29 (0, 0)) q1_ NB433_0.out (by simp)); have n2_ := Aside0.mk (KeepBut.blk hk (g' := gb483) (o := .cells #[.int .i64 2, .string (⟨#[]⟩ : ByteArray), .string (⟨#[]⟩ : ByteArray), .bool false, .slice none 0 0, .string t475, .string t479, u484007] 29 (0, 0)) q12_ NB483_0.out (by simp)); have n3_ := Aside0.mk (KeepBut.blk hk (g' := gb492) (o := .cells #[.string t488, .int .i64 0, .string (⟨#[]⟩ : ByteArray)] 44 (0, 0)) q44_ NB492_0.out (by simp)); have n4_ := Aside0.mk (KeepBut.trans q4_ hk (.inl rfl)); have n5_ := Aside0.mk (hb); have n6_ := Aside0.mk (hi); clear HO_484007; clear BK433; clear BK483; clear BK492; clear HK; clear HB; clear HI0; have HO_484007 := n0_; have BK433 := n1_; have BK483 := n2_; have BK492 := n3_; have HK := n4_; have HB := n5_; have HI0 := n6_; clear n0_ n1_ n2_ n3_ n4_ n5_ n6_; (try clear hb); (try clear hb2); (try clear hk); (try clear hi); obtain ⟨hcz137_0, hcz137_1, hcz137_2, hfz137_0, hfz137_1, hfz137_2⟩ := cellsF3 BK492.out; obtain ⟨HGz138, hgz138⟩ := HI0.out; have hcz138_0 := cellS71_0 HGz138; have hcz138_1 := cellS71_1 HGz138; have hcz138_2 := cellS71_2 HGz138; have hfz138_0 := blk_frozen HGz138 0; have hfz138_1 := blk_frozen HGz138 1; have hfz138_2 := blk_frozen HGz138 2; clear HGz138 hgz138; have hnb139 := NB483_433.out; have hnc139 := NB433_483.out; have hnb140 := NB483_0.out; have hnc140 := NB0_483.out; obtain ⟨hcz141_0, hcz141_1, hcz141_2, hcz141_3, hcz141_4, hcz141_5, hcz141_6, hcz141_7, hfz141_0, hfz141_1, hfz141_2, hfz141_3, hfz141_4, hfz141_5, hfz141_6, hfz141_7⟩ := cellsF8 BK483.out) | ((with_reducible refine gate_builtin (b := .append) (xs := #[.tmp 112, .tmp 114]) rfl ?_); (try (refine gate_guard (by rfl) ?_; dsimp only)); at_builtin; refine Kd.R_append k44 w.heap.size rfl (.tmp 112) (.tmp 114) 27 44 (.agg #[(.string ⟨#[]⟩), (.int .i64 0), (.string ⟨#[]⟩)]) 40 rfl Tryz.underlying27 info44 rfl (by decide) (by omega) u484007 x484007_1 (⟨t488, t497, t498⟩ : S44) [.string t488, .int .i64 t497, .string t498] (fun k_ => k_ ≠ gb492) (fun _ => False) rfl (by first | (go_simp; done) | (go_simp; rfl)) ?aP (fun _ hk => hk.elim) ?aF ?aO (Below.refl _ _) ?aS ?aL ?_; (case aP => exact k44_mkM _ _ _ (⟨t488, t497, t498⟩ : S44)); (case aF => exact (fun k_ hk => Kd.freshB (g := gb492) (o := .cells #[.string t488, .int .i64 t497, .string t498] 44 (0, 0)) q8_ k_ hk)); (case aO => exact (by (with_reducible repeat (first | apply Kd.R_alloc | apply Kd.R_drewN | apply Kd.R_drew)); exact Kd.R_mono (Kd.R_far (p := ⟨g, 2, none⟩) (Kd.R_far (p := ⟨gb492, 2, none⟩) (Kd.R_far (p := ⟨gb492, 1, none⟩) (IsS71.apart HI0.out (Kd.R_mono HO_484007.out (fun k_ hk => (⟨hk, hk.2⟩ : _ ∧ k_ ≠ gb492))) (by decide)) (fun _ hk => hk.1.2) (.int .i64 t497)) (fun _ hk => hk.1.2) (.string t498)) (fun _ hk => hk.2) (.bool ((t493.size : Int) != 1))) (fun _ hk => hk.1.1.2))); (case aS => exact (keep_size (w := w) (g := g) (row := none) q4_)); (case aL => have := LMc127.out; omega); intro v506 w142 ho hb hg hat; rw [← Ny505.out] at ho; have n0_ := Aside0.mk (blk_grown (g := gb433) (o := .cells #[.int .i64 0, .string (⟨#[]⟩ : ByteArray), .string (⟨#[]⟩ : ByteArray), .bool false, .slice none 0 0, .string (⟨#[]⟩ : ByteArray), .string (⟨#[]⟩ : ByteArray), .slice none 0 0] 29 (0, 0)) q37_ hg (Kd.R_ne HO_484007.out BK433.out (by decide))); have n1_ := Aside0.mk (blk_grown (g := gb483) (o := .cells #[.int .i64 2, .string (⟨#[]⟩ : ByteArray), .string (⟨#[]⟩ : ByteArray), .bool false, .slice none 0 0, .string t475, .string t479, u484007] 29 (0, 0)) q38_ hg (Kd.R_ne HO_484007.out BK483.out (by decide))); have n2_ := Aside0.mk (IsS71.grown q9_ hg (IsS71.own_ne HI0.out HO_484007.out (by decide))); have n3_ := Aside0.mk (blk_grown (g := gb492) (o := .cells #[.string t488, .int .i64 t497, .string t498] 44 (0, 0)) q8_ hg (Kd.R_away HO_484007.out (fun _ hk => hk.2))); have n4_ := Aside0.mk (below_weaken q17_ HL.out hb); have n5_ := Aside0.mk (KeepBut.trans q4_ (KeepBut.of_grown hg g) (Kd.R_base2 HO_484007.out)); have n6_ := Aside0.mk (ho); clear BK433; clear BK483; clear HI0; clear BK492; clear HB; clear HK; clear HO_484007; have BK433 := n0_; have BK483 := n1_; have HI0 := n2_; have BK492 := n3_; have HB := n4_; have HK := n5_; have HO507 := n6_; clear n0_ n1_ n2_ n3_ n4_ n5_ n6_; clear ho hb hg hat; obtain ⟨Ao143, co143, eo143⟩ := Kd.R_slice HO507.out; subst eo143; obtain ⟨hcz144_0, hcz144_1, hcz144_2, hcz144_3, hcz144_4, hcz144_5, hcz144_6, hcz144_7, hfz144_0, hfz144_1, hfz144_2, hfz144_3, hfz144_4, hfz144_5, hfz144_6, hfz144_7⟩ := cellsF8 BK483.out))
           go_roundg kj99
           case measure => have := HK1.out; have := HJ99.out; omega
           case rel => exact ⟨(wrap64 (x8_1 - 1)), (t499), (t500), (((t493.size : Int) != 1)), (y505), (.slice Ao143 y505.length co143), q45_, H', ⟨(by have := HK1.out; have := HJ99.out; omega)⟩, ⟨(by (with_reducible repeat (first | apply Kd.R_alloc | apply Kd.R_drewN | apply Kd.R_drew)); exact Kd.R_mono (Kd.R_far (p := ⟨gb483, 7, none⟩) (Kd.R_types HO507.out BK483.out (by decide)) (fun _ hk => hk.2) (.slice Ao143 y505.length co143)) (fun _ hk => trivial))⟩, ⟨q46_⟩, ⟨q43_⟩, ⟨q9_⟩, ⟨q4_⟩, ⟨q17_⟩⟩
          ·rw [if_neg c127] at H
           exact absurd H (by simp)
        ·replace c103 := Bool.eq_false_iff.mpr c103
         subst c103
         have H1 : (some (2, (⟨#[]⟩ : ByteArray), (⟨#[]⟩ : ByteArray), false, ([] : List ByteArray), t475, t479, x484007_1, x1000_1, x1001_1, x1002_1)) = some (r1, r2, r3, r4, r5, r6, r7, r8, r9, r10, r11) := by rw [if_neg (show ¬ (false = true) by decide)] at H; exact H
         clear H
         have H := H1
         clear H1
         simp only [Option.some.injEq, Prod.mk.injEq] at H
         obtain ⟨rfl, rfl, rfl, rfl, rfl, rfl, rfl, rfl, rfl, rfl, rfl⟩ := H
         have hnb145 := NB483_433.out
         have hnc145 := NB433_483.out
         have hnb146 := NB483_0.out
         have hnc146 := NB0_483.out
         obtain ⟨hcz147_0, hcz147_1, hcz147_2, hcz147_3, hcz147_4, hcz147_5, hcz147_6, hcz147_7, hfz147_0, hfz147_1, hfz147_2, hfz147_3, hfz147_4, hfz147_5, hfz147_6, hfz147_7⟩ := cellsF8 BK483.out
         have hnb148 := NB433_0.out
         have hnc148 := NB0_433.out
         obtain ⟨hcz149_0, hcz149_1, hcz149_2, hcz149_3, hcz149_4, hcz149_5, hcz149_6, hcz149_7, hfz149_0, hfz149_1, hfz149_2, hfz149_3, hfz149_4, hfz149_5, hfz149_6, hfz149_7⟩ := cellsF8 BK433.out
         obtain ⟨Ao150, co150, eo150⟩ := Kd.R_slice HO_484007.out
         subst eo150
         go_wp2
         refine bodyPost_ret (results_cell_row rfl _ _ gb433 29 #[.int .i64 2, .string (⟨#[]⟩ : ByteArray), .string (⟨#[]⟩ : ByteArray), .bool false, .slice none 0 0, .string t475, .string t479, .slice Ao150 x484007_1.length co150] (0, 0) _ rfl (by (with_reducible repeat (first | refine blk_drewN ?_ _ | refine blk_drew ?_ | refine blk_alloc ?_ _)); refine blk_put (cs := #[.int .i64 2, .string (⟨#[]⟩ : ByteArray), .string (⟨#[]⟩ : ByteArray), .bool false, .slice none 0 0, .string t475, .string t479, .slice none 0 0]) ?_ 7 _ rfl; (with_reducible repeat (first | refine blk_drewN ?_ _ | refine blk_drew ?_ | refine blk_alloc ?_ _)); refine blk_put (cs := #[.int .i64 2, .string (⟨#[]⟩ : ByteArray), .string (⟨#[]⟩ : ByteArray), .bool false, .slice none 0 0, .string t475, .string (⟨#[]⟩ : ByteArray), .slice none 0 0]) ?_ 6 _ rfl; (with_reducible repeat (first | refine blk_drewN ?_ _ | refine blk_drew ?_ | refine blk_alloc ?_ _)); refine blk_put (cs := #[.int .i64 2, .string (⟨#[]⟩ : ByteArray), .string (⟨#[]⟩ : ByteArray), .bool false, .slice none 0 0, .string (⟨#[]⟩ : ByteArray), .string (⟨#[]⟩ : ByteArray), .slice none 0 0]) ?_ 5 _ rfl; (with_reducible repeat (first | refine blk_drewN ?_ _ | refine blk_drew ?_ | refine blk_alloc ?_ _)); refine blk_put (cs := #[.int .i64 2, .string (⟨#[]⟩ : ByteArray), .string (⟨#[]⟩ : ByteArray), .bool false, .slice none 0 0, .string (⟨#[]⟩ : ByteArray), .string (⟨#[]⟩ : ByteArray), .slice none 0 0]) ?_ 4 _ rfl; (with_reducible repeat (first | refine blk_drewN ?_ _ | refine blk_drew ?_ | refine blk_alloc ?_ _)); refine blk_put (cs := #[.int .i64 2, .string (⟨#[]⟩ : ByteArray), .string (⟨#[]⟩ : ByteArray), .bool false, .slice none 0 0, .string (⟨#[]⟩ : ByteArray), .string (⟨#[]⟩ : ByteArray), .slice none 0 0]) ?_ 3 _ rfl; (with_reducible repeat (first | refine blk_drewN ?_ _ | refine blk_drew ?_ | refine blk_alloc ?_ _)); refine blk_put (cs := #[.int .i64 2, .string (⟨#[]⟩ : ByteArray), .string (⟨#[]⟩ : ByteArray), .bool false, .slice none 0 0, .string (⟨#[]⟩ : ByteArray), .string (⟨#[]⟩ : ByteArray), .slice none 0 0]) ?_ 2 _ rfl; (with_reducible repeat (first | refine blk_drewN ?_ _ | refine blk_drew ?_ | refine blk_alloc ?_ _)); refine blk_put (cs := #[.int .i64 2, .string (⟨#[]⟩ : ByteArray), .string (⟨#[]⟩ : ByteArray), .bool false, .slice none 0 0, .string (⟨#[]⟩ : ByteArray), .string (⟨#[]⟩ : ByteArray), .slice none 0 0]) ?_ 1 _ rfl; (with_reducible repeat (first | refine blk_drewN ?_ _ | refine blk_drew ?_ | refine blk_alloc ?_ _)); refine blk_put (cs := #[.int .i64 0, .string (⟨#[]⟩ : ByteArray), .string (⟨#[]⟩ : ByteArray), .bool false, .slice none 0 0, .string (⟨#[]⟩ : ByteArray), .string (⟨#[]⟩ : ByteArray), .slice none 0 0]) ?_ 0 _ rfl; (with_reducible repeat (first | refine blk_drewN ?_ _ | refine blk_drew ?_ | refine blk_alloc ?_ _)); exact BK433.out) Tryz.underlying29 rfl (by kernel_rfl)) rfl ?_
         exact ⟨_, _, q33_, q11_, (by (with_reducible repeat (first | apply Kd.R_alloc | apply Kd.R_drewN | apply Kd.R_drew)); exact Kd.R_mono (Kd.R_far (p := ⟨gb433, 7, none⟩) (Kd.R_far (p := ⟨gb433, 6, none⟩) (Kd.R_far (p := ⟨gb433, 5, none⟩) (Kd.R_far (p := ⟨gb433, 4, none⟩) (Kd.R_far (p := ⟨gb433, 3, none⟩) (Kd.R_far (p := ⟨gb433, 2, none⟩) (Kd.R_far (p := ⟨gb433, 1, none⟩) (Kd.R_far (p := ⟨gb433, 0, none⟩) (Kd.R_types HO_484007.out BK433.out (by decide)) (fun _ hk => hk.2) (.int .i64 2)) (fun _ hk => hk.2) (.string (⟨#[]⟩ : ByteArray))) (fun _ hk => hk.2) (.string (⟨#[]⟩ : ByteArray))) (fun _ hk => hk.2) (.bool false)) (fun _ hk => hk.2) (.slice none 0 0)) (fun _ hk => hk.2) (.string t475)) (fun _ hk => hk.2) (.string t479)) (fun _ hk => hk.2) (.slice Ao150 x484007_1.length co150)) (fun _ hk => trivial)), q15_, q20_, q5_⟩
   ·rw [if_neg c87] at H
    have c87b0 : (t434.toList == ([113] : List UInt8)) = false := beq_eq_false_iff_ne.mpr c87
    have c87b1 : (t434.toList != ([113] : List UInt8)) = true := bne_iff_ne.mpr c87
    simp only [Option.some.injEq, Prod.mk.injEq] at H
    obtain ⟨rfl, rfl, rfl, rfl, rfl, rfl, rfl, rfl, rfl, rfl, rfl⟩ := H
    go_enter Tryz.func25, Tryz.ntmps25
    go_wp2_with (first | ((with_reducible refine gate_dst (N := 2) rfl ?_); (try (refine gate_guard (by rfl) ?_; dsimp only)); refine box_event ?hg (N := 2) ?hd (cs := #[.int .i64 0, .string (⟨#[]⟩ : ByteArray), .string (⟨#[]⟩ : ByteArray), .bool false, .slice none 0 0, .string (⟨#[]⟩ : ByteArray), .string (⟨#[]⟩ : ByteArray), .slice none 0 0]) (t := 29) ?hr ?_; (case hd => rfl); (case hg => rfl); (case hr => first | (go_simp; done) | (go_simp; rfl)); intro gb433 hg w151 hbox hb; have n0_ := Aside0.mk (IsS71.below q24_ hb); have n1_ := Aside0.mk (KeepBut.trans q6_ (KeepBut.of_below hb g none) (.inl rfl)); have n2_ := Aside0.mk (below_step q26_ hb); have n3_ := Aside0.mk (hbox); have n4_ := Aside0.mk ((q31_ : w.heap.size ≤ gb433)); have n5_ := Aside0.mk ((Nat.le_trans HW0.out (q31_ : w.heap.size ≤ gb433) : w0.heap.size ≤ gb433)); have n6_ := Aside0.mk ((by rw [hg]; exact Nat.ne_of_lt (IsS71.lt (show IsS71 w0 _ g s0_0 s0_1 s0_2 from by repeat (first | (with_reducible first | exact HI0.out | apply IsS71.alloc | apply IsS71.drewN | apply IsS71.drew | apply IsS71.set_0 | apply IsS71.set_1 | apply IsS71.set_2) | exact HI0.out))) : g ≠ gb433)); have n7_ := Aside0.mk ((by rw [hg]; exact Nat.ne_of_gt (IsS71.lt (show IsS71 w0 _ g s0_0 s0_1 s0_2 from by repeat (first | (with_reducible first | exact HI0.out | apply IsS71.alloc | apply IsS71.drewN | apply IsS71.drew | apply IsS71.set_0 | apply IsS71.set_1 | apply IsS71.set_2) | exact HI0.out))) : gb433 ≠ g)); clear HI0; clear HK; clear HB; have HI0 := n0_; have HK := n1_; have HB := n2_; have BK433 := n3_; have GW433 := n4_; have GE433 := n5_; have NB0_433 := n6_; have NB433_0 := n7_; clear n0_ n1_ n2_ n3_ n4_ n5_ n6_ n7_; clear hb hbox hg) | ((with_reducible refine gate_callee (f := 35) rfl ?_); refine goesL_ (some 12) rfl rfl Tryz.func35 (by kernel_rfl) rfl #[.pointer (some ⟨g, 0, none⟩)] rfl q3_ ?_; (with_reducible refine (script_reader_text.calls g s0_0 s0_1 s0_2 t434 t435 t436 t437 w0 _ ?side1 ?side2 A2.out).mono ?_); (case side1 => repeat (first | (with_reducible first | exact HI0.out | apply IsS71.alloc | apply IsS71.drewN | apply IsS71.drew | apply IsS71.set_0 | apply IsS71.set_1 | apply IsS71.set_2 | (apply IsS71.far; rotate_left; exact NB0_433.out; rotate_right)) | exact HI0.out)); (case side2 => repeat (first | (with_reducible first | exact HB.out | apply below_alloc | apply pw_below_drewN | apply below_drew1 | refine below_set ?_ (IsS71.ge HI0.out) | refine below_set ?_ GE433.out) | exact HB.out)); rintro e w152 ⟨rfl, hi, hb, hk⟩; refine ⟨_, rfl, ?_⟩; have n0_ := Aside0.mk (KeepBut.blk hk (g' := gb433) (o := .cells #[.int .i64 0, .string (⟨#[]⟩ : ByteArray), .string (⟨#[]⟩ : ByteArray), .bool false, .slice none 0 0, .string (⟨#[]⟩ : ByteArray), .string (⟨#[]⟩ : ByteArray), .slice none 0 0] 29 (0, 0)) q1_ NB433_0.out (by simp)); have n1_ := Aside0.mk (KeepBut.trans q2_ hk (.inl rfl)); have n2_ := Aside0.mk (hb); have n3_ := Aside0.mk (hi); clear BK433; clear HK; clear HB; clear HI0; have BK433 := n0_; have HK := n1_; have HB := n2_; have HI0 := n3_; clear n0_ n1_ n2_ n3_; (try clear hb); (try clear hb2); (try clear hk); (try clear hi); obtain ⟨HGz153, hgz153⟩ := HI0.out; have hcz153_0 := cellS71_0 HGz153; have hcz153_1 := cellS71_1 HGz153; have hcz153_2 := cellS71_2 HGz153; have hfz153_0 := blk_frozen HGz153 0; have hfz153_1 := blk_frozen HGz153 1; have hfz153_2 := blk_frozen HGz153 2; clear HGz153 hgz153; have hnb154 := NB433_0.out; have hnc154 := NB0_433.out; obtain ⟨hcz155_0, hcz155_1, hcz155_2, hcz155_3, hcz155_4, hcz155_5, hcz155_6, hcz155_7, hfz155_0, hfz155_1, hfz155_2, hfz155_3, hfz155_4, hfz155_5, hfz155_6, hfz155_7⟩ := cellsF8 BK433.out))
    refine bodyPost_ret (results_cell_row rfl _ _ gb433 29 #[.int .i64 0, .string (⟨#[]⟩ : ByteArray), .string (⟨#[]⟩ : ByteArray), .bool false, .slice none 0 0, .string (⟨#[]⟩ : ByteArray), .string (⟨#[]⟩ : ByteArray), .slice none 0 0] (0, 0) _ rfl (by (with_reducible repeat (first | refine blk_drewN ?_ _ | refine blk_drew ?_ | refine blk_alloc ?_ _)); refine blk_put (cs := #[.int .i64 0, .string (⟨#[]⟩ : ByteArray), .string (⟨#[]⟩ : ByteArray), .bool false, .slice none 0 0, .string (⟨#[]⟩ : ByteArray), .string (⟨#[]⟩ : ByteArray), .slice none 0 0]) ?_ 7 _ rfl; (with_reducible repeat (first | refine blk_drewN ?_ _ | refine blk_drew ?_ | refine blk_alloc ?_ _)); refine blk_put (cs := #[.int .i64 0, .string (⟨#[]⟩ : ByteArray), .string (⟨#[]⟩ : ByteArray), .bool false, .slice none 0 0, .string (⟨#[]⟩ : ByteArray), .string (⟨#[]⟩ : ByteArray), .slice none 0 0]) ?_ 6 _ rfl; (with_reducible repeat (first | refine blk_drewN ?_ _ | refine blk_drew ?_ | refine blk_alloc ?_ _)); refine blk_put (cs := #[.int .i64 0, .string (⟨#[]⟩ : ByteArray), .string (⟨#[]⟩ : ByteArray), .bool false, .slice none 0 0, .string (⟨#[]⟩ : ByteArray), .string (⟨#[]⟩ : ByteArray), .slice none 0 0]) ?_ 5 _ rfl; (with_reducible repeat (first | refine blk_drewN ?_ _ | refine blk_drew ?_ | refine blk_alloc ?_ _)); refine blk_put (cs := #[.int .i64 0, .string (⟨#[]⟩ : ByteArray), .string (⟨#[]⟩ : ByteArray), .bool false, .slice none 0 0, .string (⟨#[]⟩ : ByteArray), .string (⟨#[]⟩ : ByteArray), .slice none 0 0]) ?_ 4 _ rfl; (with_reducible repeat (first | refine blk_drewN ?_ _ | refine blk_drew ?_ | refine blk_alloc ?_ _)); refine blk_put (cs := #[.int .i64 0, .string (⟨#[]⟩ : ByteArray), .string (⟨#[]⟩ : ByteArray), .bool false, .slice none 0 0, .string (⟨#[]⟩ : ByteArray), .string (⟨#[]⟩ : ByteArray), .slice none 0 0]) ?_ 3 _ rfl; (with_reducible repeat (first | refine blk_drewN ?_ _ | refine blk_drew ?_ | refine blk_alloc ?_ _)); refine blk_put (cs := #[.int .i64 0, .string (⟨#[]⟩ : ByteArray), .string (⟨#[]⟩ : ByteArray), .bool false, .slice none 0 0, .string (⟨#[]⟩ : ByteArray), .string (⟨#[]⟩ : ByteArray), .slice none 0 0]) ?_ 2 _ rfl; (with_reducible repeat (first | refine blk_drewN ?_ _ | refine blk_drew ?_ | refine blk_alloc ?_ _)); refine blk_put (cs := #[.int .i64 0, .string (⟨#[]⟩ : ByteArray), .string (⟨#[]⟩ : ByteArray), .bool false, .slice none 0 0, .string (⟨#[]⟩ : ByteArray), .string (⟨#[]⟩ : ByteArray), .slice none 0 0]) ?_ 1 _ rfl; (with_reducible repeat (first | refine blk_drewN ?_ _ | refine blk_drew ?_ | refine blk_alloc ?_ _)); refine blk_put (cs := #[.int .i64 0, .string (⟨#[]⟩ : ByteArray), .string (⟨#[]⟩ : ByteArray), .bool false, .slice none 0 0, .string (⟨#[]⟩ : ByteArray), .string (⟨#[]⟩ : ByteArray), .slice none 0 0]) ?_ 0 _ rfl; (with_reducible repeat (first | refine blk_drewN ?_ _ | refine blk_drew ?_ | refine blk_alloc ?_ _)); refine blk_far ?_ NB433_0.out _; (with_reducible repeat (first | refine blk_drewN ?_ _ | refine blk_drew ?_ | refine blk_alloc ?_ _)); exact BK433.out) Tryz.underlying29 rfl (by kernel_rfl)) rfl ?_
    exact ⟨_, _, q33_, q11_, q11_, q19_, q22_, q2_⟩
end Go.Proofs.YtdhpcofnddkcaaaGreatDoor.S
