/- polyglotlaw18.ScriptReads: for every slice of bytes the call returns true and leaves it unchanged. (Text 3 of 9: what the law's proof rests on, joined; walks printed by the kit's print over given contracts, walks and plain laws by hand.) -/
import Derived.Test.YtdhpcofnddkcaaaGreatDoorRd0
import Derived.Test.YtdhpcofnddkcaaaGreatDoorRd1
namespace Go.Proofs.YtdhpcofnddkcaaaGreatDoor.S
open Go.RowKit Go.Proofs.YtdhpcofnddkcaaaGreatDoor.G Go.Proofs.YtdhpcofnddkcaaaGreatDoorW.PrintWords Go.Proofs.YtdhpcofnddkcaaaGreatDoorW.PrintLast Go.Proofs.YtdhpcofnddkcaaaGreatDoorW.PrintMore
attribute [local go_sem] max2_int min2_int max_two min_two max_three min_three max_four min_four
set_option linter.unusedVariables false
set_option linter.unusedSimpArgs false
namespace Sx6
theorem cells3 {w : World} {g : Nat} {t : TypeId} {a0 a1 a2 : Value} (h : w.heap[g]? = some (.cells #[a0, a1, a2] t (0, 0))) : w.cell? ⟨g, 0, none⟩ = some a0 ∧ w.cell? ⟨g, 1, none⟩ = some a1 ∧ w.cell? ⟨g, 2, none⟩ = some a2 := ⟨(blk_cell h 0).trans rfl, (blk_cell h 1).trans rfl, (blk_cell h 2).trans rfl⟩
theorem cellsF3 {w : World} {g : Nat} {t : TypeId} {a0 a1 a2 : Value} (h : w.heap[g]? = some (.cells #[a0, a1, a2] t (0, 0))) : w.cell? ⟨g, 0, none⟩ = some a0 ∧ w.cell? ⟨g, 1, none⟩ = some a1 ∧ w.cell? ⟨g, 2, none⟩ = some a2 ∧ w.frozen? ⟨g, 0, none⟩ = false ∧ w.frozen? ⟨g, 1, none⟩ = false ∧ w.frozen? ⟨g, 2, none⟩ = false := ⟨(blk_cell h 0).trans rfl, (blk_cell h 1).trans rfl, (blk_cell h 2).trans rfl, blk_frozen h 0, blk_frozen h 1, blk_frozen h 2⟩
theorem cells5 {w : World} {g : Nat} {t : TypeId} {a0 a1 a2 a3 a4 : Value} (h : w.heap[g]? = some (.cells #[a0, a1, a2, a3, a4] t (0, 0))) : w.cell? ⟨g, 0, none⟩ = some a0 ∧ w.cell? ⟨g, 1, none⟩ = some a1 ∧ w.cell? ⟨g, 2, none⟩ = some a2 ∧ w.cell? ⟨g, 3, none⟩ = some a3 ∧ w.cell? ⟨g, 4, none⟩ = some a4 := ⟨(blk_cell h 0).trans rfl, (blk_cell h 1).trans rfl, (blk_cell h 2).trans rfl, (blk_cell h 3).trans rfl, (blk_cell h 4).trans rfl⟩
theorem cellsF5 {w : World} {g : Nat} {t : TypeId} {a0 a1 a2 a3 a4 : Value} (h : w.heap[g]? = some (.cells #[a0, a1, a2, a3, a4] t (0, 0))) : w.cell? ⟨g, 0, none⟩ = some a0 ∧ w.cell? ⟨g, 1, none⟩ = some a1 ∧ w.cell? ⟨g, 2, none⟩ = some a2 ∧ w.cell? ⟨g, 3, none⟩ = some a3 ∧ w.cell? ⟨g, 4, none⟩ = some a4 ∧ w.frozen? ⟨g, 0, none⟩ = false ∧ w.frozen? ⟨g, 1, none⟩ = false ∧ w.frozen? ⟨g, 2, none⟩ = false ∧ w.frozen? ⟨g, 3, none⟩ = false ∧ w.frozen? ⟨g, 4, none⟩ = false := ⟨(blk_cell h 0).trans rfl, (blk_cell h 1).trans rfl, (blk_cell h 2).trans rfl, (blk_cell h 3).trans rfl, (blk_cell h 4).trans rfl, blk_frozen h 0, blk_frozen h 1, blk_frozen h 2, blk_frozen h 3, blk_frozen h 4⟩
theorem cells12 {w : World} {g : Nat} {t : TypeId} {a0 a1 a2 a3 a4 a5 a6 a7 a8 a9 a10 a11 : Value} (h : w.heap[g]? = some (.cells #[a0, a1, a2, a3, a4, a5, a6, a7, a8, a9, a10, a11] t (0, 0))) : w.cell? ⟨g, 0, none⟩ = some a0 ∧ w.cell? ⟨g, 1, none⟩ = some a1 ∧ w.cell? ⟨g, 2, none⟩ = some a2 ∧ w.cell? ⟨g, 3, none⟩ = some a3 ∧ w.cell? ⟨g, 4, none⟩ = some a4 ∧ w.cell? ⟨g, 5, none⟩ = some a5 ∧ w.cell? ⟨g, 6, none⟩ = some a6 ∧ w.cell? ⟨g, 7, none⟩ = some a7 ∧ w.cell? ⟨g, 8, none⟩ = some a8 ∧ w.cell? ⟨g, 9, none⟩ = some a9 ∧ w.cell? ⟨g, 10, none⟩ = some a10 ∧ w.cell? ⟨g, 11, none⟩ = some a11 := ⟨(blk_cell h 0).trans rfl, (blk_cell h 1).trans rfl, (blk_cell h 2).trans rfl, (blk_cell h 3).trans rfl, (blk_cell h 4).trans rfl, (blk_cell h 5).trans rfl, (blk_cell h 6).trans rfl, (blk_cell h 7).trans rfl, (blk_cell h 8).trans rfl, (blk_cell h 9).trans rfl, (blk_cell h 10).trans rfl, (blk_cell h 11).trans rfl⟩
theorem cellsF12 {w : World} {g : Nat} {t : TypeId} {a0 a1 a2 a3 a4 a5 a6 a7 a8 a9 a10 a11 : Value} (h : w.heap[g]? = some (.cells #[a0, a1, a2, a3, a4, a5, a6, a7, a8, a9, a10, a11] t (0, 0))) : w.cell? ⟨g, 0, none⟩ = some a0 ∧ w.cell? ⟨g, 1, none⟩ = some a1 ∧ w.cell? ⟨g, 2, none⟩ = some a2 ∧ w.cell? ⟨g, 3, none⟩ = some a3 ∧ w.cell? ⟨g, 4, none⟩ = some a4 ∧ w.cell? ⟨g, 5, none⟩ = some a5 ∧ w.cell? ⟨g, 6, none⟩ = some a6 ∧ w.cell? ⟨g, 7, none⟩ = some a7 ∧ w.cell? ⟨g, 8, none⟩ = some a8 ∧ w.cell? ⟨g, 9, none⟩ = some a9 ∧ w.cell? ⟨g, 10, none⟩ = some a10 ∧ w.cell? ⟨g, 11, none⟩ = some a11 ∧ w.frozen? ⟨g, 0, none⟩ = false ∧ w.frozen? ⟨g, 1, none⟩ = false ∧ w.frozen? ⟨g, 2, none⟩ = false ∧ w.frozen? ⟨g, 3, none⟩ = false ∧ w.frozen? ⟨g, 4, none⟩ = false ∧ w.frozen? ⟨g, 5, none⟩ = false ∧ w.frozen? ⟨g, 6, none⟩ = false ∧ w.frozen? ⟨g, 7, none⟩ = false ∧ w.frozen? ⟨g, 8, none⟩ = false ∧ w.frozen? ⟨g, 9, none⟩ = false ∧ w.frozen? ⟨g, 10, none⟩ = false ∧ w.frozen? ⟨g, 11, none⟩ = false := ⟨(blk_cell h 0).trans rfl, (blk_cell h 1).trans rfl, (blk_cell h 2).trans rfl, (blk_cell h 3).trans rfl, (blk_cell h 4).trans rfl, (blk_cell h 5).trans rfl, (blk_cell h 6).trans rfl, (blk_cell h 7).trans rfl, (blk_cell h 8).trans rfl, (blk_cell h 9).trans rfl, (blk_cell h 10).trans rfl, (blk_cell h 11).trans rfl, blk_frozen h 0, blk_frozen h 1, blk_frozen h 2, blk_frozen h 3, blk_frozen h 4, blk_frozen h 5, blk_frozen h 6, blk_frozen h 7, blk_frozen h 8, blk_frozen h 9, blk_frozen h 10, blk_frozen h 11⟩
theorem q0_ {p_ : Prop} (h_ : p_ := by repeat (first | (with_reducible first | exact HB.out | apply below_alloc | apply pw_below_drewN | apply below_drew1) | exact HB.out)) : p_ := h_
theorem q1_ {p_ : Prop} (h_ : p_ := by repeat (first | (with_reducible first | exact HB.out | apply below_alloc | apply pw_below_drewN | apply below_drew1 | refine below_set ?_ GE124.out) | exact HB.out)) : p_ := h_
theorem q2_ {p_ : Prop} (h_ : p_ := by (try simp only [List.map_toArray, List.map_cons, List.map_nil]); first | done | rfl | (simp only [List.length_drop, List.length_take]; rfl)) : p_ := h_
theorem q3_ {p_ : Prop} (h_ : p_ := by (with_reducible repeat (first | refine blk_drewN ?_ _ | refine blk_drew ?_ | refine blk_alloc ?_ _)); exact BK124.out) : p_ := h_
theorem q4_ {p_ : Prop} (h_ : p_ := by (with_reducible repeat (first | refine blk_drewN ?_ _ | refine blk_drew ?_ | refine blk_alloc ?_ _)); refine blk_put (cs := #[.bool false, .string (⟨#[]⟩ : ByteArray), .int .i64 0]) ?_ 2 _ rfl; (with_reducible repeat (first | refine blk_drewN ?_ _ | refine blk_drew ?_ | refine blk_alloc ?_ _)); refine blk_put (cs := #[.bool false, .string (⟨#[]⟩ : ByteArray), .int .i64 0]) ?_ 1 _ rfl; (with_reducible repeat (first | refine blk_drewN ?_ _ | refine blk_drew ?_ | refine blk_alloc ?_ _)); refine blk_put (cs := #[.bool false, .string (⟨#[]⟩ : ByteArray), .int .i64 0]) ?_ 0 _ rfl; (with_reducible repeat (first | refine blk_drewN ?_ _ | refine blk_drew ?_ | refine blk_alloc ?_ _)); exact BK124.out) : p_ := h_
theorem q5_ {p_ : Prop} (h_ : p_ := by first | rfl | (simp [errW_none, errW_some] <;> rfl) | (simp [*, errW_none, errW_some] <;> rfl)) : p_ := h_
theorem q6_ {p_ : Prop} (h_ : p_ := by rw [hg]; exact (below_size q0_)) : p_ := h_
theorem q7_ {p_ : Prop} (h_ : p_ := by repeat (first | (with_reducible first | exact HB.out | apply below_alloc | apply pw_below_drewN | apply below_drew1 | refine below_set ?_ GE121.out) | exact HB.out)) : p_ := h_
theorem q8_ {p_ : Prop} (h_ : p_ := by (with_reducible repeat (first | refine blk_drewN ?_ _ | refine blk_drew ?_ | refine blk_alloc ?_ _)); exact BK139.out) : p_ := h_
theorem q9_ {p_ : Prop} (h_ : p_ := by repeat (first | (with_reducible first | exact HB.out | apply below_alloc | apply pw_below_drewN | apply below_drew1 | refine below_set ?_ GE139.out) | exact HB.out)) : p_ := h_
theorem q10_ {p_ : Prop} (h_ : p_ := by (with_reducible repeat (first | refine blk_drewN ?_ _ | refine blk_drew ?_ | refine blk_alloc ?_ _)); exact BK121.out) : p_ := h_
theorem q11_ {p_ : Prop} (h_ : p_ := by repeat (first | (with_reducible first | exact HB.out | apply below_alloc | apply pw_below_drewN | apply below_drew1 | refine below_set ?_ GE139.out | refine below_set ?_ GE140.out) | exact HB.out)) : p_ := h_
theorem u0_ {p_ : Prop} (h_ : p_ := by first | (go_simp; done) | (go_simp; rfl)) : p_ := h_
end Sx6
open Sx6
def value_Str.f (a0 : ByteArray) : Option (Int × ByteArray × Bool × ByteArray × Int × Int × Int × Int × Bool × Bool × Int × Int) := some (0, a0, false, (⟨#[]⟩ : ByteArray), 0, 0, 0, 0, false, false, 0, 0)
set_option maxHeartbeats 8000000 in
set_option maxRecDepth 100000 in
theorem value_Str.calls (a0 : ByteArray) (r1 : Int) (r2 : ByteArray) (r3 : Bool) (r4 : ByteArray) (r5 : Int) (r6 : Int) (r7 : Int) (r8 : Int) (r9 : Bool) (r10 : Bool) (r11 : Int) (r12 : Int) (w : World) (h : value_Str.f a0 = some (r1, r2, r3, r4, r5, r6, r7, r8, r9, r10, r11, r12)) :
  Calls Tryz.prog 26 #[.string a0] w fun e w' => e = .returned (.agg #[.int .i64 r1, .string r2, .bool r3, .string r4, .int .i64 r5, .int .i64 r6, .int .i64 r7, .int .i64 r8, .bool r9, .bool r10, .int .i64 r11, .int .i64 r12]) ∧ Below w.heap.size w w' := by
 have hu51 := Tryz.underlying51
 have HB := Aside0.mk (Below.refl w.heap.size w)
 have H : (some (0, a0, false, (⟨#[]⟩ : ByteArray), 0, 0, 0, 0, false, false, 0, 0)) = some (r1, r2, r3, r4, r5, r6, r7, r8, r9, r10, r11, r12) := h
 clear h
 simp only [Option.some.injEq, Prod.mk.injEq] at H
 obtain ⟨rfl, rfl, rfl, rfl, rfl, rfl, rfl, rfl, rfl, rfl, rfl, rfl⟩ := H
 go_enter Tryz.func26, Tryz.ntmps26
 go_wp2_with (first | ((with_reducible refine gate_dst (N := 2) rfl ?_); refine box_event ?hg (N := 2) ?hd (cs := #[.int .i64 0, .string (⟨#[]⟩ : ByteArray), .bool false, .string (⟨#[]⟩ : ByteArray), .int .i64 0, .int .i64 0, .int .i64 0, .int .i64 0, .bool false, .bool false, .int .i64 0, .int .i64 0]) (t := 51) ?hr ?_; (case hd => rfl); (case hg => rfl); (case hr => exact u0_); intro gb119 hg w2 hbox hb; have BK119 := Aside0.mk (hbox); have GW119 := Aside0.mk ((q6_ : w.heap.size ≤ gb119)); have GE119 := Aside0.mk ((q6_ : w.heap.size ≤ gb119)); replace HB := Aside0.mk (below_step q0_ hb); clear hb hbox hg; obtain ⟨hcz3_0, hcz3_1, hcz3_2, hcz3_3, hcz3_4, hcz3_5, hcz3_6, hcz3_7, hcz3_8, hcz3_9, hcz3_10, hcz3_11, hfz3_0, hfz3_1, hfz3_2, hfz3_3, hfz3_4, hfz3_5, hfz3_6, hfz3_7, hfz3_8, hfz3_9, hfz3_10, hfz3_11⟩ := cellsF12 BK119.out))
 refine bodyPost_ret (results_cell_row rfl _ _ gb119 51 #[.int .i64 0, .string a0, .bool false, .string (⟨#[]⟩ : ByteArray), .int .i64 0, .int .i64 0, .int .i64 0, .int .i64 0, .bool false, .bool false, .int .i64 0, .int .i64 0] (0, 0) _ rfl (by (with_reducible repeat (first | refine blk_drewN ?_ _ | refine blk_drew ?_ | refine blk_alloc ?_ _)); refine blk_put (cs := #[.int .i64 0, .string a0, .bool false, .string (⟨#[]⟩ : ByteArray), .int .i64 0, .int .i64 0, .int .i64 0, .int .i64 0, .bool false, .bool false, .int .i64 0, .int .i64 0]) ?_ 11 _ rfl; (with_reducible repeat (first | refine blk_drewN ?_ _ | refine blk_drew ?_ | refine blk_alloc ?_ _)); refine blk_put (cs := #[.int .i64 0, .string a0, .bool false, .string (⟨#[]⟩ : ByteArray), .int .i64 0, .int .i64 0, .int .i64 0, .int .i64 0, .bool false, .bool false, .int .i64 0, .int .i64 0]) ?_ 10 _ rfl; (with_reducible repeat (first | refine blk_drewN ?_ _ | refine blk_drew ?_ | refine blk_alloc ?_ _)); refine blk_put (cs := #[.int .i64 0, .string a0, .bool false, .string (⟨#[]⟩ : ByteArray), .int .i64 0, .int .i64 0, .int .i64 0, .int .i64 0, .bool false, .bool false, .int .i64 0, .int .i64 0]) ?_ 9 _ rfl; (with_reducible repeat (first | refine blk_drewN ?_ _ | refine blk_drew ?_ | refine blk_alloc ?_ _)); refine blk_put (cs := #[.int .i64 0, .string a0, .bool false, .string (⟨#[]⟩ : ByteArray), .int .i64 0, .int .i64 0, .int .i64 0, .int .i64 0, .bool false, .bool false, .int .i64 0, .int .i64 0]) ?_ 8 _ rfl; (with_reducible repeat (first | refine blk_drewN ?_ _ | refine blk_drew ?_ | refine blk_alloc ?_ _)); refine blk_put (cs := #[.int .i64 0, .string a0, .bool false, .string (⟨#[]⟩ : ByteArray), .int .i64 0, .int .i64 0, .int .i64 0, .int .i64 0, .bool false, .bool false, .int .i64 0, .int .i64 0]) ?_ 7 _ rfl; (with_reducible repeat (first | refine blk_drewN ?_ _ | refine blk_drew ?_ | refine blk_alloc ?_ _)); refine blk_put (cs := #[.int .i64 0, .string a0, .bool false, .string (⟨#[]⟩ : ByteArray), .int .i64 0, .int .i64 0, .int .i64 0, .int .i64 0, .bool false, .bool false, .int .i64 0, .int .i64 0]) ?_ 6 _ rfl; (with_reducible repeat (first | refine blk_drewN ?_ _ | refine blk_drew ?_ | refine blk_alloc ?_ _)); refine blk_put (cs := #[.int .i64 0, .string a0, .bool false, .string (⟨#[]⟩ : ByteArray), .int .i64 0, .int .i64 0, .int .i64 0, .int .i64 0, .bool false, .bool false, .int .i64 0, .int .i64 0]) ?_ 5 _ rfl; (with_reducible repeat (first | refine blk_drewN ?_ _ | refine blk_drew ?_ | refine blk_alloc ?_ _)); refine blk_put (cs := #[.int .i64 0, .string a0, .bool false, .string (⟨#[]⟩ : ByteArray), .int .i64 0, .int .i64 0, .int .i64 0, .int .i64 0, .bool false, .bool false, .int .i64 0, .int .i64 0]) ?_ 4 _ rfl; (with_reducible repeat (first | refine blk_drewN ?_ _ | refine blk_drew ?_ | refine blk_alloc ?_ _)); refine blk_put (cs := #[.int .i64 0, .string a0, .bool false, .string (⟨#[]⟩ : ByteArray), .int .i64 0, .int .i64 0, .int .i64 0, .int .i64 0, .bool false, .bool false, .int .i64 0, .int .i64 0]) ?_ 3 _ rfl; (with_reducible repeat (first | refine blk_drewN ?_ _ | refine blk_drew ?_ | refine blk_alloc ?_ _)); refine blk_put (cs := #[.int .i64 0, .string a0, .bool false, .string (⟨#[]⟩ : ByteArray), .int .i64 0, .int .i64 0, .int .i64 0, .int .i64 0, .bool false, .bool false, .int .i64 0, .int .i64 0]) ?_ 2 _ rfl; (with_reducible repeat (first | refine blk_drewN ?_ _ | refine blk_drew ?_ | refine blk_alloc ?_ _)); refine blk_put (cs := #[.int .i64 0, .string (⟨#[]⟩ : ByteArray), .bool false, .string (⟨#[]⟩ : ByteArray), .int .i64 0, .int .i64 0, .int .i64 0, .int .i64 0, .bool false, .bool false, .int .i64 0, .int .i64 0]) ?_ 1 _ rfl; (with_reducible repeat (first | refine blk_drewN ?_ _ | refine blk_drew ?_ | refine blk_alloc ?_ _)); refine blk_put (cs := #[.int .i64 0, .string (⟨#[]⟩ : ByteArray), .bool false, .string (⟨#[]⟩ : ByteArray), .int .i64 0, .int .i64 0, .int .i64 0, .int .i64 0, .bool false, .bool false, .int .i64 0, .int .i64 0]) ?_ 0 _ rfl; (with_reducible repeat (first | refine blk_drewN ?_ _ | refine blk_drew ?_ | refine blk_alloc ?_ _)); exact BK119.out) Tryz.underlying51 rfl (by kernel_rfl)) rfl ?_
 exact ⟨q5_, (by repeat (first | (with_reducible first | exact HB.out | apply below_alloc | apply pw_below_drewN | apply below_drew1 | refine below_set ?_ GE119.out) | exact HB.out))⟩
def dec_isDigits.f (a0 : ByteArray) : Option (Bool) := if a0.toList = ([] : List UInt8) then (some false) else ((strings_Trim.f a0 (⟨#[48, 49, 50, 51, 52, 53, 54, 55, 56, 57]⟩ : ByteArray)).bind fun t120 => (some (t120.toList == ([] : List UInt8))))
set_option maxHeartbeats 8000000 in
set_option maxRecDepth 100000 in
theorem dec_isDigits.calls (a0 : ByteArray) (r : Bool) (w : World) (h : dec_isDigits.f a0 = some r) :
  Calls Tryz.prog 40 #[.string a0] w fun e w' => e = .returned (.bool r) ∧ Below w.heap.size w w' := by
 have HB := Aside0.mk (Below.refl w.heap.size w)
 have H : (if a0.toList = ([] : List UInt8) then (some false) else ((strings_Trim.f a0 (⟨#[48, 49, 50, 51, 52, 53, 54, 55, 56, 57]⟩ : ByteArray)).bind fun t120 => (some (t120.toList == ([] : List UInt8))))) = some r := h
 clear h
 by_cases c2 : a0.toList = ([] : List UInt8)
 ·rw [if_pos c2] at H
  have c2b0 : (a0.toList == ([] : List UInt8)) = true := beq_iff_eq.mpr c2
  have c2b1 : (a0.toList != ([] : List UInt8)) = false := bne_eq_false_iff_eq.mpr c2
  clear c2
  obtain rfl := Option.some.inj H
  go_enter Tryz.func40, Tryz.ntmps40
  go_wp2
  go_ret
  exact ⟨q5_, q0_⟩
 ·rw [if_neg c2] at H
  have c2b0 : (a0.toList == ([] : List UInt8)) = false := beq_eq_false_iff_ne.mpr c2
  have c2b1 : (a0.toList != ([] : List UInt8)) = true := bne_iff_ne.mpr c2
  replace H := Option.bind_eq_some_iff.mp H
  obtain ⟨t120, A30, H⟩ := H
  replace H : (some (t120.toList == ([] : List UInt8))) = some r := H
  have A3 := Aside0.mk A30
  clear A30
  obtain rfl := Option.some.inj H
  go_enter Tryz.func40, Tryz.ntmps40
  go_wp2_with (first | (go_at_call 52; (with_reducible refine (strings_Trim.calls a0 (⟨#[48, 49, 50, 51, 52, 53, 54, 55, 56, 57]⟩ : ByteArray) t120 _ A3.out).mono ?_); rintro e w4 ⟨rfl, hb⟩; replace HB := Aside0.mk (below_step q0_ hb); (try clear hb); (try clear hb2); (try clear hk); (try clear hi)))
  go_ret
  exact ⟨q5_, q0_⟩
def dec_make0.f (a0 : Bool) (a1 : ByteArray) (a2 : Int) : Option (Bool × ByteArray × Int) := (strings_TrimLeft.f a1 (⟨#[48]⟩ : ByteArray)).bind fun t122 => (if (wrap64 ((wrap64 (a2 + 1)) - (t122.size : Int))) > 0 then ((strings_Repeat.f (⟨#[48]⟩ : ByteArray) (wrap64 ((wrap64 (a2 + 1)) - (t122.size : Int)))).bind fun t123 => (if t123.size + t122.size ≤ 9223372036854775807 then (some (a0, t123 ++ t122, a2)) else (none))) else (some (a0, t122, a2)))
set_option maxHeartbeats 8000000 in
set_option maxRecDepth 100000 in
theorem dec_make0.calls (a0 : Bool) (a1 : ByteArray) (a2 : Int) (r1 : Bool) (r2 : ByteArray) (r3 : Int) (w : World) (h : dec_make0.f a0 a1 a2 = some (r1, r2, r3)) :
  Calls Tryz.prog 41 #[.bool a0, .string a1, .int .i64 a2] w fun e w' => e = .returned (.agg #[.bool r1, .string r2, .int .i64 r3]) ∧ Below w.heap.size w w' := by
 have hu46 := Tryz.underlying46
 have HB := Aside0.mk (Below.refl w.heap.size w)
 have H : ((strings_TrimLeft.f a1 (⟨#[48]⟩ : ByteArray)).bind fun t122 => (if (wrap64 ((wrap64 (a2 + 1)) - (t122.size : Int))) > 0 then ((strings_Repeat.f (⟨#[48]⟩ : ByteArray) (wrap64 ((wrap64 (a2 + 1)) - (t122.size : Int)))).bind fun t123 => (if t123.size + t122.size ≤ 9223372036854775807 then (some (a0, t123 ++ t122, a2)) else (none))) else (some (a0, t122, a2)))) = some (r1, r2, r3) := h
 clear h
 replace H := Option.bind_eq_some_iff.mp H
 obtain ⟨t122, A40, H⟩ := H
 replace H : (if (wrap64 ((wrap64 (a2 + 1)) - (t122.size : Int))) > 0 then ((strings_Repeat.f (⟨#[48]⟩ : ByteArray) (wrap64 ((wrap64 (a2 + 1)) - (t122.size : Int)))).bind fun t123 => (if t123.size + t122.size ≤ 9223372036854775807 then (some (a0, t123 ++ t122, a2)) else (none))) else (some (a0, t122, a2))) = some (r1, r2, r3) := H
 have A4 := Aside0.mk A40
 clear A40
 by_cases c5 : (wrap64 ((wrap64 (a2 + 1)) - (t122.size : Int))) > 0
 ·rw [if_pos c5] at H
  have c5b0 : decide (0 < (wrap64 ((wrap64 (a2 + 1)) - (t122.size : Int)))) = true := decide_eq_true c5
  clear c5
  replace H := Option.bind_eq_some_iff.mp H
  obtain ⟨t123, A60, H⟩ := H
  replace H : (if t123.size + t122.size ≤ 9223372036854775807 then (some (a0, t123 ++ t122, a2)) else (none)) = some (r1, r2, r3) := H
  have A6 := Aside0.mk A60
  clear A60
  by_cases c7 : t123.size + t122.size ≤ 9223372036854775807
  ·rw [if_pos c7] at H
   try simp only [show wrap64 ((t123.size : Int) + (t122.size : Int)) = (t123.size : Int) + (t122.size : Int) from by unfold wrap64; omega] at *
   have c7b0 := eq_true c7
   have c7b1 : decide (t123.size + t122.size ≤ 9223372036854775807) = true := decide_eq_true c7
   try have c7b2 : (9223372036854775807 < t123.size + t122.size) = False := eq_false (Nat.not_lt.2 c7)
   simp only [Option.some.injEq, Prod.mk.injEq] at H
   obtain ⟨rfl, rfl, rfl⟩ := H
   go_enter Tryz.func41, Tryz.ntmps41
   go_wp2_with (first | ((with_reducible refine gate_dst (N := 6) rfl ?_); refine box_event ?hg (N := 6) ?hd (cs := #[.bool false, .string (⟨#[]⟩ : ByteArray), .int .i64 0]) (t := 46) ?hr ?_; (case hd => rfl); (case hg => rfl); (case hr => exact u0_); intro gb121 hg w8 hbox hb; have BK121 := Aside0.mk (hbox); have GW121 := Aside0.mk ((q6_ : w.heap.size ≤ gb121)); have GE121 := Aside0.mk ((q6_ : w.heap.size ≤ gb121)); replace HB := Aside0.mk (below_step q0_ hb); clear hb hbox hg) | ((with_reducible refine gate_callee (f := 53) rfl ?_); refine goesL_ (some 9) rfl rfl Tryz.func53 (by kernel_rfl) rfl #[.string a1, .string (⟨#[48]⟩ : ByteArray)] rfl q2_ ?_; (with_reducible refine (strings_TrimLeft.calls a1 (⟨#[48]⟩ : ByteArray) t122 _ A4.out).mono ?_); rintro e w9 ⟨rfl, hb⟩; refine ⟨_, rfl, ?_⟩; replace BK121 := Aside0.mk (blk_below (g := gb121) (o := .cells #[.bool false, .string (⟨#[]⟩ : ByteArray), .int .i64 0] 46 (0, 0)) q10_ hb); replace HB := Aside0.mk (below_step q7_ hb); (try clear hb); (try clear hb2); (try clear hk); (try clear hi)) | ((with_reducible refine gate_callee (f := 54) rfl ?_); refine goesL_ (some 18) rfl rfl Tryz.func54 (by kernel_rfl) rfl #[.string (⟨#[48]⟩ : ByteArray), .int .i64 (wrap64 ((wrap64 (a2 + 1)) - (t122.size : Int)))] rfl q2_ ?_; (with_reducible refine (strings_Repeat.calls (⟨#[48]⟩ : ByteArray) (wrap64 ((wrap64 (a2 + 1)) - (t122.size : Int))) t123 _ A6.out).mono ?_); rintro e w10 ⟨rfl, hb⟩; refine ⟨_, rfl, ?_⟩; replace BK121 := Aside0.mk (blk_below (g := gb121) (o := .cells #[.bool false, .string (⟨#[]⟩ : ByteArray), .int .i64 0] 46 (0, 0)) q10_ hb); replace HB := Aside0.mk (below_step q7_ hb); (try clear hb); (try clear hb2); (try clear hk); (try clear hi); obtain ⟨hcz11_0, hcz11_1, hcz11_2, hfz11_0, hfz11_1, hfz11_2⟩ := cellsF3 BK121.out))
   refine bodyPost_ret (results_cell_row rfl _ _ gb121 46 #[.bool a0, .string (t123 ++ t122), .int .i64 a2] (0, 0) _ rfl (by (with_reducible repeat (first | refine blk_drewN ?_ _ | refine blk_drew ?_ | refine blk_alloc ?_ _)); refine blk_put (cs := #[.bool a0, .string (t123 ++ t122), .int .i64 0]) ?_ 2 _ rfl; (with_reducible repeat (first | refine blk_drewN ?_ _ | refine blk_drew ?_ | refine blk_alloc ?_ _)); refine blk_put (cs := #[.bool a0, .string (⟨#[]⟩ : ByteArray), .int .i64 0]) ?_ 1 _ rfl; (with_reducible repeat (first | refine blk_drewN ?_ _ | refine blk_drew ?_ | refine blk_alloc ?_ _)); refine blk_put (cs := #[.bool false, .string (⟨#[]⟩ : ByteArray), .int .i64 0]) ?_ 0 _ rfl; (with_reducible repeat (first | refine blk_drewN ?_ _ | refine blk_drew ?_ | refine blk_alloc ?_ _)); exact BK121.out) Tryz.underlying46 rfl (by kernel_rfl)) rfl ?_
   exact ⟨q5_, q7_⟩
  ·rw [if_neg c7] at H
   exact absurd H (by simp)
 ·rw [if_neg c5] at H
  have c5b0 : decide (0 < (wrap64 ((wrap64 (a2 + 1)) - (t122.size : Int)))) = false := decide_eq_false c5
  clear c5
  simp only [Option.some.injEq, Prod.mk.injEq] at H
  obtain ⟨rfl, rfl, rfl⟩ := H
  go_enter Tryz.func41, Tryz.ntmps41
  go_wp2_with (first | ((with_reducible refine gate_dst (N := 6) rfl ?_); refine box_event ?hg (N := 6) ?hd (cs := #[.bool false, .string (⟨#[]⟩ : ByteArray), .int .i64 0]) (t := 46) ?hr ?_; (case hd => rfl); (case hg => rfl); (case hr => exact u0_); intro gb121 hg w12 hbox hb; have BK121 := Aside0.mk (hbox); have GW121 := Aside0.mk ((q6_ : w.heap.size ≤ gb121)); have GE121 := Aside0.mk ((q6_ : w.heap.size ≤ gb121)); replace HB := Aside0.mk (below_step q0_ hb); clear hb hbox hg) | ((with_reducible refine gate_callee (f := 53) rfl ?_); refine goesL_ (some 9) rfl rfl Tryz.func53 (by kernel_rfl) rfl #[.string a1, .string (⟨#[48]⟩ : ByteArray)] rfl q2_ ?_; (with_reducible refine (strings_TrimLeft.calls a1 (⟨#[48]⟩ : ByteArray) t122 _ A4.out).mono ?_); rintro e w13 ⟨rfl, hb⟩; refine ⟨_, rfl, ?_⟩; replace BK121 := Aside0.mk (blk_below (g := gb121) (o := .cells #[.bool false, .string (⟨#[]⟩ : ByteArray), .int .i64 0] 46 (0, 0)) q10_ hb); replace HB := Aside0.mk (below_step q7_ hb); (try clear hb); (try clear hb2); (try clear hk); (try clear hi); obtain ⟨hcz14_0, hcz14_1, hcz14_2, hfz14_0, hfz14_1, hfz14_2⟩ := cellsF3 BK121.out))
  refine bodyPost_ret (results_cell_row rfl _ _ gb121 46 #[.bool a0, .string t122, .int .i64 a2] (0, 0) _ rfl (by (with_reducible repeat (first | refine blk_drewN ?_ _ | refine blk_drew ?_ | refine blk_alloc ?_ _)); refine blk_put (cs := #[.bool a0, .string t122, .int .i64 0]) ?_ 2 _ rfl; (with_reducible repeat (first | refine blk_drewN ?_ _ | refine blk_drew ?_ | refine blk_alloc ?_ _)); refine blk_put (cs := #[.bool a0, .string (⟨#[]⟩ : ByteArray), .int .i64 0]) ?_ 1 _ rfl; (with_reducible repeat (first | refine blk_drewN ?_ _ | refine blk_drew ?_ | refine blk_alloc ?_ _)); refine blk_put (cs := #[.bool false, .string (⟨#[]⟩ : ByteArray), .int .i64 0]) ?_ 0 _ rfl; (with_reducible repeat (first | refine blk_drewN ?_ _ | refine blk_drew ?_ | refine blk_alloc ?_ _)); exact BK121.out) Tryz.underlying46 rfl (by kernel_rfl)) rfl ?_
  exact ⟨q5_, q7_⟩
def dec_Parse.f (a0 : ByteArray) : Option (Bool × ByteArray × Int × Bool) := (strings_CutPrefix.f a0 (⟨#[45]⟩ : ByteArray)).bind fun bt125 => ((strings_Cut.f bt125.1 (⟨#[46]⟩ : ByteArray)).bind fun bt127 => ((dec_isDigits.f bt127.1).bind fun t130 => (if t130 = true then (if bt127.2.2 = true then ((dec_isDigits.f bt127.2.1).bind fun t131 => (if t131 = true then (if (wrap64 ((bt127.1.size : Int) + (bt127.2.1.size : Int))) > 40 then (some (false, (⟨#[]⟩ : ByteArray), 0, false)) else (if bt127.1.size + bt127.2.1.size ≤ 9223372036854775807 then ((dec_make0.f bt125.2 (bt127.1 ++ bt127.2.1) (bt127.2.1.size : Int)).bind fun bt132 => (some (bt132.1, bt132.2.1, bt132.2.2, true))) else (none))) else (some (false, (⟨#[]⟩ : ByteArray), 0, false)))) else (if (wrap64 ((bt127.1.size : Int) + (bt127.2.1.size : Int))) > 40 then (some (false, (⟨#[]⟩ : ByteArray), 0, false)) else (if bt127.1.size + bt127.2.1.size ≤ 9223372036854775807 then ((dec_make0.f bt125.2 (bt127.1 ++ bt127.2.1) (bt127.2.1.size : Int)).bind fun bt135 => (some (bt135.1, bt135.2.1, bt135.2.2, true))) else (none)))) else (some (false, (⟨#[]⟩ : ByteArray), 0, false)))))
set_option maxHeartbeats 8000000 in
set_option maxRecDepth 100000 in
theorem dec_Parse.calls (a0 : ByteArray) (r1 : Bool) (r2 : ByteArray) (r3 : Int) (r4 : Bool) (w : World) (h : dec_Parse.f a0 = some (r1, r2, r3, r4)) (HT0_ : Tab_ w := by exact Tab_.step HT0_ (by repeat (first | (with_reducible first | exact HB.out | apply below_alloc | apply pw_below_drewN | apply below_drew1 | refine below_set ?_ (Aside0.out (by assumption))) | exact HB.out))) :
  Calls Tryz.prog 27 #[.string a0] w fun e w' => e = .returned (.tuple #[.agg #[.bool r1, .string r2, .int .i64 r3], .bool r4]) ∧ Below w.heap.size w w' := by
 have hu46 := Tryz.underlying46
 have HB := Aside0.mk (Below.refl w.heap.size w)
 have H : ((strings_CutPrefix.f a0 (⟨#[45]⟩ : ByteArray)).bind fun bt125 => ((strings_Cut.f bt125.1 (⟨#[46]⟩ : ByteArray)).bind fun bt127 => ((dec_isDigits.f bt127.1).bind fun t130 => (if t130 = true then (if bt127.2.2 = true then ((dec_isDigits.f bt127.2.1).bind fun t131 => (if t131 = true then (if (wrap64 ((bt127.1.size : Int) + (bt127.2.1.size : Int))) > 40 then (some (false, (⟨#[]⟩ : ByteArray), 0, false)) else (if bt127.1.size + bt127.2.1.size ≤ 9223372036854775807 then ((dec_make0.f bt125.2 (bt127.1 ++ bt127.2.1) (bt127.2.1.size : Int)).bind fun bt132 => (some (bt132.1, bt132.2.1, bt132.2.2, true))) else (none))) else (some (false, (⟨#[]⟩ : ByteArray), 0, false)))) else (if (wrap64 ((bt127.1.size : Int) + (bt127.2.1.size : Int))) > 40 then (some (false, (⟨#[]⟩ : ByteArray), 0, false)) else (if bt127.1.size + bt127.2.1.size ≤ 9223372036854775807 then ((dec_make0.f bt125.2 (bt127.1 ++ bt127.2.1) (bt127.2.1.size : Int)).bind fun bt135 => (some (bt135.1, bt135.2.1, bt135.2.2, true))) else (none)))) else (some (false, (⟨#[]⟩ : ByteArray), 0, false)))))) = some (r1, r2, r3, r4) := h
 clear h
 replace H := Option.bind_eq_some_iff.mp H
 obtain ⟨⟨t125, t126⟩, A20, H⟩ := H
 replace H : ((strings_Cut.f t125 (⟨#[46]⟩ : ByteArray)).bind fun bt127 => ((dec_isDigits.f bt127.1).bind fun t130 => (if t130 = true then (if bt127.2.2 = true then ((dec_isDigits.f bt127.2.1).bind fun t131 => (if t131 = true then (if (wrap64 ((bt127.1.size : Int) + (bt127.2.1.size : Int))) > 40 then (some (false, (⟨#[]⟩ : ByteArray), 0, false)) else (if bt127.1.size + bt127.2.1.size ≤ 9223372036854775807 then ((dec_make0.f t126 (bt127.1 ++ bt127.2.1) (bt127.2.1.size : Int)).bind fun bt132 => (some (bt132.1, bt132.2.1, bt132.2.2, true))) else (none))) else (some (false, (⟨#[]⟩ : ByteArray), 0, false)))) else (if (wrap64 ((bt127.1.size : Int) + (bt127.2.1.size : Int))) > 40 then (some (false, (⟨#[]⟩ : ByteArray), 0, false)) else (if bt127.1.size + bt127.2.1.size ≤ 9223372036854775807 then ((dec_make0.f t126 (bt127.1 ++ bt127.2.1) (bt127.2.1.size : Int)).bind fun bt135 => (some (bt135.1, bt135.2.1, bt135.2.2, true))) else (none)))) else (some (false, (⟨#[]⟩ : ByteArray), 0, false))))) = some (r1, r2, r3, r4) := H
 have A2 := Aside0.mk A20
 clear A20
 replace H := Option.bind_eq_some_iff.mp H
 obtain ⟨⟨t127, t128, t129⟩, A30, H⟩ := H
 replace H : ((dec_isDigits.f t127).bind fun t130 => (if t130 = true then (if t129 = true then ((dec_isDigits.f t128).bind fun t131 => (if t131 = true then (if (wrap64 ((t127.size : Int) + (t128.size : Int))) > 40 then (some (false, (⟨#[]⟩ : ByteArray), 0, false)) else (if t127.size + t128.size ≤ 9223372036854775807 then ((dec_make0.f t126 (t127 ++ t128) (t128.size : Int)).bind fun bt132 => (some (bt132.1, bt132.2.1, bt132.2.2, true))) else (none))) else (some (false, (⟨#[]⟩ : ByteArray), 0, false)))) else (if (wrap64 ((t127.size : Int) + (t128.size : Int))) > 40 then (some (false, (⟨#[]⟩ : ByteArray), 0, false)) else (if t127.size + t128.size ≤ 9223372036854775807 then ((dec_make0.f t126 (t127 ++ t128) (t128.size : Int)).bind fun bt135 => (some (bt135.1, bt135.2.1, bt135.2.2, true))) else (none)))) else (some (false, (⟨#[]⟩ : ByteArray), 0, false)))) = some (r1, r2, r3, r4) := H
 have A3 := Aside0.mk A30
 clear A30
 replace H := Option.bind_eq_some_iff.mp H
 obtain ⟨t130, A40, H⟩ := H
 replace H : (if t130 = true then (if t129 = true then ((dec_isDigits.f t128).bind fun t131 => (if t131 = true then (if (wrap64 ((t127.size : Int) + (t128.size : Int))) > 40 then (some (false, (⟨#[]⟩ : ByteArray), 0, false)) else (if t127.size + t128.size ≤ 9223372036854775807 then ((dec_make0.f t126 (t127 ++ t128) (t128.size : Int)).bind fun bt132 => (some (bt132.1, bt132.2.1, bt132.2.2, true))) else (none))) else (some (false, (⟨#[]⟩ : ByteArray), 0, false)))) else (if (wrap64 ((t127.size : Int) + (t128.size : Int))) > 40 then (some (false, (⟨#[]⟩ : ByteArray), 0, false)) else (if t127.size + t128.size ≤ 9223372036854775807 then ((dec_make0.f t126 (t127 ++ t128) (t128.size : Int)).bind fun bt135 => (some (bt135.1, bt135.2.1, bt135.2.2, true))) else (none)))) else (some (false, (⟨#[]⟩ : ByteArray), 0, false))) = some (r1, r2, r3, r4) := H
 have A4 := Aside0.mk A40
 clear A40
 by_cases c5 : t130 = true
 ·subst c5
  have H1 : (if t129 = true then ((dec_isDigits.f t128).bind fun t131 => (if t131 = true then (if (wrap64 ((t127.size : Int) + (t128.size : Int))) > 40 then (some (false, (⟨#[]⟩ : ByteArray), 0, false)) else (if t127.size + t128.size ≤ 9223372036854775807 then ((dec_make0.f t126 (t127 ++ t128) (t128.size : Int)).bind fun bt132 => (some (bt132.1, bt132.2.1, bt132.2.2, true))) else (none))) else (some (false, (⟨#[]⟩ : ByteArray), 0, false)))) else (if (wrap64 ((t127.size : Int) + (t128.size : Int))) > 40 then (some (false, (⟨#[]⟩ : ByteArray), 0, false)) else (if t127.size + t128.size ≤ 9223372036854775807 then ((dec_make0.f t126 (t127 ++ t128) (t128.size : Int)).bind fun bt135 => (some (bt135.1, bt135.2.1, bt135.2.2, true))) else (none)))) = some (r1, r2, r3, r4) := by rw [if_pos rfl] at H; exact H
  clear H
  have H := H1
  clear H1
  by_cases c6 : t129 = true
  ·subst c6
   have H1 : ((dec_isDigits.f t128).bind fun t131 => (if t131 = true then (if (wrap64 ((t127.size : Int) + (t128.size : Int))) > 40 then (some (false, (⟨#[]⟩ : ByteArray), 0, false)) else (if t127.size + t128.size ≤ 9223372036854775807 then ((dec_make0.f t126 (t127 ++ t128) (t128.size : Int)).bind fun bt132 => (some (bt132.1, bt132.2.1, bt132.2.2, true))) else (none))) else (some (false, (⟨#[]⟩ : ByteArray), 0, false)))) = some (r1, r2, r3, r4) := by rw [if_pos rfl] at H; exact H
   clear H
   have H := H1
   clear H1
   replace H := Option.bind_eq_some_iff.mp H
   obtain ⟨t131, A70, H⟩ := H
   replace H : (if t131 = true then (if (wrap64 ((t127.size : Int) + (t128.size : Int))) > 40 then (some (false, (⟨#[]⟩ : ByteArray), 0, false)) else (if t127.size + t128.size ≤ 9223372036854775807 then ((dec_make0.f t126 (t127 ++ t128) (t128.size : Int)).bind fun bt132 => (some (bt132.1, bt132.2.1, bt132.2.2, true))) else (none))) else (some (false, (⟨#[]⟩ : ByteArray), 0, false))) = some (r1, r2, r3, r4) := H
   have A7 := Aside0.mk A70
   clear A70
   by_cases c8 : t131 = true
   ·subst c8
    have H1 : (if (wrap64 ((t127.size : Int) + (t128.size : Int))) > 40 then (some (false, (⟨#[]⟩ : ByteArray), 0, false)) else (if t127.size + t128.size ≤ 9223372036854775807 then ((dec_make0.f t126 (t127 ++ t128) (t128.size : Int)).bind fun bt132 => (some (bt132.1, bt132.2.1, bt132.2.2, true))) else (none))) = some (r1, r2, r3, r4) := by rw [if_pos rfl] at H; exact H
    clear H
    have H := H1
    clear H1
    by_cases c9 : (wrap64 ((t127.size : Int) + (t128.size : Int))) > 40
    ·rw [if_pos c9] at H
     have c9b0 : decide (40 < (wrap64 ((t127.size : Int) + (t128.size : Int)))) = true := decide_eq_true c9
     clear c9
     simp only [Option.some.injEq, Prod.mk.injEq] at H
     obtain ⟨rfl, rfl, rfl, rfl⟩ := H
     go_enter Tryz.func27, Tryz.ntmps27
     go_wp2_with (first | ((with_reducible refine gate_dst (N := 2) rfl ?_); (try (refine gate_guard (by rfl) ?_; dsimp only)); refine box_event ?hg (N := 2) ?hd (cs := #[.bool false, .string (⟨#[]⟩ : ByteArray), .int .i64 0]) (t := 46) ?hr ?_; (case hd => rfl); (case hg => rfl); (case hr => exact u0_); intro gb124 hg w10 hbox hb; have BK124 := Aside0.mk (hbox); have GW124 := Aside0.mk ((q6_ : w.heap.size ≤ gb124)); have GE124 := Aside0.mk ((q6_ : w.heap.size ≤ gb124)); replace HB := Aside0.mk (below_step q0_ hb); clear hb hbox hg) | ((with_reducible refine gate_callee (f := 38) rfl ?_); refine goesL_ (some 11) rfl rfl Tryz.func38 (by kernel_rfl) rfl #[.string a0, .string (⟨#[45]⟩ : ByteArray)] rfl q2_ ?_; (with_reducible refine (strings_CutPrefix.calls a0 (⟨#[45]⟩ : ByteArray) t125 t126 _ A2.out).mono ?_); rintro e w11 ⟨rfl, hb⟩; refine ⟨_, rfl, ?_⟩; replace BK124 := Aside0.mk (blk_below (g := gb124) (o := .cells #[.bool false, .string (⟨#[]⟩ : ByteArray), .int .i64 0] 46 (0, 0)) q3_ hb); replace HB := Aside0.mk (below_step q1_ hb); (try clear hb); (try clear hb2); (try clear hk); (try clear hi)) | ((with_reducible refine gate_callee (f := 39) rfl ?_); refine goesL_ (some 16) rfl rfl Tryz.func39 (by kernel_rfl) rfl #[.string t125, .string (⟨#[46]⟩ : ByteArray)] rfl q2_ ?_; (with_reducible refine (strings_Cut.calls t125 (⟨#[46]⟩ : ByteArray) t127 t128 true _ A3.out).mono ?_); rintro e w12 ⟨rfl, hb⟩; refine ⟨_, rfl, ?_⟩; replace BK124 := Aside0.mk (blk_below (g := gb124) (o := .cells #[.bool false, .string (⟨#[]⟩ : ByteArray), .int .i64 0] 46 (0, 0)) q3_ hb); replace HB := Aside0.mk (below_step q1_ hb); (try clear hb); (try clear hb2); (try clear hk); (try clear hi)) | ((with_reducible refine gate_callee (f := 40) rfl ?_); refine goesL_ (some 21) rfl rfl Tryz.func40 (by kernel_rfl) rfl #[.string t127] rfl q2_ ?_; (with_reducible refine (dec_isDigits.calls t127 true _ A4.out).mono ?_); rintro e w13 ⟨rfl, hb⟩; refine ⟨_, rfl, ?_⟩; replace BK124 := Aside0.mk (blk_below (g := gb124) (o := .cells #[.bool false, .string (⟨#[]⟩ : ByteArray), .int .i64 0] 46 (0, 0)) q3_ hb); replace HB := Aside0.mk (below_step q1_ hb); (try clear hb); (try clear hb2); (try clear hk); (try clear hi)) | (go_at_call 40; (with_reducible refine (dec_isDigits.calls t128 true _ A7.out).mono ?_); rintro e w14 ⟨rfl, hb⟩; replace BK124 := Aside0.mk (blk_below (g := gb124) (o := .cells #[.bool false, .string (⟨#[]⟩ : ByteArray), .int .i64 0] 46 (0, 0)) q3_ hb); replace HB := Aside0.mk (below_step q1_ hb); (try clear hb); (try clear hb2); (try clear hk); (try clear hi); obtain ⟨hcz15_0, hcz15_1, hcz15_2, hfz15_0, hfz15_1, hfz15_2⟩ := cellsF3 BK124.out))
     refine bodyPost_ret (results_ct rfl _ _ gb124 46 #[.bool false, .string (⟨#[]⟩ : ByteArray), .int .i64 0] (0, 0) _ rfl q4_ Tryz.underlying46 rfl (by kernel_rfl)) rfl ?_
     exact ⟨q5_, q1_⟩
    ·rw [if_neg c9] at H
     have c9b0 : decide (40 < (wrap64 ((t127.size : Int) + (t128.size : Int)))) = false := decide_eq_false c9
     clear c9
     by_cases c16 : t127.size + t128.size ≤ 9223372036854775807
     ·rw [if_pos c16] at H
      try simp only [show wrap64 ((t127.size : Int) + (t128.size : Int)) = (t127.size : Int) + (t128.size : Int) from by unfold wrap64; omega] at *
      have c16b0 := eq_true c16
      have c16b1 : decide (t127.size + t128.size ≤ 9223372036854775807) = true := decide_eq_true c16
      try have c16b2 : (9223372036854775807 < t127.size + t128.size) = False := eq_false (Nat.not_lt.2 c16)
      replace H := Option.bind_eq_some_iff.mp H
      obtain ⟨⟨t132, t133, t134⟩, A170, H⟩ := H
      replace H : (some (t132, t133, t134, true)) = some (r1, r2, r3, r4) := H
      have A17 := Aside0.mk A170
      clear A170
      simp only [Option.some.injEq, Prod.mk.injEq] at H
      obtain ⟨rfl, rfl, rfl, rfl⟩ := H
      go_enter Tryz.func27, Tryz.ntmps27
      go_wp2_with (first | ((with_reducible refine gate_dst (N := 2) rfl ?_); (try (refine gate_guard (by rfl) ?_; dsimp only)); refine box_event ?hg (N := 2) ?hd (cs := #[.bool false, .string (⟨#[]⟩ : ByteArray), .int .i64 0]) (t := 46) ?hr ?_; (case hd => rfl); (case hg => rfl); (case hr => exact u0_); intro gb124 hg w18 hbox hb; have BK124 := Aside0.mk (hbox); have GW124 := Aside0.mk ((q6_ : w.heap.size ≤ gb124)); have GE124 := Aside0.mk ((q6_ : w.heap.size ≤ gb124)); replace HB := Aside0.mk (below_step q0_ hb); clear hb hbox hg) | ((with_reducible refine gate_callee (f := 38) rfl ?_); refine goesL_ (some 11) rfl rfl Tryz.func38 (by kernel_rfl) rfl #[.string a0, .string (⟨#[45]⟩ : ByteArray)] rfl q2_ ?_; (with_reducible refine (strings_CutPrefix.calls a0 (⟨#[45]⟩ : ByteArray) t125 t126 _ A2.out).mono ?_); rintro e w19 ⟨rfl, hb⟩; refine ⟨_, rfl, ?_⟩; replace BK124 := Aside0.mk (blk_below (g := gb124) (o := .cells #[.bool false, .string (⟨#[]⟩ : ByteArray), .int .i64 0] 46 (0, 0)) q3_ hb); replace HB := Aside0.mk (below_step q1_ hb); (try clear hb); (try clear hb2); (try clear hk); (try clear hi)) | ((with_reducible refine gate_callee (f := 39) rfl ?_); refine goesL_ (some 16) rfl rfl Tryz.func39 (by kernel_rfl) rfl #[.string t125, .string (⟨#[46]⟩ : ByteArray)] rfl q2_ ?_; (with_reducible refine (strings_Cut.calls t125 (⟨#[46]⟩ : ByteArray) t127 t128 true _ A3.out).mono ?_); rintro e w20 ⟨rfl, hb⟩; refine ⟨_, rfl, ?_⟩; replace BK124 := Aside0.mk (blk_below (g := gb124) (o := .cells #[.bool false, .string (⟨#[]⟩ : ByteArray), .int .i64 0] 46 (0, 0)) q3_ hb); replace HB := Aside0.mk (below_step q1_ hb); (try clear hb); (try clear hb2); (try clear hk); (try clear hi)) | ((with_reducible refine gate_callee (f := 40) rfl ?_); refine goesL_ (some 21) rfl rfl Tryz.func40 (by kernel_rfl) rfl #[.string t127] rfl q2_ ?_; (with_reducible refine (dec_isDigits.calls t127 true _ A4.out).mono ?_); rintro e w21 ⟨rfl, hb⟩; refine ⟨_, rfl, ?_⟩; replace BK124 := Aside0.mk (blk_below (g := gb124) (o := .cells #[.bool false, .string (⟨#[]⟩ : ByteArray), .int .i64 0] 46 (0, 0)) q3_ hb); replace HB := Aside0.mk (below_step q1_ hb); (try clear hb); (try clear hb2); (try clear hk); (try clear hi)) | (go_at_call 40; (with_reducible refine (dec_isDigits.calls t128 true _ A7.out).mono ?_); rintro e w22 ⟨rfl, hb⟩; replace BK124 := Aside0.mk (blk_below (g := gb124) (o := .cells #[.bool false, .string (⟨#[]⟩ : ByteArray), .int .i64 0] 46 (0, 0)) q3_ hb); replace HB := Aside0.mk (below_step q1_ hb); (try clear hb); (try clear hb2); (try clear hk); (try clear hi)) | ((with_reducible refine gate_callee (f := 41) rfl ?_); refine goesL_ (some 46) rfl rfl Tryz.func41 (by kernel_rfl) rfl #[.bool t126, .string (t127 ++ t128), .int .i64 (t128.size : Int)] rfl q2_ ?_; (with_reducible refine (dec_make0.calls t126 (t127 ++ t128) (t128.size : Int) t132 t133 t134 _ A17.out).mono ?_); rintro e w23 ⟨rfl, hb⟩; refine ⟨_, rfl, ?_⟩; replace BK124 := Aside0.mk (blk_below (g := gb124) (o := .cells #[.bool false, .string (⟨#[]⟩ : ByteArray), .int .i64 0] 46 (0, 0)) q3_ hb); replace HB := Aside0.mk (below_step q1_ hb); (try clear hb); (try clear hb2); (try clear hk); (try clear hi); obtain ⟨hcz24_0, hcz24_1, hcz24_2, hfz24_0, hfz24_1, hfz24_2⟩ := cellsF3 BK124.out))
      refine bodyPost_ret (results_ct rfl _ _ gb124 46 #[.bool t132, .string t133, .int .i64 t134] (0, 0) _ rfl (by (with_reducible repeat (first | refine blk_drewN ?_ _ | refine blk_drew ?_ | refine blk_alloc ?_ _)); refine blk_put (cs := #[.bool t132, .string t133, .int .i64 0]) ?_ 2 _ rfl; (with_reducible repeat (first | refine blk_drewN ?_ _ | refine blk_drew ?_ | refine blk_alloc ?_ _)); refine blk_put (cs := #[.bool t132, .string (⟨#[]⟩ : ByteArray), .int .i64 0]) ?_ 1 _ rfl; (with_reducible repeat (first | refine blk_drewN ?_ _ | refine blk_drew ?_ | refine blk_alloc ?_ _)); refine blk_put (cs := #[.bool false, .string (⟨#[]⟩ : ByteArray), .int .i64 0]) ?_ 0 _ rfl; (with_reducible repeat (first | refine blk_drewN ?_ _ | refine blk_drew ?_ | refine blk_alloc ?_ _)); exact BK124.out) Tryz.underlying46 rfl (by kernel_rfl)) rfl ?_
      exact ⟨q5_, q1_⟩
     ·rw [if_neg c16] at H
      exact absurd H (by simp)
   ·replace c8 := Bool.eq_false_iff.mpr c8
    subst c8
    have H1 : (some (false, (⟨#[]⟩ : ByteArray), 0, false)) = some (r1, r2, r3, r4) := by rw [if_neg (show ¬ (false = true) by decide)] at H; exact H
    clear H
    have H := H1
    clear H1
    simp only [Option.some.injEq, Prod.mk.injEq] at H
    obtain ⟨rfl, rfl, rfl, rfl⟩ := H
    go_enter Tryz.func27, Tryz.ntmps27
    go_wp2_with (first | ((with_reducible refine gate_dst (N := 2) rfl ?_); (try (refine gate_guard (by rfl) ?_; dsimp only)); refine box_event ?hg (N := 2) ?hd (cs := #[.bool false, .string (⟨#[]⟩ : ByteArray), .int .i64 0]) (t := 46) ?hr ?_; (case hd => rfl); (case hg => rfl); (case hr => exact u0_); intro gb124 hg w25 hbox hb; have BK124 := Aside0.mk (hbox); have GW124 := Aside0.mk ((q6_ : w.heap.size ≤ gb124)); have GE124 := Aside0.mk ((q6_ : w.heap.size ≤ gb124)); replace HB := Aside0.mk (below_step q0_ hb); clear hb hbox hg) | ((with_reducible refine gate_callee (f := 38) rfl ?_); refine goesL_ (some 11) rfl rfl Tryz.func38 (by kernel_rfl) rfl #[.string a0, .string (⟨#[45]⟩ : ByteArray)] rfl q2_ ?_; (with_reducible refine (strings_CutPrefix.calls a0 (⟨#[45]⟩ : ByteArray) t125 t126 _ A2.out).mono ?_); rintro e w26 ⟨rfl, hb⟩; refine ⟨_, rfl, ?_⟩; replace BK124 := Aside0.mk (blk_below (g := gb124) (o := .cells #[.bool false, .string (⟨#[]⟩ : ByteArray), .int .i64 0] 46 (0, 0)) q3_ hb); replace HB := Aside0.mk (below_step q1_ hb); (try clear hb); (try clear hb2); (try clear hk); (try clear hi)) | ((with_reducible refine gate_callee (f := 39) rfl ?_); refine goesL_ (some 16) rfl rfl Tryz.func39 (by kernel_rfl) rfl #[.string t125, .string (⟨#[46]⟩ : ByteArray)] rfl q2_ ?_; (with_reducible refine (strings_Cut.calls t125 (⟨#[46]⟩ : ByteArray) t127 t128 true _ A3.out).mono ?_); rintro e w27 ⟨rfl, hb⟩; refine ⟨_, rfl, ?_⟩; replace BK124 := Aside0.mk (blk_below (g := gb124) (o := .cells #[.bool false, .string (⟨#[]⟩ : ByteArray), .int .i64 0] 46 (0, 0)) q3_ hb); replace HB := Aside0.mk (below_step q1_ hb); (try clear hb); (try clear hb2); (try clear hk); (try clear hi)) | ((with_reducible refine gate_callee (f := 40) rfl ?_); refine goesL_ (some 21) rfl rfl Tryz.func40 (by kernel_rfl) rfl #[.string t127] rfl q2_ ?_; (with_reducible refine (dec_isDigits.calls t127 true _ A4.out).mono ?_); rintro e w28 ⟨rfl, hb⟩; refine ⟨_, rfl, ?_⟩; replace BK124 := Aside0.mk (blk_below (g := gb124) (o := .cells #[.bool false, .string (⟨#[]⟩ : ByteArray), .int .i64 0] 46 (0, 0)) q3_ hb); replace HB := Aside0.mk (below_step q1_ hb); (try clear hb); (try clear hb2); (try clear hk); (try clear hi)) | (go_at_call 40; (with_reducible refine (dec_isDigits.calls t128 false _ A7.out).mono ?_); rintro e w29 ⟨rfl, hb⟩; replace BK124 := Aside0.mk (blk_below (g := gb124) (o := .cells #[.bool false, .string (⟨#[]⟩ : ByteArray), .int .i64 0] 46 (0, 0)) q3_ hb); replace HB := Aside0.mk (below_step q1_ hb); (try clear hb); (try clear hb2); (try clear hk); (try clear hi); obtain ⟨hcz30_0, hcz30_1, hcz30_2, hfz30_0, hfz30_1, hfz30_2⟩ := cellsF3 BK124.out))
    refine bodyPost_ret (results_ct rfl _ _ gb124 46 #[.bool false, .string (⟨#[]⟩ : ByteArray), .int .i64 0] (0, 0) _ rfl q4_ Tryz.underlying46 rfl (by kernel_rfl)) rfl ?_
    exact ⟨q5_, q1_⟩
  ·replace c6 := Bool.eq_false_iff.mpr c6
   subst c6
   have H1 : (if (wrap64 ((t127.size : Int) + (t128.size : Int))) > 40 then (some (false, (⟨#[]⟩ : ByteArray), 0, false)) else (if t127.size + t128.size ≤ 9223372036854775807 then ((dec_make0.f t126 (t127 ++ t128) (t128.size : Int)).bind fun bt135 => (some (bt135.1, bt135.2.1, bt135.2.2, true))) else (none))) = some (r1, r2, r3, r4) := by rw [if_neg (show ¬ (false = true) by decide)] at H; exact H
   clear H
   have H := H1
   clear H1
   by_cases c31 : (wrap64 ((t127.size : Int) + (t128.size : Int))) > 40
   ·rw [if_pos c31] at H
    have c31b0 : decide (40 < (wrap64 ((t127.size : Int) + (t128.size : Int)))) = true := decide_eq_true c31
    clear c31
    simp only [Option.some.injEq, Prod.mk.injEq] at H
    obtain ⟨rfl, rfl, rfl, rfl⟩ := H
    go_enter Tryz.func27, Tryz.ntmps27
    go_wp2_with (first | ((with_reducible refine gate_dst (N := 2) rfl ?_); (try (refine gate_guard (by rfl) ?_; dsimp only)); refine box_event ?hg (N := 2) ?hd (cs := #[.bool false, .string (⟨#[]⟩ : ByteArray), .int .i64 0]) (t := 46) ?hr ?_; (case hd => rfl); (case hg => rfl); (case hr => exact u0_); intro gb124 hg w32 hbox hb; have BK124 := Aside0.mk (hbox); have GW124 := Aside0.mk ((q6_ : w.heap.size ≤ gb124)); have GE124 := Aside0.mk ((q6_ : w.heap.size ≤ gb124)); replace HB := Aside0.mk (below_step q0_ hb); clear hb hbox hg) | ((with_reducible refine gate_callee (f := 38) rfl ?_); refine goesL_ (some 11) rfl rfl Tryz.func38 (by kernel_rfl) rfl #[.string a0, .string (⟨#[45]⟩ : ByteArray)] rfl q2_ ?_; (with_reducible refine (strings_CutPrefix.calls a0 (⟨#[45]⟩ : ByteArray) t125 t126 _ A2.out).mono ?_); rintro e w33 ⟨rfl, hb⟩; refine ⟨_, rfl, ?_⟩; replace BK124 := Aside0.mk (blk_below (g := gb124) (o := .cells #[.bool false, .string (⟨#[]⟩ : ByteArray), .int .i64 0] 46 (0, 0)) q3_ hb); replace HB := Aside0.mk (below_step q1_ hb); (try clear hb); (try clear hb2); (try clear hk); (try clear hi)) | ((with_reducible refine gate_callee (f := 39) rfl ?_); refine goesL_ (some 16) rfl rfl Tryz.func39 (by kernel_rfl) rfl #[.string t125, .string (⟨#[46]⟩ : ByteArray)] rfl q2_ ?_; (with_reducible refine (strings_Cut.calls t125 (⟨#[46]⟩ : ByteArray) t127 t128 false _ A3.out).mono ?_); rintro e w34 ⟨rfl, hb⟩; refine ⟨_, rfl, ?_⟩; replace BK124 := Aside0.mk (blk_below (g := gb124) (o := .cells #[.bool false, .string (⟨#[]⟩ : ByteArray), .int .i64 0] 46 (0, 0)) q3_ hb); replace HB := Aside0.mk (below_step q1_ hb); (try clear hb); (try clear hb2); (try clear hk); (try clear hi)) | ((with_reducible refine gate_callee (f := 40) rfl ?_); refine goesL_ (some 21) rfl rfl Tryz.func40 (by kernel_rfl) rfl #[.string t127] rfl q2_ ?_; (with_reducible refine (dec_isDigits.calls t127 true _ A4.out).mono ?_); rintro e w35 ⟨rfl, hb⟩; refine ⟨_, rfl, ?_⟩; replace BK124 := Aside0.mk (blk_below (g := gb124) (o := .cells #[.bool false, .string (⟨#[]⟩ : ByteArray), .int .i64 0] 46 (0, 0)) q3_ hb); replace HB := Aside0.mk (below_step q1_ hb); (try clear hb); (try clear hb2); (try clear hk); (try clear hi); obtain ⟨hcz36_0, hcz36_1, hcz36_2, hfz36_0, hfz36_1, hfz36_2⟩ := cellsF3 BK124.out))
    refine bodyPost_ret (results_ct rfl _ _ gb124 46 #[.bool false, .string (⟨#[]⟩ : ByteArray), .int .i64 0] (0, 0) _ rfl q4_ Tryz.underlying46 rfl (by kernel_rfl)) rfl ?_
    exact ⟨q5_, q1_⟩
   ·rw [if_neg c31] at H
    have c31b0 : decide (40 < (wrap64 ((t127.size : Int) + (t128.size : Int)))) = false := decide_eq_false c31
    clear c31
    by_cases c37 : t127.size + t128.size ≤ 9223372036854775807
    ·rw [if_pos c37] at H
     try simp only [show wrap64 ((t127.size : Int) + (t128.size : Int)) = (t127.size : Int) + (t128.size : Int) from by unfold wrap64; omega] at *
     have c37b0 := eq_true c37
     have c37b1 : decide (t127.size + t128.size ≤ 9223372036854775807) = true := decide_eq_true c37
     try have c37b2 : (9223372036854775807 < t127.size + t128.size) = False := eq_false (Nat.not_lt.2 c37)
     replace H := Option.bind_eq_some_iff.mp H
     obtain ⟨⟨t135, t136, t137⟩, A380, H⟩ := H
     replace H : (some (t135, t136, t137, true)) = some (r1, r2, r3, r4) := H
     have A38 := Aside0.mk A380
     clear A380
     simp only [Option.some.injEq, Prod.mk.injEq] at H
     obtain ⟨rfl, rfl, rfl, rfl⟩ := H
     go_enter Tryz.func27, Tryz.ntmps27
     go_wp2_with (first | ((with_reducible refine gate_dst (N := 2) rfl ?_); (try (refine gate_guard (by rfl) ?_; dsimp only)); refine box_event ?hg (N := 2) ?hd (cs := #[.bool false, .string (⟨#[]⟩ : ByteArray), .int .i64 0]) (t := 46) ?hr ?_; (case hd => rfl); (case hg => rfl); (case hr => exact u0_); intro gb124 hg w39 hbox hb; have BK124 := Aside0.mk (hbox); have GW124 := Aside0.mk ((q6_ : w.heap.size ≤ gb124)); have GE124 := Aside0.mk ((q6_ : w.heap.size ≤ gb124)); replace HB := Aside0.mk (below_step q0_ hb); clear hb hbox hg) | ((with_reducible refine gate_callee (f := 38) rfl ?_); refine goesL_ (some 11) rfl rfl Tryz.func38 (by kernel_rfl) rfl #[.string a0, .string (⟨#[45]⟩ : ByteArray)] rfl q2_ ?_; (with_reducible refine (strings_CutPrefix.calls a0 (⟨#[45]⟩ : ByteArray) t125 t126 _ A2.out).mono ?_); rintro e w40 ⟨rfl, hb⟩; refine ⟨_, rfl, ?_⟩; replace BK124 := Aside0.mk (blk_below (g := gb124) (o := .cells #[.bool false, .string (⟨#[]⟩ : ByteArray), .int .i64 0] 46 (0, 0)) q3_ hb); replace HB := Aside0.mk (below_step q1_ hb); (try clear hb); (try clear hb2); (try clear hk); (try clear hi)) | ((with_reducible refine gate_callee (f := 39) rfl ?_); refine goesL_ (some 16) rfl rfl Tryz.func39 (by kernel_rfl) rfl #[.string t125, .string (⟨#[46]⟩ : ByteArray)] rfl q2_ ?_; (with_reducible refine (strings_Cut.calls t125 (⟨#[46]⟩ : ByteArray) t127 t128 false _ A3.out).mono ?_); rintro e w41 ⟨rfl, hb⟩; refine ⟨_, rfl, ?_⟩; replace BK124 := Aside0.mk (blk_below (g := gb124) (o := .cells #[.bool false, .string (⟨#[]⟩ : ByteArray), .int .i64 0] 46 (0, 0)) q3_ hb); replace HB := Aside0.mk (below_step q1_ hb); (try clear hb); (try clear hb2); (try clear hk); (try clear hi)) | ((with_reducible refine gate_callee (f := 40) rfl ?_); refine goesL_ (some 21) rfl rfl Tryz.func40 (by kernel_rfl) rfl #[.string t127] rfl q2_ ?_; (with_reducible refine (dec_isDigits.calls t127 true _ A4.out).mono ?_); rintro e w42 ⟨rfl, hb⟩; refine ⟨_, rfl, ?_⟩; replace BK124 := Aside0.mk (blk_below (g := gb124) (o := .cells #[.bool false, .string (⟨#[]⟩ : ByteArray), .int .i64 0] 46 (0, 0)) q3_ hb); replace HB := Aside0.mk (below_step q1_ hb); (try clear hb); (try clear hb2); (try clear hk); (try clear hi)) | ((with_reducible refine gate_callee (f := 41) rfl ?_); refine goesL_ (some 46) rfl rfl Tryz.func41 (by kernel_rfl) rfl #[.bool t126, .string (t127 ++ t128), .int .i64 (t128.size : Int)] rfl q2_ ?_; (with_reducible refine (dec_make0.calls t126 (t127 ++ t128) (t128.size : Int) t135 t136 t137 _ A38.out).mono ?_); rintro e w43 ⟨rfl, hb⟩; refine ⟨_, rfl, ?_⟩; replace BK124 := Aside0.mk (blk_below (g := gb124) (o := .cells #[.bool false, .string (⟨#[]⟩ : ByteArray), .int .i64 0] 46 (0, 0)) q3_ hb); replace HB := Aside0.mk (below_step q1_ hb); (try clear hb); (try clear hb2); (try clear hk); (try clear hi); obtain ⟨hcz44_0, hcz44_1, hcz44_2, hfz44_0, hfz44_1, hfz44_2⟩ := cellsF3 BK124.out))
     refine bodyPost_ret (results_ct rfl _ _ gb124 46 #[.bool t135, .string t136, .int .i64 t137] (0, 0) _ rfl (by (with_reducible repeat (first | refine blk_drewN ?_ _ | refine blk_drew ?_ | refine blk_alloc ?_ _)); refine blk_put (cs := #[.bool t135, .string t136, .int .i64 0]) ?_ 2 _ rfl; (with_reducible repeat (first | refine blk_drewN ?_ _ | refine blk_drew ?_ | refine blk_alloc ?_ _)); refine blk_put (cs := #[.bool t135, .string (⟨#[]⟩ : ByteArray), .int .i64 0]) ?_ 1 _ rfl; (with_reducible repeat (first | refine blk_drewN ?_ _ | refine blk_drew ?_ | refine blk_alloc ?_ _)); refine blk_put (cs := #[.bool false, .string (⟨#[]⟩ : ByteArray), .int .i64 0]) ?_ 0 _ rfl; (with_reducible repeat (first | refine blk_drewN ?_ _ | refine blk_drew ?_ | refine blk_alloc ?_ _)); exact BK124.out) Tryz.underlying46 rfl (by kernel_rfl)) rfl ?_
     exact ⟨q5_, q1_⟩
    ·rw [if_neg c37] at H
     exact absurd H (by simp)
 ·replace c5 := Bool.eq_false_iff.mpr c5
  subst c5
  have H1 : (some (false, (⟨#[]⟩ : ByteArray), 0, false)) = some (r1, r2, r3, r4) := by rw [if_neg (show ¬ (false = true) by decide)] at H; exact H
  clear H
  have H := H1
  clear H1
  simp only [Option.some.injEq, Prod.mk.injEq] at H
  obtain ⟨rfl, rfl, rfl, rfl⟩ := H
  go_enter Tryz.func27, Tryz.ntmps27
  go_wp2_with (first | ((with_reducible refine gate_dst (N := 2) rfl ?_); (try (refine gate_guard (by rfl) ?_; dsimp only)); refine box_event ?hg (N := 2) ?hd (cs := #[.bool false, .string (⟨#[]⟩ : ByteArray), .int .i64 0]) (t := 46) ?hr ?_; (case hd => rfl); (case hg => rfl); (case hr => exact u0_); intro gb124 hg w45 hbox hb; have BK124 := Aside0.mk (hbox); have GW124 := Aside0.mk ((q6_ : w.heap.size ≤ gb124)); have GE124 := Aside0.mk ((q6_ : w.heap.size ≤ gb124)); replace HB := Aside0.mk (below_step q0_ hb); clear hb hbox hg) | ((with_reducible refine gate_callee (f := 38) rfl ?_); refine goesL_ (some 11) rfl rfl Tryz.func38 (by kernel_rfl) rfl #[.string a0, .string (⟨#[45]⟩ : ByteArray)] rfl q2_ ?_; (with_reducible refine (strings_CutPrefix.calls a0 (⟨#[45]⟩ : ByteArray) t125 t126 _ A2.out).mono ?_); rintro e w46 ⟨rfl, hb⟩; refine ⟨_, rfl, ?_⟩; replace BK124 := Aside0.mk (blk_below (g := gb124) (o := .cells #[.bool false, .string (⟨#[]⟩ : ByteArray), .int .i64 0] 46 (0, 0)) q3_ hb); replace HB := Aside0.mk (below_step q1_ hb); (try clear hb); (try clear hb2); (try clear hk); (try clear hi)) | ((with_reducible refine gate_callee (f := 39) rfl ?_); refine goesL_ (some 16) rfl rfl Tryz.func39 (by kernel_rfl) rfl #[.string t125, .string (⟨#[46]⟩ : ByteArray)] rfl q2_ ?_; (with_reducible refine (strings_Cut.calls t125 (⟨#[46]⟩ : ByteArray) t127 t128 t129 _ A3.out).mono ?_); rintro e w47 ⟨rfl, hb⟩; refine ⟨_, rfl, ?_⟩; replace BK124 := Aside0.mk (blk_below (g := gb124) (o := .cells #[.bool false, .string (⟨#[]⟩ : ByteArray), .int .i64 0] 46 (0, 0)) q3_ hb); replace HB := Aside0.mk (below_step q1_ hb); (try clear hb); (try clear hb2); (try clear hk); (try clear hi)) | ((with_reducible refine gate_callee (f := 40) rfl ?_); refine goesL_ (some 21) rfl rfl Tryz.func40 (by kernel_rfl) rfl #[.string t127] rfl q2_ ?_; (with_reducible refine (dec_isDigits.calls t127 false _ A4.out).mono ?_); rintro e w48 ⟨rfl, hb⟩; refine ⟨_, rfl, ?_⟩; replace BK124 := Aside0.mk (blk_below (g := gb124) (o := .cells #[.bool false, .string (⟨#[]⟩ : ByteArray), .int .i64 0] 46 (0, 0)) q3_ hb); replace HB := Aside0.mk (below_step q1_ hb); (try clear hb); (try clear hb2); (try clear hk); (try clear hi); obtain ⟨hcz49_0, hcz49_1, hcz49_2, hfz49_0, hfz49_1, hfz49_2⟩ := cellsF3 BK124.out))
  refine bodyPost_ret (results_ct rfl _ _ gb124 46 #[.bool false, .string (⟨#[]⟩ : ByteArray), .int .i64 0] (0, 0) _ rfl q4_ Tryz.underlying46 rfl (by kernel_rfl)) rfl ?_
  exact ⟨q5_, q1_⟩
def number_Default.f  : Option (Int × Int × Int × Bool × Bool) := some (1, 0, 3, false, false)
set_option maxHeartbeats 8000000 in
set_option maxRecDepth 100000 in
theorem number_Default.calls  (r1 : Int) (r2 : Int) (r3 : Int) (r4 : Bool) (r5 : Bool) (w : World) (h : number_Default.f  = some (r1, r2, r3, r4, r5)) :
  Calls Tryz.prog 42 #[] w fun e w' => e = .returned (.agg #[.int .i64 r1, .int .i64 r2, .int .i64 r3, .bool r4, .bool r5]) ∧ Below w.heap.size w w' := by
 have hu48 := Tryz.underlying48
 have HB := Aside0.mk (Below.refl w.heap.size w)
 have H : (some (1, 0, 3, false, false)) = some (r1, r2, r3, r4, r5) := h
 clear h
 simp only [Option.some.injEq, Prod.mk.injEq] at H
 obtain ⟨rfl, rfl, rfl, rfl, rfl⟩ := H
 go_enter Tryz.func42, Tryz.ntmps42
 go_wp2_with (first | ((with_reducible refine gate_dst (N := 0) rfl ?_); refine box_event ?hg (N := 0) ?hd (cs := #[.int .i64 0, .int .i64 0, .int .i64 0, .bool false, .bool false]) (t := 48) ?hr ?_; (case hd => rfl); (case hg => rfl); (case hr => exact u0_); intro gb138 hg w1 hbox hb; have BK138 := Aside0.mk (hbox); have GW138 := Aside0.mk ((q6_ : w.heap.size ≤ gb138)); have GE138 := Aside0.mk ((q6_ : w.heap.size ≤ gb138)); replace HB := Aside0.mk (below_step q0_ hb); clear hb hbox hg; obtain ⟨hcz2_0, hcz2_1, hcz2_2, hcz2_3, hcz2_4, hfz2_0, hfz2_1, hfz2_2, hfz2_3, hfz2_4⟩ := cellsF5 BK138.out))
 refine bodyPost_ret (results_cell_row rfl _ _ gb138 48 #[.int .i64 1, .int .i64 0, .int .i64 3, .bool false, .bool false] (0, 0) _ rfl (by (with_reducible repeat (first | refine blk_drewN ?_ _ | refine blk_drew ?_ | refine blk_alloc ?_ _)); refine blk_put (cs := #[.int .i64 1, .int .i64 0, .int .i64 3, .bool false, .bool false]) ?_ 4 _ rfl; (with_reducible repeat (first | refine blk_drewN ?_ _ | refine blk_drew ?_ | refine blk_alloc ?_ _)); refine blk_put (cs := #[.int .i64 1, .int .i64 0, .int .i64 3, .bool false, .bool false]) ?_ 3 _ rfl; (with_reducible repeat (first | refine blk_drewN ?_ _ | refine blk_drew ?_ | refine blk_alloc ?_ _)); refine blk_put (cs := #[.int .i64 1, .int .i64 0, .int .i64 0, .bool false, .bool false]) ?_ 2 _ rfl; (with_reducible repeat (first | refine blk_drewN ?_ _ | refine blk_drew ?_ | refine blk_alloc ?_ _)); refine blk_put (cs := #[.int .i64 1, .int .i64 0, .int .i64 0, .bool false, .bool false]) ?_ 1 _ rfl; (with_reducible repeat (first | refine blk_drewN ?_ _ | refine blk_drew ?_ | refine blk_alloc ?_ _)); refine blk_put (cs := #[.int .i64 0, .int .i64 0, .int .i64 0, .bool false, .bool false]) ?_ 0 _ rfl; (with_reducible repeat (first | refine blk_drewN ?_ _ | refine blk_drew ?_ | refine blk_alloc ?_ _)); exact BK138.out) Tryz.underlying48 rfl (by kernel_rfl)) rfl ?_
 exact ⟨q5_, (by repeat (first | (with_reducible first | exact HB.out | apply below_alloc | apply pw_below_drewN | apply below_drew1 | refine below_set ?_ GE138.out) | exact HB.out))⟩
def value_Num.f (a0_0 : Bool) (a0_1 : ByteArray) (a0_2 : Int) : Option (Int × ByteArray × Bool × ByteArray × Int × Int × Int × Int × Bool × Bool × Int × Int) := (number_Default.f).bind fun bt141 => (some (1, (⟨#[]⟩ : ByteArray), a0_0, a0_1, a0_2, bt141.1, bt141.2.1, bt141.2.2.1, bt141.2.2.2.1, bt141.2.2.2.2, 0, 0))
set_option maxHeartbeats 8000000 in
set_option maxRecDepth 100000 in
theorem value_Num.calls (a0_0 : Bool) (a0_1 : ByteArray) (a0_2 : Int) (r1 : Int) (r2 : ByteArray) (r3 : Bool) (r4 : ByteArray) (r5 : Int) (r6 : Int) (r7 : Int) (r8 : Int) (r9 : Bool) (r10 : Bool) (r11 : Int) (r12 : Int) (w : World) (h : value_Num.f a0_0 a0_1 a0_2 = some (r1, r2, r3, r4, r5, r6, r7, r8, r9, r10, r11, r12)) :
  Calls Tryz.prog 28 #[.agg #[.bool a0_0, .string a0_1, .int .i64 a0_2]] w fun e w' => e = .returned (.agg #[.int .i64 r1, .string r2, .bool r3, .string r4, .int .i64 r5, .int .i64 r6, .int .i64 r7, .int .i64 r8, .bool r9, .bool r10, .int .i64 r11, .int .i64 r12]) ∧ Below w.heap.size w w' := by
 have hu46 := Tryz.underlying46
 have hu51 := Tryz.underlying51
 have HB := Aside0.mk (Below.refl w.heap.size w)
 have H : ((number_Default.f).bind fun bt141 => (some (1, (⟨#[]⟩ : ByteArray), a0_0, a0_1, a0_2, bt141.1, bt141.2.1, bt141.2.2.1, bt141.2.2.2.1, bt141.2.2.2.2, 0, 0))) = some (r1, r2, r3, r4, r5, r6, r7, r8, r9, r10, r11, r12) := h
 clear h
 replace H := Option.bind_eq_some_iff.mp H
 obtain ⟨⟨t141, t142, t143, t144, t145⟩, A20, H⟩ := H
 replace H : (some (1, (⟨#[]⟩ : ByteArray), a0_0, a0_1, a0_2, t141, t142, t143, t144, t145, 0, 0)) = some (r1, r2, r3, r4, r5, r6, r7, r8, r9, r10, r11, r12) := H
 have A2 := Aside0.mk A20
 clear A20
 simp only [Option.some.injEq, Prod.mk.injEq] at H
 obtain ⟨rfl, rfl, rfl, rfl, rfl, rfl, rfl, rfl, rfl, rfl, rfl, rfl⟩ := H
 go_enter Tryz.func28, Tryz.ntmps28
 try go_wp2_with (first | ((with_reducible refine gate_dst (N := 1) rfl ?_); refine box_event ?hg (N := 1) ?hd (cs := #[.bool a0_0, .string a0_1, .int .i64 a0_2]) (t := 46) ?hr ?_; (case hd => rfl); (case hg => rfl); (case hr => exact u0_); intro gb139 hg w3 hbox hb; have BK139 := Aside0.mk (hbox); have GW139 := Aside0.mk ((q6_ : w.heap.size ≤ gb139)); have GE139 := Aside0.mk ((q6_ : w.heap.size ≤ gb139)); replace HB := Aside0.mk (below_step q0_ hb); clear hb hbox hg) | ((with_reducible refine gate_dst (N := 2) rfl ?_); refine box_event ?hg (N := 2) ?hd (cs := #[.int .i64 0, .string (⟨#[]⟩ : ByteArray), .bool false, .string (⟨#[]⟩ : ByteArray), .int .i64 0, .int .i64 0, .int .i64 0, .int .i64 0, .bool false, .bool false, .int .i64 0, .int .i64 0]) (t := 51) ?hr ?_; (case hd => rfl); (case hg => rfl); (case hr => exact u0_); intro gb140 hg w4 hbox hb; have BK140 := Aside0.mk (hbox); have GW140 := Aside0.mk (((by rw [hg]; exact (below_size q9_)) : w.heap.size ≤ gb140)); have GE140 := Aside0.mk (((by rw [hg]; exact (below_size q9_)) : w.heap.size ≤ gb140)); replace HB := Aside0.mk (below_step q9_ hb); have NB139_140 := Aside0.mk (((by rw [hg]; exact Nat.ne_of_lt (blk_lt (g := gb139) (o := .cells #[.bool a0_0, .string a0_1, .int .i64 a0_2] 46 (0, 0)) q8_)) : gb139 ≠ gb140)); have NB140_139 := Aside0.mk (((by rw [hg]; exact Nat.ne_of_gt (blk_lt (g := gb139) (o := .cells #[.bool a0_0, .string a0_1, .int .i64 a0_2] 46 (0, 0)) q8_)) : gb140 ≠ gb139)); replace BK139 := Aside0.mk (blk_below (g := gb139) (o := .cells #[.bool a0_0, .string a0_1, .int .i64 a0_2] 46 (0, 0)) q8_ hb); clear hb hbox hg))
 replace BK139 := Aside0.mk (blk_drew BK139.out)
 replace BK140 := Aside0.mk (blk_drew BK140.out)
 replace HB := Aside0.mk (below_drew1 HB.out)
 refine start_ (n := 4) (S := fun w' => w'.cell? ⟨gb139, 0, none⟩ = some (.bool a0_0) ∧ w'.cell? ⟨gb139, 1, none⟩ = some (.string a0_1) ∧ w'.cell? ⟨gb139, 2, none⟩ = some (.int .i64 a0_2)) (ds := []) #[false, false, false, false] (by kernel_rfl) rfl rfl ⟨(blk_cell BK139.out 0).trans rfl, (blk_cell BK139.out 1).trans rfl, (blk_cell BK139.out 2).trans rfl⟩ (fun hHeld => ?_)
 generalize w4.drew = w5 at BK139 BK140 HB hHeld ⊢
 refine take_ (i := 0) (N := some 3) (v := ?_) (a' := ?_) #[true, false, false, false] rfl rfl (by kernel_rfl) (fun _ _ _ h => h) (Or.inl ⟨(by rfl), ?_⟩) hHeld ?_ ?_
 rotate_left
 ·rintro w' ⟨s0, s1, s2⟩
  go_simp
  with_reducible rfl
 rotate_left
 ·simp only [Act.put, List.setIfInBounds_toArray, List.set_cons_zero, List.set_cons_succ, i64_w, i32_w]
  rfl
 refine one_ (i := 1) (N := some 4) #[true, true, false, false] rfl rfl (by kernel_rfl) (by decide) (fun K hK => ?_)
 refine goes_ Tryz.func42 (by kernel_rfl) rfl #[] (by rfl) rfl rfl q2_ ?_
 with_reducible refine (number_Default.calls  t141 t142 t143 t144 t145 _ A2.out).mono ?_
 rintro e w6 ⟨rfl, hb⟩
 refine ⟨_, rfl, ?_⟩
 replace BK139 := Aside0.mk (blk_below (g := gb139) (o := .cells #[.bool a0_0, .string a0_1, .int .i64 a0_2] 46 (0, 0)) q8_ hb)
 replace BK140 := Aside0.mk (blk_below (g := gb140) (o := .cells #[.int .i64 0, .string (⟨#[]⟩ : ByteArray), .bool false, .string (⟨#[]⟩ : ByteArray), .int .i64 0, .int .i64 0, .int .i64 0, .int .i64 0, .bool false, .bool false, .int .i64 0, .int .i64 0] 51 (0, 0)) (by (with_reducible repeat (first | refine blk_drewN ?_ _ | refine blk_drew ?_ | refine blk_alloc ?_ _)); exact BK140.out) hb)
 replace HB := Aside0.mk (below_step q11_ hb)
 (try clear hb)
 (try clear hb2)
 (try clear hk)
 (try clear hi)
 refine hK.out _ _ ⟨(blk_cell BK139.out 0).trans rfl, (blk_cell BK139.out 1).trans rfl, (blk_cell BK139.out 2).trans rfl⟩ (fun hHeld => ?_)
 clear hK K
 refine norm_ (a' := ?_) ?_ ?_
 rotate_left
 ·show Act.put _ (some 4) _ = _
  simp only [Act.put, List.setIfInBounds_toArray, List.set_cons_zero, List.set_cons_succ, i64_w, i32_w]
  rfl
 refine pure_ (i := 2) (N := some 5) (v := ?_) (a' := ?_) #[true, true, true, false] rfl rfl (by kernel_rfl) (fun _ _ _ h => h) (Or.inl ⟨(by rfl), ?_⟩) ?_ ?_
 rotate_left
 ·intro w'
  go_simp
  with_reducible rfl
 rotate_left
 ·simp only [Act.put, List.setIfInBounds_toArray, List.set_cons_zero, List.set_cons_succ, i64_w, i32_w]
  rfl
 refine one_ (i := 3) (N := none) #[true, true, true, true] rfl rfl (by kernel_rfl) (by decide) (fun K hK => ?_)
 have hs7 : w6.cell? ⟨gb140, 0, none⟩ = some (.int .i64 0) := (blk_cell BK140.out 0).trans rfl
 have hfs7 := blk_frozen BK140.out 0
 have hns7_0 := NB139_140.out
 have hms7_0 := NB140_139.out
 have hs8 : w6.cell? ⟨gb140, 1, none⟩ = some (.string (⟨#[]⟩ : ByteArray)) := (blk_cell BK140.out 1).trans rfl
 have hfs8 := blk_frozen BK140.out 1
 have hns8_0 := NB139_140.out
 have hms8_0 := NB140_139.out
 have hs9 : w6.cell? ⟨gb140, 2, none⟩ = some (.bool false) := (blk_cell BK140.out 2).trans rfl
 have hfs9 := blk_frozen BK140.out 2
 have hns9_0 := NB139_140.out
 have hms9_0 := NB140_139.out
 have hs10 : w6.cell? ⟨gb140, 3, none⟩ = some (.string (⟨#[]⟩ : ByteArray)) := (blk_cell BK140.out 3).trans rfl
 have hfs10 := blk_frozen BK140.out 3
 have hns10_0 := NB139_140.out
 have hms10_0 := NB140_139.out
 have hs11 : w6.cell? ⟨gb140, 4, none⟩ = some (.int .i64 0) := (blk_cell BK140.out 4).trans rfl
 have hfs11 := blk_frozen BK140.out 4
 have hns11_0 := NB139_140.out
 have hms11_0 := NB140_139.out
 have hs12 : w6.cell? ⟨gb140, 5, none⟩ = some (.int .i64 0) := (blk_cell BK140.out 5).trans rfl
 have hfs12 := blk_frozen BK140.out 5
 have hns12_0 := NB139_140.out
 have hms12_0 := NB140_139.out
 have hs13 : w6.cell? ⟨gb140, 6, none⟩ = some (.int .i64 0) := (blk_cell BK140.out 6).trans rfl
 have hfs13 := blk_frozen BK140.out 6
 have hns13_0 := NB139_140.out
 have hms13_0 := NB140_139.out
 have hs14 : w6.cell? ⟨gb140, 7, none⟩ = some (.int .i64 0) := (blk_cell BK140.out 7).trans rfl
 have hfs14 := blk_frozen BK140.out 7
 have hns14_0 := NB139_140.out
 have hms14_0 := NB140_139.out
 have hs15 : w6.cell? ⟨gb140, 8, none⟩ = some (.bool false) := (blk_cell BK140.out 8).trans rfl
 have hfs15 := blk_frozen BK140.out 8
 have hns15_0 := NB139_140.out
 have hms15_0 := NB140_139.out
 have hs16 : w6.cell? ⟨gb140, 9, none⟩ = some (.bool false) := (blk_cell BK140.out 9).trans rfl
 have hfs16 := blk_frozen BK140.out 9
 have hns16_0 := NB139_140.out
 have hms16_0 := NB140_139.out
 have hs17 : w6.cell? ⟨gb140, 10, none⟩ = some (.int .i64 0) := (blk_cell BK140.out 10).trans rfl
 have hfs17 := blk_frozen BK140.out 10
 have hns17_0 := NB139_140.out
 have hms17_0 := NB140_139.out
 have hs18 : w6.cell? ⟨gb140, 11, none⟩ = some (.int .i64 0) := (blk_cell BK140.out 11).trans rfl
 have hfs18 := blk_frozen BK140.out 11
 have hns18_0 := NB139_140.out
 have hms18_0 := NB140_139.out
 refine skip_ (w1 := ?_) (by rfl) rfl ?_ ?_
 rotate_left
 ·go_simp
  rfl
 refine hK.out _ _ ⟨((cell_far (p := ⟨gb140, _, none⟩) NB139_140.out _).trans (((cell_far (p := ⟨gb140, _, none⟩) NB139_140.out _).trans (((cell_far (p := ⟨gb140, _, none⟩) NB139_140.out _).trans (((cell_far (p := ⟨gb140, _, none⟩) NB139_140.out _).trans (((cell_far (p := ⟨gb140, _, none⟩) NB139_140.out _).trans (((cell_far (p := ⟨gb140, _, none⟩) NB139_140.out _).trans (((cell_far (p := ⟨gb140, _, none⟩) NB139_140.out _).trans (((cell_far (p := ⟨gb140, _, none⟩) NB139_140.out _).trans (((cell_far (p := ⟨gb140, _, none⟩) NB139_140.out _).trans (((cell_far (p := ⟨gb140, _, none⟩) NB139_140.out _).trans (((cell_far (p := ⟨gb140, _, none⟩) NB139_140.out _).trans (((cell_far (p := ⟨gb140, _, none⟩) NB139_140.out _).trans (hHeld.1)))))))))))))))))))))))), ((cell_far (p := ⟨gb140, _, none⟩) NB139_140.out _).trans (((cell_far (p := ⟨gb140, _, none⟩) NB139_140.out _).trans (((cell_far (p := ⟨gb140, _, none⟩) NB139_140.out _).trans (((cell_far (p := ⟨gb140, _, none⟩) NB139_140.out _).trans (((cell_far (p := ⟨gb140, _, none⟩) NB139_140.out _).trans (((cell_far (p := ⟨gb140, _, none⟩) NB139_140.out _).trans (((cell_far (p := ⟨gb140, _, none⟩) NB139_140.out _).trans (((cell_far (p := ⟨gb140, _, none⟩) NB139_140.out _).trans (((cell_far (p := ⟨gb140, _, none⟩) NB139_140.out _).trans (((cell_far (p := ⟨gb140, _, none⟩) NB139_140.out _).trans (((cell_far (p := ⟨gb140, _, none⟩) NB139_140.out _).trans (((cell_far (p := ⟨gb140, _, none⟩) NB139_140.out _).trans (hHeld.2.1)))))))))))))))))))))))), ((cell_far (p := ⟨gb140, _, none⟩) NB139_140.out _).trans (((cell_far (p := ⟨gb140, _, none⟩) NB139_140.out _).trans (((cell_far (p := ⟨gb140, _, none⟩) NB139_140.out _).trans (((cell_far (p := ⟨gb140, _, none⟩) NB139_140.out _).trans (((cell_far (p := ⟨gb140, _, none⟩) NB139_140.out _).trans (((cell_far (p := ⟨gb140, _, none⟩) NB139_140.out _).trans (((cell_far (p := ⟨gb140, _, none⟩) NB139_140.out _).trans (((cell_far (p := ⟨gb140, _, none⟩) NB139_140.out _).trans (((cell_far (p := ⟨gb140, _, none⟩) NB139_140.out _).trans (((cell_far (p := ⟨gb140, _, none⟩) NB139_140.out _).trans (((cell_far (p := ⟨gb140, _, none⟩) NB139_140.out _).trans (((cell_far (p := ⟨gb140, _, none⟩) NB139_140.out _).trans (hHeld.2.2))))))))))))))))))))))))⟩ (fun hHeld => ?_)
 clear hK K
 refine done_ (by kernel_rfl) ?_
 try go_wp2
 refine bodyPost_ret (results_cell_row rfl _ _ gb140 51 #[.int .i64 1, .string (⟨#[]⟩ : ByteArray), .bool a0_0, .string a0_1, .int .i64 a0_2, .int .i64 t141, .int .i64 t142, .int .i64 t143, .bool t144, .bool t145, .int .i64 0, .int .i64 0] (0, 0) _ rfl (by (with_reducible repeat (first | refine blk_drewN ?_ _ | refine blk_drew ?_ | refine blk_alloc ?_ _)); refine blk_put (cs := #[.int .i64 1, .string (⟨#[]⟩ : ByteArray), .bool a0_0, .string a0_1, .int .i64 a0_2, .int .i64 t141, .int .i64 t142, .int .i64 t143, .bool t144, .bool t145, .int .i64 0, .int .i64 0]) ?_ 11 _ rfl; (with_reducible repeat (first | refine blk_drewN ?_ _ | refine blk_drew ?_ | refine blk_alloc ?_ _)); refine blk_put (cs := #[.int .i64 1, .string (⟨#[]⟩ : ByteArray), .bool a0_0, .string a0_1, .int .i64 a0_2, .int .i64 t141, .int .i64 t142, .int .i64 t143, .bool t144, .bool t145, .int .i64 0, .int .i64 0]) ?_ 10 _ rfl; (with_reducible repeat (first | refine blk_drewN ?_ _ | refine blk_drew ?_ | refine blk_alloc ?_ _)); refine blk_put (cs := #[.int .i64 1, .string (⟨#[]⟩ : ByteArray), .bool a0_0, .string a0_1, .int .i64 a0_2, .int .i64 t141, .int .i64 t142, .int .i64 t143, .bool t144, .bool false, .int .i64 0, .int .i64 0]) ?_ 9 _ rfl; (with_reducible repeat (first | refine blk_drewN ?_ _ | refine blk_drew ?_ | refine blk_alloc ?_ _)); refine blk_put (cs := #[.int .i64 1, .string (⟨#[]⟩ : ByteArray), .bool a0_0, .string a0_1, .int .i64 a0_2, .int .i64 t141, .int .i64 t142, .int .i64 t143, .bool false, .bool false, .int .i64 0, .int .i64 0]) ?_ 8 _ rfl; (with_reducible repeat (first | refine blk_drewN ?_ _ | refine blk_drew ?_ | refine blk_alloc ?_ _)); refine blk_put (cs := #[.int .i64 1, .string (⟨#[]⟩ : ByteArray), .bool a0_0, .string a0_1, .int .i64 a0_2, .int .i64 t141, .int .i64 t142, .int .i64 0, .bool false, .bool false, .int .i64 0, .int .i64 0]) ?_ 7 _ rfl; (with_reducible repeat (first | refine blk_drewN ?_ _ | refine blk_drew ?_ | refine blk_alloc ?_ _)); refine blk_put (cs := #[.int .i64 1, .string (⟨#[]⟩ : ByteArray), .bool a0_0, .string a0_1, .int .i64 a0_2, .int .i64 t141, .int .i64 0, .int .i64 0, .bool false, .bool false, .int .i64 0, .int .i64 0]) ?_ 6 _ rfl; (with_reducible repeat (first | refine blk_drewN ?_ _ | refine blk_drew ?_ | refine blk_alloc ?_ _)); refine blk_put (cs := #[.int .i64 1, .string (⟨#[]⟩ : ByteArray), .bool a0_0, .string a0_1, .int .i64 a0_2, .int .i64 0, .int .i64 0, .int .i64 0, .bool false, .bool false, .int .i64 0, .int .i64 0]) ?_ 5 _ rfl; (with_reducible repeat (first | refine blk_drewN ?_ _ | refine blk_drew ?_ | refine blk_alloc ?_ _)); refine blk_put (cs := #[.int .i64 1, .string (⟨#[]⟩ : ByteArray), .bool a0_0, .string a0_1, .int .i64 0, .int .i64 0, .int .i64 0, .int .i64 0, .bool false, .bool false, .int .i64 0, .int .i64 0]) ?_ 4 _ rfl; (with_reducible repeat (first | refine blk_drewN ?_ _ | refine blk_drew ?_ | refine blk_alloc ?_ _)); refine blk_put (cs := #[.int .i64 1, .string (⟨#[]⟩ : ByteArray), .bool a0_0, .string (⟨#[]⟩ : ByteArray), .int .i64 0, .int .i64 0, .int .i64 0, .int .i64 0, .bool false, .bool false, .int .i64 0, .int .i64 0]) ?_ 3 _ rfl; (with_reducible repeat (first | refine blk_drewN ?_ _ | refine blk_drew ?_ | refine blk_alloc ?_ _)); refine blk_put (cs := #[.int .i64 1, .string (⟨#[]⟩ : ByteArray), .bool false, .string (⟨#[]⟩ : ByteArray), .int .i64 0, .int .i64 0, .int .i64 0, .int .i64 0, .bool false, .bool false, .int .i64 0, .int .i64 0]) ?_ 2 _ rfl; (with_reducible repeat (first | refine blk_drewN ?_ _ | refine blk_drew ?_ | refine blk_alloc ?_ _)); refine blk_put (cs := #[.int .i64 1, .string (⟨#[]⟩ : ByteArray), .bool false, .string (⟨#[]⟩ : ByteArray), .int .i64 0, .int .i64 0, .int .i64 0, .int .i64 0, .bool false, .bool false, .int .i64 0, .int .i64 0]) ?_ 1 _ rfl; (with_reducible repeat (first | refine blk_drewN ?_ _ | refine blk_drew ?_ | refine blk_alloc ?_ _)); refine blk_put (cs := #[.int .i64 0, .string (⟨#[]⟩ : ByteArray), .bool false, .string (⟨#[]⟩ : ByteArray), .int .i64 0, .int .i64 0, .int .i64 0, .int .i64 0, .bool false, .bool false, .int .i64 0, .int .i64 0]) ?_ 0 _ rfl; (with_reducible repeat (first | refine blk_drewN ?_ _ | refine blk_drew ?_ | refine blk_alloc ?_ _)); exact BK140.out) Tryz.underlying51 rfl (by kernel_rfl)) rfl ?_
 exact ⟨q5_, q11_⟩
def value_At.f (a0 : Int) : Option (Int × ByteArray × Bool × ByteArray × Int × Int × Int × Int × Bool × Bool × Int × Int) := some (2, (⟨#[]⟩ : ByteArray), false, (⟨#[]⟩ : ByteArray), 0, 0, 0, 0, false, false, a0, 0)
set_option maxHeartbeats 8000000 in
set_option maxRecDepth 100000 in
theorem value_At.calls (a0 : Int) (r1 : Int) (r2 : ByteArray) (r3 : Bool) (r4 : ByteArray) (r5 : Int) (r6 : Int) (r7 : Int) (r8 : Int) (r9 : Bool) (r10 : Bool) (r11 : Int) (r12 : Int) (w : World) (h : value_At.f a0 = some (r1, r2, r3, r4, r5, r6, r7, r8, r9, r10, r11, r12)) :
  Calls Tryz.prog 30 #[.int .i64 a0] w fun e w' => e = .returned (.agg #[.int .i64 r1, .string r2, .bool r3, .string r4, .int .i64 r5, .int .i64 r6, .int .i64 r7, .int .i64 r8, .bool r9, .bool r10, .int .i64 r11, .int .i64 r12]) ∧ Below w.heap.size w w' := by
 have hu51 := Tryz.underlying51
 have HB := Aside0.mk (Below.refl w.heap.size w)
 have H : (some (2, (⟨#[]⟩ : ByteArray), false, (⟨#[]⟩ : ByteArray), 0, 0, 0, 0, false, false, a0, 0)) = some (r1, r2, r3, r4, r5, r6, r7, r8, r9, r10, r11, r12) := h
 clear h
 simp only [Option.some.injEq, Prod.mk.injEq] at H
 obtain ⟨rfl, rfl, rfl, rfl, rfl, rfl, rfl, rfl, rfl, rfl, rfl, rfl⟩ := H
 go_enter Tryz.func30, Tryz.ntmps30
 go_wp2_with (first | ((with_reducible refine gate_dst (N := 2) rfl ?_); refine box_event ?hg (N := 2) ?hd (cs := #[.int .i64 0, .string (⟨#[]⟩ : ByteArray), .bool false, .string (⟨#[]⟩ : ByteArray), .int .i64 0, .int .i64 0, .int .i64 0, .int .i64 0, .bool false, .bool false, .int .i64 0, .int .i64 0]) (t := 51) ?hr ?_; (case hd => rfl); (case hg => rfl); (case hr => exact u0_); intro gb146 hg w2 hbox hb; have BK146 := Aside0.mk (hbox); have GW146 := Aside0.mk ((q6_ : w.heap.size ≤ gb146)); have GE146 := Aside0.mk ((q6_ : w.heap.size ≤ gb146)); replace HB := Aside0.mk (below_step q0_ hb); clear hb hbox hg; obtain ⟨hcz3_0, hcz3_1, hcz3_2, hcz3_3, hcz3_4, hcz3_5, hcz3_6, hcz3_7, hcz3_8, hcz3_9, hcz3_10, hcz3_11, hfz3_0, hfz3_1, hfz3_2, hfz3_3, hfz3_4, hfz3_5, hfz3_6, hfz3_7, hfz3_8, hfz3_9, hfz3_10, hfz3_11⟩ := cellsF12 BK146.out))
 refine bodyPost_ret (results_cell_row rfl _ _ gb146 51 #[.int .i64 2, .string (⟨#[]⟩ : ByteArray), .bool false, .string (⟨#[]⟩ : ByteArray), .int .i64 0, .int .i64 0, .int .i64 0, .int .i64 0, .bool false, .bool false, .int .i64 a0, .int .i64 0] (0, 0) _ rfl (by (with_reducible repeat (first | refine blk_drewN ?_ _ | refine blk_drew ?_ | refine blk_alloc ?_ _)); refine blk_put (cs := #[.int .i64 2, .string (⟨#[]⟩ : ByteArray), .bool false, .string (⟨#[]⟩ : ByteArray), .int .i64 0, .int .i64 0, .int .i64 0, .int .i64 0, .bool false, .bool false, .int .i64 a0, .int .i64 0]) ?_ 11 _ rfl; (with_reducible repeat (first | refine blk_drewN ?_ _ | refine blk_drew ?_ | refine blk_alloc ?_ _)); refine blk_put (cs := #[.int .i64 2, .string (⟨#[]⟩ : ByteArray), .bool false, .string (⟨#[]⟩ : ByteArray), .int .i64 0, .int .i64 0, .int .i64 0, .int .i64 0, .bool false, .bool false, .int .i64 0, .int .i64 0]) ?_ 10 _ rfl; (with_reducible repeat (first | refine blk_drewN ?_ _ | refine blk_drew ?_ | refine blk_alloc ?_ _)); refine blk_put (cs := #[.int .i64 2, .string (⟨#[]⟩ : ByteArray), .bool false, .string (⟨#[]⟩ : ByteArray), .int .i64 0, .int .i64 0, .int .i64 0, .int .i64 0, .bool false, .bool false, .int .i64 0, .int .i64 0]) ?_ 9 _ rfl; (with_reducible repeat (first | refine blk_drewN ?_ _ | refine blk_drew ?_ | refine blk_alloc ?_ _)); refine blk_put (cs := #[.int .i64 2, .string (⟨#[]⟩ : ByteArray), .bool false, .string (⟨#[]⟩ : ByteArray), .int .i64 0, .int .i64 0, .int .i64 0, .int .i64 0, .bool false, .bool false, .int .i64 0, .int .i64 0]) ?_ 8 _ rfl; (with_reducible repeat (first | refine blk_drewN ?_ _ | refine blk_drew ?_ | refine blk_alloc ?_ _)); refine blk_put (cs := #[.int .i64 2, .string (⟨#[]⟩ : ByteArray), .bool false, .string (⟨#[]⟩ : ByteArray), .int .i64 0, .int .i64 0, .int .i64 0, .int .i64 0, .bool false, .bool false, .int .i64 0, .int .i64 0]) ?_ 7 _ rfl; (with_reducible repeat (first | refine blk_drewN ?_ _ | refine blk_drew ?_ | refine blk_alloc ?_ _)); refine blk_put (cs := #[.int .i64 2, .string (⟨#[]⟩ : ByteArray), .bool false, .string (⟨#[]⟩ : ByteArray), .int .i64 0, .int .i64 0, .int .i64 0, .int .i64 0, .bool false, .bool false, .int .i64 0, .int .i64 0]) ?_ 6 _ rfl; (with_reducible repeat (first | refine blk_drewN ?_ _ | refine blk_drew ?_ | refine blk_alloc ?_ _)); refine blk_put (cs := #[.int .i64 2, .string (⟨#[]⟩ : ByteArray), .bool false, .string (⟨#[]⟩ : ByteArray), .int .i64 0, .int .i64 0, .int .i64 0, .int .i64 0, .bool false, .bool false, .int .i64 0, .int .i64 0]) ?_ 5 _ rfl; (with_reducible repeat (first | refine blk_drewN ?_ _ | refine blk_drew ?_ | refine blk_alloc ?_ _)); refine blk_put (cs := #[.int .i64 2, .string (⟨#[]⟩ : ByteArray), .bool false, .string (⟨#[]⟩ : ByteArray), .int .i64 0, .int .i64 0, .int .i64 0, .int .i64 0, .bool false, .bool false, .int .i64 0, .int .i64 0]) ?_ 4 _ rfl; (with_reducible repeat (first | refine blk_drewN ?_ _ | refine blk_drew ?_ | refine blk_alloc ?_ _)); refine blk_put (cs := #[.int .i64 2, .string (⟨#[]⟩ : ByteArray), .bool false, .string (⟨#[]⟩ : ByteArray), .int .i64 0, .int .i64 0, .int .i64 0, .int .i64 0, .bool false, .bool false, .int .i64 0, .int .i64 0]) ?_ 3 _ rfl; (with_reducible repeat (first | refine blk_drewN ?_ _ | refine blk_drew ?_ | refine blk_alloc ?_ _)); refine blk_put (cs := #[.int .i64 2, .string (⟨#[]⟩ : ByteArray), .bool false, .string (⟨#[]⟩ : ByteArray), .int .i64 0, .int .i64 0, .int .i64 0, .int .i64 0, .bool false, .bool false, .int .i64 0, .int .i64 0]) ?_ 2 _ rfl; (with_reducible repeat (first | refine blk_drewN ?_ _ | refine blk_drew ?_ | refine blk_alloc ?_ _)); refine blk_put (cs := #[.int .i64 2, .string (⟨#[]⟩ : ByteArray), .bool false, .string (⟨#[]⟩ : ByteArray), .int .i64 0, .int .i64 0, .int .i64 0, .int .i64 0, .bool false, .bool false, .int .i64 0, .int .i64 0]) ?_ 1 _ rfl; (with_reducible repeat (first | refine blk_drewN ?_ _ | refine blk_drew ?_ | refine blk_alloc ?_ _)); refine blk_put (cs := #[.int .i64 0, .string (⟨#[]⟩ : ByteArray), .bool false, .string (⟨#[]⟩ : ByteArray), .int .i64 0, .int .i64 0, .int .i64 0, .int .i64 0, .bool false, .bool false, .int .i64 0, .int .i64 0]) ?_ 0 _ rfl; (with_reducible repeat (first | refine blk_drewN ?_ _ | refine blk_drew ?_ | refine blk_alloc ?_ _)); exact BK146.out) Tryz.underlying51 rfl (by kernel_rfl)) rfl ?_
 exact ⟨q5_, (by repeat (first | (with_reducible first | exact HB.out | apply below_alloc | apply pw_below_drewN | apply below_drew1 | refine below_set ?_ GE146.out) | exact HB.out))⟩
end Go.Proofs.YtdhpcofnddkcaaaGreatDoor.S
namespace Go.Proofs.YtdhpcofnddkcaaaGreatDoor.S
open Go.RowKit Go.Proofs.YtdhpcofnddkcaaaGreatDoor.G Go.Proofs.YtdhpcofnddkcaaaGreatDoorW.PrintWords Go.Proofs.YtdhpcofnddkcaaaGreatDoorW.PrintLast Go.Proofs.YtdhpcofnddkcaaaGreatDoorW.PrintMore
attribute [local go_sem] max2_int min2_int max_two min_two max_three min_three max_four min_four
set_option linter.unusedVariables false
set_option linter.unusedSimpArgs false
def polyglotlaw02_digit.f (a0 : Int) : Option (Bool) := if a0 ≥ 48 then (some (decide (a0 ≤ 57))) else (some false)
set_option maxHeartbeats 8000000 in
set_option maxRecDepth 100000 in
theorem polyglotlaw02_digit.calls (a0 : Int) (r : Bool) (w : World) (h : polyglotlaw02_digit.f a0 = some r) :
    Calls Tryz.prog 45 #[.int .u8 a0] w fun e w' => e = .returned (.bool r) ∧ Drawn0 w w' := by
  have H : (if a0 ≥ 48 then (some (decide (a0 ≤ 57))) else (some false)) = some r := h
  clear h
  by_cases c2 : a0 ≥ 48
  · rw [if_pos c2] at H
    have c2b0 : decide (48 ≤ a0) = true := decide_eq_true c2
    clear c2
    obtain rfl := Option.some.inj H
    go_enter Tryz.func45, Tryz.ntmps45
    go_wp2
    go_ret
    exact ⟨by first | rfl | (simp; done) | (simp [*]; done), by repeat (first | exact Drawn0.refl _ | apply Drawn0.step)⟩
  · rw [if_neg c2] at H
    have c2b0 : decide (48 ≤ a0) = false := decide_eq_false c2
    clear c2
    obtain rfl := Option.some.inj H
    go_enter Tryz.func45, Tryz.ntmps45
    go_wp2
    go_ret
    exact ⟨by first | rfl | (simp; done) | (simp [*]; done), by repeat (first | exact Drawn0.refl _ | apply Drawn0.step)⟩
end Go.Proofs.YtdhpcofnddkcaaaGreatDoor.S
namespace Go.Proofs.YtdhpcofnddkcaaaGreatDoor.S
open Go.RowKit Go.Proofs.YtdhpcofnddkcaaaGreatDoor.G Go.Proofs.YtdhpcofnddkcaaaGreatDoorW.PrintWords Go.Proofs.YtdhpcofnddkcaaaGreatDoorW.PrintLast Go.Proofs.YtdhpcofnddkcaaaGreatDoorW.PrintMore
attribute [local go_sem] max2_int min2_int max_two min_two max_three min_three max_four min_four
set_option linter.unusedVariables false
set_option linter.unusedSimpArgs false
namespace Sx10
theorem cells3 {w : World} {g : Nat} {t : TypeId} {a0 a1 a2 : Value} (h : w.heap[g]? = some (.cells #[a0, a1, a2] t (0, 0))) : w.cell? ⟨g, 0, none⟩ = some a0 ∧ w.cell? ⟨g, 1, none⟩ = some a1 ∧ w.cell? ⟨g, 2, none⟩ = some a2 := ⟨(blk_cell h 0).trans rfl, (blk_cell h 1).trans rfl, (blk_cell h 2).trans rfl⟩
theorem cellsF3 {w : World} {g : Nat} {t : TypeId} {a0 a1 a2 : Value} (h : w.heap[g]? = some (.cells #[a0, a1, a2] t (0, 0))) : w.cell? ⟨g, 0, none⟩ = some a0 ∧ w.cell? ⟨g, 1, none⟩ = some a1 ∧ w.cell? ⟨g, 2, none⟩ = some a2 ∧ w.frozen? ⟨g, 0, none⟩ = false ∧ w.frozen? ⟨g, 1, none⟩ = false ∧ w.frozen? ⟨g, 2, none⟩ = false := ⟨(blk_cell h 0).trans rfl, (blk_cell h 1).trans rfl, (blk_cell h 2).trans rfl, blk_frozen h 0, blk_frozen h 1, blk_frozen h 2⟩
theorem q0_ {p_ : Prop} (h_ : p_ := by repeat (first | (with_reducible first | exact HB.out | apply below_alloc | apply pw_below_drewN | apply below_drew1 | refine below_set ?_ GE209.out) | exact HB.out)) : p_ := h_
theorem q1_ {p_ : Prop} (h_ : p_ := by (with_reducible repeat (first | refine blk_drewN ?_ _ | refine blk_drew ?_ | refine blk_alloc ?_ _)); refine blk_put (cs := #[.bool false, .string (⟨#[]⟩ : ByteArray), .int .i64 x210002_3]) ?_ 2 _ rfl; (with_reducible repeat (first | refine blk_drewN ?_ _ | refine blk_drew ?_ | refine blk_alloc ?_ _)); refine blk_put (cs := #[.bool false, .string x210001_3, .int .i64 x210002_3]) ?_ 1 _ rfl; (with_reducible repeat (first | refine blk_drewN ?_ _ | refine blk_drew ?_ | refine blk_alloc ?_ _)); refine blk_put (cs := #[.bool x210000_3, .string x210001_3, .int .i64 x210002_3]) ?_ 0 _ rfl; (with_reducible repeat (first | refine blk_drewN ?_ _ | refine blk_drew ?_ | refine blk_alloc ?_ _)); exact BK209.out) : p_ := h_
theorem q2_ {p_ : Prop} (h_ : p_ := by (with_reducible repeat (first | refine blk_drewN ?_ _ | refine blk_drew ?_ | refine blk_alloc ?_ _)); exact BK209.out) : p_ := h_
theorem q3_ {p_ : Prop} (h_ : p_ := by first | (with_reducible assumption) | assumption) : p_ := h_
theorem q4_ {p_ : Prop} (h_ : p_ := by first | rfl | (simp; done) | (simp [*]; done)) : p_ := h_
theorem q5_ {p_ : Prop} (h_ : p_ := by (try simp only [List.map_toArray, List.map_cons, List.map_nil]); first | done | rfl | (simp only [List.length_drop, List.length_take]; rfl)) : p_ := h_
theorem q6_ {p_ : Prop} (h_ : p_ := by (with_reducible repeat (first | refine blk_drewN ?_ _ | refine blk_drew ?_ | refine blk_alloc ?_ _)); refine blk_put (cs := #[.bool x4_1, .string x5_6, .int .i64 x210002_3]) ?_ 2 _ rfl; (with_reducible repeat (first | refine blk_drewN ?_ _ | refine blk_drew ?_ | refine blk_alloc ?_ _)); refine blk_put (cs := #[.bool x4_1, .string x210001_3, .int .i64 x210002_3]) ?_ 1 _ rfl; (with_reducible repeat (first | refine blk_drewN ?_ _ | refine blk_drew ?_ | refine blk_alloc ?_ _)); refine blk_put (cs := #[.bool x210000_3, .string x210001_3, .int .i64 x210002_3]) ?_ 0 _ rfl; (with_reducible repeat (first | refine blk_drewN ?_ _ | refine blk_drew ?_ | refine blk_alloc ?_ _)); exact BK209.out) : p_ := h_
theorem q7_ {p_ : Prop} (h_ : p_ := by first | rfl | (simp [errW_none, errW_some] <;> rfl) | (simp [*, errW_none, errW_some] <;> rfl)) : p_ := h_
theorem q8_ {p_ : Prop} (h_ : p_ := by repeat (first | (with_reducible first | exact HB.out | apply below_alloc | apply pw_below_drewN | apply below_drew1) | exact HB.out)) : p_ := h_
end Sx10
open Sx10
mutual
def polyglotlaw02_Parse.j0 : Nat → ByteArray → Bool → Option (Bool × ByteArray × Int × Bool)
 | 0, _, _ => none
 | k + 1, x0, x4 => if x4 = true then (if 1 ≤ (x0.size : Int) then (polyglotlaw02_Parse.j1 k (x0.extract 1 x0.size) x4) else (none)) else (polyglotlaw02_Parse.j1 k x0 x4)
def polyglotlaw02_Parse.j1 : Nat → ByteArray → Bool → Option (Bool × ByteArray × Int × Bool)
 | 0, _, _ => none
 | k + 1, x0, x4 => polyglotlaw02_Parse.l0 k x0 x4 (⟨#[]⟩ : ByteArray) (-1) 0
def polyglotlaw02_Parse.l0 : Nat → ByteArray → Bool → ByteArray → Int → Int → Option (Bool × ByteArray × Int × Bool)
 | 0, _, _, _, _, _ => none
 | k + 1, x0, x4, x5, x6, x7 => if x7 < (x0.size : Int) then (if 0 ≤ x7 then ((polyglotlaw02_digit.f (bt x0 x7)).bind fun t210 => (if t210 = true then (if x7 ≤ (wrap64 (x7 + 1)) then (if (wrap64 (x7 + 1)) ≤ (x0.size : Int) then (if x5.size + (x0.extract (x7 : Int).toNat ((wrap64 (x7 + 1)) : Int).toNat).size ≤ 9223372036854775807 then (polyglotlaw02_Parse.l0 k x0 x4 (x5 ++ (x0.extract (x7 : Int).toNat ((wrap64 (x7 + 1)) : Int).toNat)) x6 (wrap64 (x7 + 1))) else (none)) else (none)) else (none)) else (if (bt x0 x7) = 46 then (if x6 < 0 then (if x7 > 0 then (if (wrap64 (x7 + 1)) < (x0.size : Int) then (polyglotlaw02_Parse.l0 k x0 x4 x5 x7 (wrap64 (x7 + 1))) else (some (false, (⟨#[]⟩ : ByteArray), 0, false))) else (some (false, (⟨#[]⟩ : ByteArray), 0, false))) else (some (false, (⟨#[]⟩ : ByteArray), 0, false))) else (some (false, (⟨#[]⟩ : ByteArray), 0, false))))) else (none)) else (if (x5.size : Int) = 0 then (polyglotlaw02_Parse.j3 k x0 x4 x5 x6 true) else (polyglotlaw02_Parse.j3 k x0 x4 x5 x6 (decide ((x5.size : Int) > 40))))
def polyglotlaw02_Parse.j3 : Nat → ByteArray → Bool → ByteArray → Int → Bool → Option (Bool × ByteArray × Int × Bool)
 | 0, _, _, _, _, _ => none
 | k + 1, x0, x4, x5, x6, x67 => if x67 = true then (some (false, (⟨#[]⟩ : ByteArray), 0, false)) else (if x6 ≥ 0 then (polyglotlaw02_Parse.j4 k x4 x5 (wrap64 ((wrap64 ((x0.size : Int) - 1)) - x6))) else (polyglotlaw02_Parse.j4 k x4 x5 0))
def polyglotlaw02_Parse.j4 : Nat → Bool → ByteArray → Int → Option (Bool × ByteArray × Int × Bool)
 | 0, _, _, _ => none
 | k + 1, x4, x5, x8 => polyglotlaw02_Parse.l1 k x4 x5 x8
def polyglotlaw02_Parse.l1 : Nat → Bool → ByteArray → Int → Option (Bool × ByteArray × Int × Bool)
 | 0, _, _, _ => none
 | k + 1, x4, x5, x8 => if (x5.size : Int) > (wrap64 (x8 + 1)) then (if 0 < (x5.size : Int) then (if (bt x5 0) = 48 then (if 1 ≤ (x5.size : Int) then (polyglotlaw02_Parse.l1 k x4 (x5.extract 1 x5.size) x8) else (none)) else (some (x4, x5, x8, true))) else (none)) else (some (x4, x5, x8, true))
end
def polyglotlaw02_Parse.f (k : Nat) (a0 : ByteArray) : Option (Bool × ByteArray × Int × Bool) := if (a0.size : Int) > 0 then (if 0 < (a0.size : Int) then (polyglotlaw02_Parse.j0 k a0 ((bt a0 0) == 45)) else (none)) else (polyglotlaw02_Parse.j0 k a0 false)
theorem polyglotlaw02_Parse.mono_l : ∀ k, (∀ y0 y1, LeO (polyglotlaw02_Parse.j0 k y0 y1) (polyglotlaw02_Parse.j0 (k + 1) y0 y1)) ∧ (∀ y0 y1, LeO (polyglotlaw02_Parse.j1 k y0 y1) (polyglotlaw02_Parse.j1 (k + 1) y0 y1)) ∧ (∀ y0 y1 y2 y3 y4, LeO (polyglotlaw02_Parse.l0 k y0 y1 y2 y3 y4) (polyglotlaw02_Parse.l0 (k + 1) y0 y1 y2 y3 y4)) ∧ (∀ y0 y1 y2 y3 y4, LeO (polyglotlaw02_Parse.j3 k y0 y1 y2 y3 y4) (polyglotlaw02_Parse.j3 (k + 1) y0 y1 y2 y3 y4)) ∧ (∀ y0 y1 y2, LeO (polyglotlaw02_Parse.j4 k y0 y1 y2) (polyglotlaw02_Parse.j4 (k + 1) y0 y1 y2)) ∧ (∀ y0 y1 y2, LeO (polyglotlaw02_Parse.l1 k y0 y1 y2) (polyglotlaw02_Parse.l1 (k + 1) y0 y1 y2))
 | 0 => ⟨fun _ _ r h => by simp [polyglotlaw02_Parse.j0] at h, fun _ _ r h => by simp [polyglotlaw02_Parse.j1] at h, fun _ _ _ _ _ r h => by simp [polyglotlaw02_Parse.l0] at h, fun _ _ _ _ _ r h => by simp [polyglotlaw02_Parse.j3] at h, fun _ _ _ r h => by simp [polyglotlaw02_Parse.j4] at h, fun _ _ _ r h => by simp [polyglotlaw02_Parse.l1] at h⟩
 | k + 1 => by
  obtain ⟨ih0, ih1, ih2, ih3, ih4, ih5⟩ := polyglotlaw02_Parse.mono_l k
  refine ⟨?_, ?_, ?_, ?_, ?_, ?_⟩
  ·intro y0 y1
   unfold polyglotlaw02_Parse.j0
   repeat' first
   | (with_reducible exact ih0 _ _)
   | (with_reducible exact ih1 _ _)
   | (with_reducible exact ih2 _ _ _ _ _)
   | (with_reducible exact ih3 _ _ _ _ _)
   | (with_reducible exact ih4 _ _ _)
   | (with_reducible exact ih5 _ _ _)
   | (with_reducible exact LeO.refl _)
   | (with_reducible exact LeO.none _)
   | (with_reducible refine LeO.ite ?_ ?_)
   | (with_reducible refine LeO.bind ?_ (fun _ => ?_))
   | exact ih0 _ _
   | exact ih1 _ _
   | exact ih2 _ _ _ _ _
   | exact ih3 _ _ _ _ _
   | exact ih4 _ _ _
   | exact ih5 _ _ _
   | exact LeO.none _
   | refine LeO.ite ?_ ?_
   | refine LeO.bind ?_ (fun _ => ?_)
  ·intro y0 y1
   unfold polyglotlaw02_Parse.j1
   repeat' first
   | (with_reducible exact ih0 _ _)
   | (with_reducible exact ih1 _ _)
   | (with_reducible exact ih2 _ _ _ _ _)
   | (with_reducible exact ih3 _ _ _ _ _)
   | (with_reducible exact ih4 _ _ _)
   | (with_reducible exact ih5 _ _ _)
   | (with_reducible exact LeO.refl _)
   | (with_reducible exact LeO.none _)
   | (with_reducible refine LeO.ite ?_ ?_)
   | (with_reducible refine LeO.bind ?_ (fun _ => ?_))
   | exact ih0 _ _
   | exact ih1 _ _
   | exact ih2 _ _ _ _ _
   | exact ih3 _ _ _ _ _
   | exact ih4 _ _ _
   | exact ih5 _ _ _
   | exact LeO.none _
   | refine LeO.ite ?_ ?_
   | refine LeO.bind ?_ (fun _ => ?_)
  ·intro y0 y1 y2 y3 y4
   unfold polyglotlaw02_Parse.l0
   repeat' first
   | (with_reducible exact ih0 _ _)
   | (with_reducible exact ih1 _ _)
   | (with_reducible exact ih2 _ _ _ _ _)
   | (with_reducible exact ih3 _ _ _ _ _)
   | (with_reducible exact ih4 _ _ _)
   | (with_reducible exact ih5 _ _ _)
   | (with_reducible exact LeO.refl _)
   | (with_reducible exact LeO.none _)
   | (with_reducible refine LeO.ite ?_ ?_)
   | (with_reducible refine LeO.bind ?_ (fun _ => ?_))
   | exact ih0 _ _
   | exact ih1 _ _
   | exact ih2 _ _ _ _ _
   | exact ih3 _ _ _ _ _
   | exact ih4 _ _ _
   | exact ih5 _ _ _
   | exact LeO.none _
   | refine LeO.ite ?_ ?_
   | refine LeO.bind ?_ (fun _ => ?_)
  ·intro y0 y1 y2 y3 y4
   unfold polyglotlaw02_Parse.j3
   repeat' first
   | (with_reducible exact ih0 _ _)
   | (with_reducible exact ih1 _ _)
   | (with_reducible exact ih2 _ _ _ _ _)
   | (with_reducible exact ih3 _ _ _ _ _)
   | (with_reducible exact ih4 _ _ _)
   | (with_reducible exact ih5 _ _ _)
   | (with_reducible exact LeO.refl _)
   | (with_reducible exact LeO.none _)
   | (with_reducible refine LeO.ite ?_ ?_)
   | (with_reducible refine LeO.bind ?_ (fun _ => ?_))
   | exact ih0 _ _
   | exact ih1 _ _
   | exact ih2 _ _ _ _ _
   | exact ih3 _ _ _ _ _
   | exact ih4 _ _ _
   | exact ih5 _ _ _
   | exact LeO.none _
   | refine LeO.ite ?_ ?_
   | refine LeO.bind ?_ (fun _ => ?_)
  ·intro y0 y1 y2
   unfold polyglotlaw02_Parse.j4
   repeat' first
   | (with_reducible exact ih0 _ _)
   | (with_reducible exact ih1 _ _)
   | (with_reducible exact ih2 _ _ _ _ _)
   | (with_reducible exact ih3 _ _ _ _ _)
   | (with_reducible exact ih4 _ _ _)
   | (with_reducible exact ih5 _ _ _)
   | (with_reducible exact LeO.refl _)
   | (with_reducible exact LeO.none _)
   | (with_reducible refine LeO.ite ?_ ?_)
   | (with_reducible refine LeO.bind ?_ (fun _ => ?_))
   | exact ih0 _ _
   | exact ih1 _ _
   | exact ih2 _ _ _ _ _
   | exact ih3 _ _ _ _ _
   | exact ih4 _ _ _
   | exact ih5 _ _ _
   | exact LeO.none _
   | refine LeO.ite ?_ ?_
   | refine LeO.bind ?_ (fun _ => ?_)
  ·intro y0 y1 y2
   unfold polyglotlaw02_Parse.l1
   repeat' first
   | (with_reducible exact ih0 _ _)
   | (with_reducible exact ih1 _ _)
   | (with_reducible exact ih2 _ _ _ _ _)
   | (with_reducible exact ih3 _ _ _ _ _)
   | (with_reducible exact ih4 _ _ _)
   | (with_reducible exact ih5 _ _ _)
   | (with_reducible exact LeO.refl _)
   | (with_reducible exact LeO.none _)
   | (with_reducible refine LeO.ite ?_ ?_)
   | (with_reducible refine LeO.bind ?_ (fun _ => ?_))
   | exact ih0 _ _
   | exact ih1 _ _
   | exact ih2 _ _ _ _ _
   | exact ih3 _ _ _ _ _
   | exact ih4 _ _ _
   | exact ih5 _ _ _
   | exact LeO.none _
   | refine LeO.ite ?_ ?_
   | refine LeO.bind ?_ (fun _ => ?_)
theorem polyglotlaw02_Parse.mono : ∀ a0 k, LeO (polyglotlaw02_Parse.f k a0) (polyglotlaw02_Parse.f (k + 1) a0) := by
 intro a0 k
 obtain ⟨ih0, ih1, ih2, ih3, ih4, ih5⟩ := polyglotlaw02_Parse.mono_l k
 unfold polyglotlaw02_Parse.f
 repeat' first
   | (with_reducible exact ih0 _ _)
   | (with_reducible exact ih1 _ _)
   | (with_reducible exact ih2 _ _ _ _ _)
   | (with_reducible exact ih3 _ _ _ _ _)
   | (with_reducible exact ih4 _ _ _)
   | (with_reducible exact ih5 _ _ _)
   | (with_reducible exact LeO.refl _)
   | (with_reducible exact LeO.none _)
   | (with_reducible refine LeO.ite ?_ ?_)
   | (with_reducible refine LeO.bind ?_ (fun _ => ?_))
   | exact ih0 _ _
   | exact ih1 _ _
   | exact ih2 _ _ _ _ _
   | exact ih3 _ _ _ _ _
   | exact ih4 _ _ _
   | exact ih5 _ _ _
   | exact LeO.none _
   | refine LeO.ite ?_ ?_
   | refine LeO.bind ?_ (fun _ => ?_)
set_option maxHeartbeats 8000000 in
set_option maxRecDepth 100000 in
theorem polyglotlaw02_Parse.calls (k : Nat) (a0 : ByteArray) (r1 : Bool) (r2 : ByteArray) (r3 : Int) (r4 : Bool) (w : World) (h : polyglotlaw02_Parse.f k a0 = some (r1, r2, r3, r4)) :
  Calls Tryz.prog 31 #[.string a0] w fun e w' => e = .returned (.tuple #[.agg #[.bool r1, .string r2, .int .i64 r3], .bool r4]) ∧ Below w.heap.size w w' := by
 have hu46 := Tryz.underlying46
 have HB := Aside0.mk (Below.refl w.heap.size w)
 have H : (if (a0.size : Int) > 0 then (if 0 < (a0.size : Int) then (polyglotlaw02_Parse.j0 k a0 ((bt a0 0) == 45)) else (none)) else (polyglotlaw02_Parse.j0 k a0 false)) = some (r1, r2, r3, r4) := h
 clear h
 have HC2 := Aside0.mk H
 clear H
 go_enter Tryz.func31, Tryz.ntmps31
 go_upto_region 1 with (first | ((with_reducible refine gate_dst (N := 2) rfl ?_); (try (refine gate_guard (by rfl) ?_; dsimp only)); refine box_event ?hg (N := 2) ?hd (cs := #[.bool false, .string (⟨#[]⟩ : ByteArray), .int .i64 0]) (t := 46) ?hr ?_; (case hd => rfl); (case hg => rfl); (case hr => first | (go_simp; done) | (go_simp; rfl)); intro gb209 hg w3 hbox hb; have BK209 := Aside0.mk (hbox); have GW209 := Aside0.mk (((by rw [hg]; exact (below_size q8_)) : w.heap.size ≤ gb209)); have GE209 := Aside0.mk (((by rw [hg]; exact (below_size q8_)) : w.heap.size ≤ gb209)); replace HB := Aside0.mk (below_step q8_ hb); clear hb hbox hg))
 (try simp only [Act.put, List.setIfInBounds_toArray, List.set_cons_zero, List.set_cons_succ])
 go_cut [4] (fun v4 wc => ∃ (kq : Nat) (x4_1 : Bool), v4 = .bool x4_1 ∧ Aside0 (polyglotlaw02_Parse.j0 kq a0 x4_1 = some (r1, r2, r3, r4)) ∧ Aside0 (kq ≤ k) ∧ Aside0 (wc.heap[gb209]? = some (.cells #[.bool false, .string (⟨#[]⟩ : ByteArray), .int .i64 0] 46 (0, 0))) ∧ Aside0 (Below w.heap.size w wc))
 case first =>
  have H := HC2.out
  clear HC2
  by_cases c4 : (a0.size : Int) > 0
  ·rw [if_pos c4] at H
   have c4b0 : decide (0 < (a0.size : Int)) = true := decide_eq_true c4
   have c4b1 : decide (0 < a0.size) = true := decide_eq_true (by omega)
   clear c4
   (first | rw [c4b0] | (simp only [i64_w, i32_w]; rw [c4b0]) | skip)
   by_cases c5 : 0 < (a0.size : Int)
   ·rw [if_pos c5] at H
    have c5b0 : decide (0 < (a0.size : Int)) = true := decide_eq_true c5
    have c5b1 : decide (0 < a0.size) = true := decide_eq_true (by omega)
    clear c5
    have H' := Aside0.mk H
    clear H
    have p6 : 0 ≤ (0 : Int) := (by omega)
    have q6 : 0 < a0.size := (by have : (0 : Int) < (a0.size : Int) := of_decide_eq_true q3_; omega)
    have hx6 : ∀ h : 0 < a0.size, ((a0[0]'h).toNat : Int) = bt a0 0 := bt_at a0 0
    clear p6
    have qi6 : (0 < (a0.size : Int)) = True := eq_true (of_decide_eq_true q3_)
    replace q6 := eq_true q6
    go_wp2
    go_meet
    case rel => exact ⟨_, (((bt a0 0) == 45)), q4_, H', ⟨(by first | omega | exact Nat.le_refl _)⟩, ⟨q2_⟩, ⟨q0_⟩⟩
   ·rw [if_neg c5] at H
    exact absurd H (by simp)
  ·rw [if_neg c4] at H
   have c4b0 : decide (0 < (a0.size : Int)) = false := decide_eq_false c4
   have c4b1 : decide (0 < a0.size) = false := decide_eq_false (by omega)
   clear c4
   (first | rw [c4b0] | (simp only [i64_w, i32_w]; rw [c4b0]) | skip)
   have H' := Aside0.mk H
   clear H
   go_wp2
   go_meet
   case rel => exact ⟨_, (false), q4_, H', ⟨(by first | omega | exact Nat.le_refl _)⟩, ⟨q2_⟩, ⟨q0_⟩⟩
 case rest =>
  clear HC2
  try clear p2
  try clear c3
  try clear c4
  try clear c4b0
  try clear c4b1
  try clear c5
  try clear c5b0
  try clear c5b1
  try clear p6 p6
  try clear q6 q6
  try clear hx6
  try clear qi6
  obtain ⟨kq, x4_1, rfl, HA, HJ1, BK209, HB⟩ := hcut
  cases kq with
  | zero => exact absurd HA.out (by simp [polyglotlaw02_Parse.j0])
  | succ kj1 =>
   have H := HA.out
   clear HA
   simp only [polyglotlaw02_Parse.j0] at H
   have HC7 := Aside0.mk H
   clear H
   go_upto_if 17 with (fail)
   go_cut [0] (fun v0 wc => ∃ (kq : Nat) (x0_6 : ByteArray), v0 = .string x0_6 ∧ Aside0 (polyglotlaw02_Parse.j1 kq x0_6 x4_1 = some (r1, r2, r3, r4)) ∧ Aside0 (kq ≤ kj1) ∧ Aside0 (wc.heap[gb209]? = some (.cells #[.bool false, .string (⟨#[]⟩ : ByteArray), .int .i64 0] 46 (0, 0))) ∧ Aside0 (Below w.heap.size w wc))
   case first =>
    have H := HC7.out
    clear HC7
    by_cases c8 : x4_1 = true
    ·subst c8
     have H1 : (if 1 ≤ (a0.size : Int) then (polyglotlaw02_Parse.j1 kj1 (a0.extract 1 a0.size) true) else (none)) = some (r1, r2, r3, r4) := by rw [if_pos rfl] at H; exact H
     clear H
     have H := H1
     clear H1
     by_cases c9 : 1 ≤ (a0.size : Int)
     ·rw [if_pos c9] at H
      have c9b0 := eq_true c9
      have c9b1 : decide (1 ≤ (a0.size : Int)) = true := decide_eq_true c9
      clear c9
      have H' := Aside0.mk H
      clear H
      go_wp2
      go_meet
      case rel => exact ⟨_, (a0.extract 1 a0.size), q4_, H', ⟨(by have := HJ1.out; first | omega | exact Nat.le_refl _)⟩, ⟨q2_⟩, ⟨q0_⟩⟩
     ·rw [if_neg c9] at H
      exact absurd H (by simp)
    ·replace c8 := Bool.eq_false_iff.mpr c8
     subst c8
     have H1 : (polyglotlaw02_Parse.j1 kj1 a0 false) = some (r1, r2, r3, r4) := by rw [if_neg (show ¬ (false = true) by decide)] at H; exact H
     clear H
     have H := H1
     clear H1
     have H' := Aside0.mk H
     clear H
     go_wp2
     go_meet
     case rel => exact ⟨_, (a0), q4_, H', ⟨(by have := HJ1.out; first | omega | exact Nat.le_refl _)⟩, ⟨q2_⟩, ⟨q0_⟩⟩
   case rest =>
    clear HC7
    try clear p2 p2
    try clear c3
    try clear c4
    try clear c4b0
    try clear c4b1
    try clear c5
    try clear c5b0
    try clear c5b1
    try clear p6 p6
    try clear q6 q6
    try clear hx6
    try clear qi6
    try clear c8
    try clear c9
    try clear c9b0
    try clear c9b1
    obtain ⟨kq, x0_6, rfl, HA, HJ6, BK209, HB⟩ := hcut
    cases kq with
    | zero => exact absurd HA.out (by simp [polyglotlaw02_Parse.j1])
    | succ kj6 =>
     have H := HA.out
     clear HA
     simp only [polyglotlaw02_Parse.j1] at H
     have H' := Aside0.mk H
     clear H
     go_wp2
     go_loopg [5, 6, 7] kj6 (fun kq v5 v6 v7 w' => ∃ (x5_3 : ByteArray) (x6_3 : Int) (x7_3 : Int) (x210000_3 : Bool) (x210001_3 : ByteArray) (x210002_3 : Int), v5 = .string x5_3 ∧ v6 = .int .i64 x6_3 ∧ v7 = .int .i64 x7_3 ∧ Aside0 (polyglotlaw02_Parse.l0 kq x0_6 x4_1 x5_3 x6_3 x7_3 = some (r1, r2, r3, r4)) ∧ Aside0 (kq ≤ kj6) ∧ Aside0 (w'.heap[gb209]? = some (.cells #[.bool x210000_3, .string x210001_3, .int .i64 x210002_3] 46 (0, 0))) ∧ Aside0 (Below w.heap.size w w'))
     case atStart => exact ⟨((⟨#[]⟩ : ByteArray)), ((-1)), (0), (false), ((⟨#[]⟩ : ByteArray)), (0), q4_, q4_, q4_, H', ⟨Nat.le_refl _⟩, ⟨q2_⟩, ⟨q0_⟩⟩
     case round =>
      clear H'
      try clear p2 p2
      try clear c3
      try clear c4
      try clear c4b0
      try clear c4b1
      try clear c5
      try clear c5b0
      try clear c5b1
      try clear p6 p6
      try clear q6 q6
      try clear hx6
      try clear qi6
      try clear c8
      try clear c9
      try clear c9b0
      try clear c9b1
      obtain ⟨x5_3, x6_3, x7_3, x210000_3, x210001_3, x210002_3, rfl, rfl, rfl, HA, HK3, BK209, HB⟩ := hrel
      cases gk with
      | zero => exact absurd HA.out (by simp [polyglotlaw02_Parse.l0])
      | succ k3 =>
       have H := HA.out
       clear HA
       simp only [polyglotlaw02_Parse.l0] at H
       by_cases c10 : x7_3 < (x0_6.size : Int)
       ·rw [if_pos c10] at H
        have c10b0 : decide (x7_3 < (x0_6.size : Int)) = true := decide_eq_true c10
        clear c10
        by_cases c11 : 0 ≤ x7_3
        ·rw [if_pos c11] at H
         have c11b0 : decide (0 ≤ x7_3) = true := decide_eq_true c11
         clear c11
         replace H := Option.bind_eq_some_iff.mp H
         obtain ⟨t210, A130, H⟩ := H
         replace H : (if t210 = true then (if x7_3 ≤ (wrap64 (x7_3 + 1)) then (if (wrap64 (x7_3 + 1)) ≤ (x0_6.size : Int) then (if x5_3.size + (x0_6.extract (x7_3 : Int).toNat ((wrap64 (x7_3 + 1)) : Int).toNat).size ≤ 9223372036854775807 then (polyglotlaw02_Parse.l0 k3 x0_6 x4_1 (x5_3 ++ (x0_6.extract (x7_3 : Int).toNat ((wrap64 (x7_3 + 1)) : Int).toNat)) x6_3 (wrap64 (x7_3 + 1))) else (none)) else (none)) else (none)) else (if (bt x0_6 x7_3) = 46 then (if x6_3 < 0 then (if x7_3 > 0 then (if (wrap64 (x7_3 + 1)) < (x0_6.size : Int) then (polyglotlaw02_Parse.l0 k3 x0_6 x4_1 x5_3 x7_3 (wrap64 (x7_3 + 1))) else (some (false, (⟨#[]⟩ : ByteArray), 0, false))) else (some (false, (⟨#[]⟩ : ByteArray), 0, false))) else (some (false, (⟨#[]⟩ : ByteArray), 0, false))) else (some (false, (⟨#[]⟩ : ByteArray), 0, false)))) = some (r1, r2, r3, r4) := H
         have A13 := Aside0.mk A130
         clear A130
         by_cases c14 : t210 = true
         ·subst c14
          have H1 : (if x7_3 ≤ (wrap64 (x7_3 + 1)) then (if (wrap64 (x7_3 + 1)) ≤ (x0_6.size : Int) then (if x5_3.size + (x0_6.extract (x7_3 : Int).toNat ((wrap64 (x7_3 + 1)) : Int).toNat).size ≤ 9223372036854775807 then (polyglotlaw02_Parse.l0 k3 x0_6 x4_1 (x5_3 ++ (x0_6.extract (x7_3 : Int).toNat ((wrap64 (x7_3 + 1)) : Int).toNat)) x6_3 (wrap64 (x7_3 + 1))) else (none)) else (none)) else (none)) = some (r1, r2, r3, r4) := by rw [if_pos rfl] at H; exact H
          clear H
          have H := H1
          clear H1
          have c15b0 := eq_true (of_decide_eq_true q3_ : 0 ≤ x7_3)
          by_cases c16 : x7_3 ≤ (wrap64 (x7_3 + 1))
          ·rw [if_pos c16] at H
           have c16b0 := eq_true c16
           have c16b1 : decide (x7_3 ≤ (wrap64 (x7_3 + 1))) = true := decide_eq_true c16
           by_cases c17 : (wrap64 (x7_3 + 1)) ≤ (x0_6.size : Int)
           ·rw [if_pos c17] at H
            have c17b0 := eq_true c17
            have c17b1 : decide ((wrap64 (x7_3 + 1)) ≤ (x0_6.size : Int)) = true := decide_eq_true c17
            by_cases c18 : x5_3.size + (x0_6.extract (x7_3 : Int).toNat ((wrap64 (x7_3 + 1)) : Int).toNat).size ≤ 9223372036854775807
            ·rw [if_pos c18] at H
             have c18b0 := eq_true c18
             have c18b1 : decide (x5_3.size + (x0_6.extract (x7_3 : Int).toNat ((wrap64 (x7_3 + 1)) : Int).toNat).size ≤ 9223372036854775807) = true := decide_eq_true c18
             try have c18b2 : (9223372036854775807 < x5_3.size + (x0_6.extract (x7_3 : Int).toNat ((wrap64 (x7_3 + 1)) : Int).toNat).size) = False := eq_false (Nat.not_lt.2 c18)
             have H' := Aside0.mk H
             clear H
             have p12 : 0 ≤ (x7_3 : Int) := of_decide_eq_true q3_
             have q12 : x7_3 < (x0_6.size : Int) := of_decide_eq_true q3_
             have hx12 := bt_at x0_6 x7_3
             replace p12 := eq_true p12
             replace q12 := eq_true q12
             go_wp2_with (first | ((with_reducible refine gate_callee (f := 45) rfl ?_); refine goesL_ (some 31) rfl rfl Tryz.func45 (by kernel_rfl) rfl #[.int .u8 (bt x0_6 x7_3)] rfl q5_ ?_; (with_reducible refine (polyglotlaw02_digit.calls (bt x0_6 x7_3) true _ A13.out).mono ?_); rintro e w' ⟨rfl, ⟨nd, rfl⟩⟩; refine ⟨_, rfl, ?_⟩))
             go_roundg k3
             case measure => have := HJ1.out; have := HJ6.out; have := HK3.out; omega
             case rel => exact ⟨(x5_3 ++ (x0_6.extract (x7_3 : Int).toNat ((wrap64 (x7_3 + 1)) : Int).toNat)), (x6_3), (wrap64 (x7_3 + 1)), (x210000_3), (x210001_3), (x210002_3), q4_, q4_, q4_, H', ⟨(by have := HJ1.out; have := HJ6.out; have := HK3.out; omega)⟩, ⟨q2_⟩, ⟨q0_⟩⟩
            ·rw [if_neg c18] at H
             exact absurd H (by simp)
           ·rw [if_neg c17] at H
            exact absurd H (by simp)
          ·rw [if_neg c16] at H
           exact absurd H (by simp)
         ·replace c14 := Bool.eq_false_iff.mpr c14
          subst c14
          have H1 : (if (bt x0_6 x7_3) = 46 then (if x6_3 < 0 then (if x7_3 > 0 then (if (wrap64 (x7_3 + 1)) < (x0_6.size : Int) then (polyglotlaw02_Parse.l0 k3 x0_6 x4_1 x5_3 x7_3 (wrap64 (x7_3 + 1))) else (some (false, (⟨#[]⟩ : ByteArray), 0, false))) else (some (false, (⟨#[]⟩ : ByteArray), 0, false))) else (some (false, (⟨#[]⟩ : ByteArray), 0, false))) else (some (false, (⟨#[]⟩ : ByteArray), 0, false))) = some (r1, r2, r3, r4) := by rw [if_neg (show ¬ (false = true) by decide)] at H; exact H
          clear H
          have H := H1
          clear H1
          by_cases c20 : (bt x0_6 x7_3) = 46
          ·rw [if_pos c20] at H
           have c20b0 : ((bt x0_6 x7_3) == 46) = true := beq_iff_eq.mpr c20
           have c20b1 : ((bt x0_6 x7_3) != 46) = false := bne_eq_false_iff_eq.mpr c20
           clear c20
           by_cases c21 : x6_3 < 0
           ·rw [if_pos c21] at H
            have c21b0 : decide (x6_3 < 0) = true := decide_eq_true c21
            clear c21
            by_cases c22 : x7_3 > 0
            ·rw [if_pos c22] at H
             have c22b0 : decide (0 < x7_3) = true := decide_eq_true c22
             clear c22
             by_cases c23 : (wrap64 (x7_3 + 1)) < (x0_6.size : Int)
             ·rw [if_pos c23] at H
              have c23b0 : decide ((wrap64 (x7_3 + 1)) < (x0_6.size : Int)) = true := decide_eq_true c23
              clear c23
              have H' := Aside0.mk H
              clear H
              have p12 : 0 ≤ (x7_3 : Int) := of_decide_eq_true q3_
              have q12 : x7_3 < (x0_6.size : Int) := of_decide_eq_true q3_
              have hx12 := bt_at x0_6 x7_3
              replace p12 := eq_true p12
              replace q12 := eq_true q12
              go_wp2_with (first | ((with_reducible refine gate_callee (f := 45) rfl ?_); refine goesL_ (some 31) rfl rfl Tryz.func45 (by kernel_rfl) rfl #[.int .u8 (bt x0_6 x7_3)] rfl q5_ ?_; (with_reducible refine (polyglotlaw02_digit.calls (bt x0_6 x7_3) false _ A13.out).mono ?_); rintro e w' ⟨rfl, ⟨nd, rfl⟩⟩; refine ⟨_, rfl, ?_⟩; have p19 : 0 ≤ (x7_3 : Int) := of_decide_eq_true q3_; have q19 : x7_3 < (x0_6.size : Int) := of_decide_eq_true q3_; have hx19 := bt_at x0_6 x7_3; replace p19 := eq_true p19; replace q19 := eq_true q19))
              go_roundg k3
              case measure => have := HJ1.out; have := HJ6.out; have := HK3.out; omega
              case rel => exact ⟨(x5_3), (x7_3), (wrap64 (x7_3 + 1)), (x210000_3), (x210001_3), (x210002_3), q4_, q4_, q4_, H', ⟨(by have := HJ1.out; have := HJ6.out; have := HK3.out; omega)⟩, ⟨q2_⟩, ⟨q0_⟩⟩
             ·rw [if_neg c23] at H
              have c23b0 : decide ((wrap64 (x7_3 + 1)) < (x0_6.size : Int)) = false := decide_eq_false c23
              clear c23
              simp only [Option.some.injEq, Prod.mk.injEq] at H
              obtain ⟨rfl, rfl, rfl, rfl⟩ := H
              have p12 : 0 ≤ (x7_3 : Int) := of_decide_eq_true q3_
              have q12 : x7_3 < (x0_6.size : Int) := of_decide_eq_true q3_
              have hx12 := bt_at x0_6 x7_3
              replace p12 := eq_true p12
              replace q12 := eq_true q12
              go_wp2_with (first | ((with_reducible refine gate_callee (f := 45) rfl ?_); refine goesL_ (some 31) rfl rfl Tryz.func45 (by kernel_rfl) rfl #[.int .u8 (bt x0_6 x7_3)] rfl q5_ ?_; (with_reducible refine (polyglotlaw02_digit.calls (bt x0_6 x7_3) false _ A13.out).mono ?_); rintro e w' ⟨rfl, ⟨nd, rfl⟩⟩; refine ⟨_, rfl, ?_⟩; (try (rw [drewN_self wr]; generalize hq_ : World.drewN wr _ = wr; have n0_ : Aside0 (wr.heap[gb209]? = some (.cells #[.bool x210000_3, .string x210001_3, .int .i64 x210002_3] 46 (0, 0))) := ⟨(by rw [← hq_]; exact q2_)⟩; have n1_ : Aside0 (Below w.heap.size w wr) := ⟨(by rw [← hq_]; exact q0_)⟩; clear BK209 HB hq_; have BK209 := n0_; have HB := n1_; clear n0_ n1_)); have p19 : 0 ≤ (x7_3 : Int) := of_decide_eq_true q3_; have q19 : x7_3 < (x0_6.size : Int) := of_decide_eq_true q3_; have hx19 := bt_at x0_6 x7_3; replace p19 := eq_true p19; replace q19 := eq_true q19; obtain ⟨hcz24_0, hcz24_1, hcz24_2, hfz24_0, hfz24_1, hfz24_2⟩ := cellsF3 BK209.out))
              refine bodyPost_ret (results_ct rfl _ _ gb209 46 #[.bool false, .string (⟨#[]⟩ : ByteArray), .int .i64 0] (0, 0) _ rfl q1_ Tryz.underlying46 rfl (by kernel_rfl)) rfl ?_
              exact ⟨q7_, q0_⟩
            ·rw [if_neg c22] at H
             have c22b0 : decide (0 < x7_3) = false := decide_eq_false c22
             clear c22
             simp only [Option.some.injEq, Prod.mk.injEq] at H
             obtain ⟨rfl, rfl, rfl, rfl⟩ := H
             have p12 : 0 ≤ (x7_3 : Int) := of_decide_eq_true q3_
             have q12 : x7_3 < (x0_6.size : Int) := of_decide_eq_true q3_
             have hx12 := bt_at x0_6 x7_3
             replace p12 := eq_true p12
             replace q12 := eq_true q12
             go_wp2_with (first | ((with_reducible refine gate_callee (f := 45) rfl ?_); refine goesL_ (some 31) rfl rfl Tryz.func45 (by kernel_rfl) rfl #[.int .u8 (bt x0_6 x7_3)] rfl q5_ ?_; (with_reducible refine (polyglotlaw02_digit.calls (bt x0_6 x7_3) false _ A13.out).mono ?_); rintro e w' ⟨rfl, ⟨nd, rfl⟩⟩; refine ⟨_, rfl, ?_⟩; (try (rw [drewN_self wr]; generalize hq_ : World.drewN wr _ = wr; have n0_ : Aside0 (wr.heap[gb209]? = some (.cells #[.bool x210000_3, .string x210001_3, .int .i64 x210002_3] 46 (0, 0))) := ⟨(by rw [← hq_]; exact q2_)⟩; have n1_ : Aside0 (Below w.heap.size w wr) := ⟨(by rw [← hq_]; exact q0_)⟩; clear BK209 HB hq_; have BK209 := n0_; have HB := n1_; clear n0_ n1_)); have p19 : 0 ≤ (x7_3 : Int) := of_decide_eq_true q3_; have q19 : x7_3 < (x0_6.size : Int) := of_decide_eq_true q3_; have hx19 := bt_at x0_6 x7_3; replace p19 := eq_true p19; replace q19 := eq_true q19; obtain ⟨hcz25_0, hcz25_1, hcz25_2, hfz25_0, hfz25_1, hfz25_2⟩ := cellsF3 BK209.out))
             refine bodyPost_ret (results_ct rfl _ _ gb209 46 #[.bool false, .string (⟨#[]⟩ : ByteArray), .int .i64 0] (0, 0) _ rfl q1_ Tryz.underlying46 rfl (by kernel_rfl)) rfl ?_
             exact ⟨q7_, q0_⟩
           ·rw [if_neg c21] at H
            have c21b0 : decide (x6_3 < 0) = false := decide_eq_false c21
            clear c21
            simp only [Option.some.injEq, Prod.mk.injEq] at H
            obtain ⟨rfl, rfl, rfl, rfl⟩ := H
            have p12 : 0 ≤ (x7_3 : Int) := of_decide_eq_true q3_
            have q12 : x7_3 < (x0_6.size : Int) := of_decide_eq_true q3_
            have hx12 := bt_at x0_6 x7_3
            replace p12 := eq_true p12
            replace q12 := eq_true q12
            go_wp2_with (first | ((with_reducible refine gate_callee (f := 45) rfl ?_); refine goesL_ (some 31) rfl rfl Tryz.func45 (by kernel_rfl) rfl #[.int .u8 (bt x0_6 x7_3)] rfl q5_ ?_; (with_reducible refine (polyglotlaw02_digit.calls (bt x0_6 x7_3) false _ A13.out).mono ?_); rintro e w' ⟨rfl, ⟨nd, rfl⟩⟩; refine ⟨_, rfl, ?_⟩; (try (rw [drewN_self wr]; generalize hq_ : World.drewN wr _ = wr; have n0_ : Aside0 (wr.heap[gb209]? = some (.cells #[.bool x210000_3, .string x210001_3, .int .i64 x210002_3] 46 (0, 0))) := ⟨(by rw [← hq_]; exact q2_)⟩; have n1_ : Aside0 (Below w.heap.size w wr) := ⟨(by rw [← hq_]; exact q0_)⟩; clear BK209 HB hq_; have BK209 := n0_; have HB := n1_; clear n0_ n1_)); have p19 : 0 ≤ (x7_3 : Int) := of_decide_eq_true q3_; have q19 : x7_3 < (x0_6.size : Int) := of_decide_eq_true q3_; have hx19 := bt_at x0_6 x7_3; replace p19 := eq_true p19; replace q19 := eq_true q19; obtain ⟨hcz26_0, hcz26_1, hcz26_2, hfz26_0, hfz26_1, hfz26_2⟩ := cellsF3 BK209.out))
            refine bodyPost_ret (results_ct rfl _ _ gb209 46 #[.bool false, .string (⟨#[]⟩ : ByteArray), .int .i64 0] (0, 0) _ rfl q1_ Tryz.underlying46 rfl (by kernel_rfl)) rfl ?_
            exact ⟨q7_, q0_⟩
          ·rw [if_neg c20] at H
           have c20b0 : ((bt x0_6 x7_3) == 46) = false := beq_eq_false_iff_ne.mpr c20
           have c20b1 : ((bt x0_6 x7_3) != 46) = true := bne_iff_ne.mpr c20
           simp only [Option.some.injEq, Prod.mk.injEq] at H
           obtain ⟨rfl, rfl, rfl, rfl⟩ := H
           have p12 : 0 ≤ (x7_3 : Int) := of_decide_eq_true q3_
           have q12 : x7_3 < (x0_6.size : Int) := of_decide_eq_true q3_
           have hx12 := bt_at x0_6 x7_3
           replace p12 := eq_true p12
           replace q12 := eq_true q12
           go_wp2_with (first | ((with_reducible refine gate_callee (f := 45) rfl ?_); refine goesL_ (some 31) rfl rfl Tryz.func45 (by kernel_rfl) rfl #[.int .u8 (bt x0_6 x7_3)] rfl q5_ ?_; (with_reducible refine (polyglotlaw02_digit.calls (bt x0_6 x7_3) false _ A13.out).mono ?_); rintro e w' ⟨rfl, ⟨nd, rfl⟩⟩; refine ⟨_, rfl, ?_⟩; (try (rw [drewN_self wr]; generalize hq_ : World.drewN wr _ = wr; have n0_ : Aside0 (wr.heap[gb209]? = some (.cells #[.bool x210000_3, .string x210001_3, .int .i64 x210002_3] 46 (0, 0))) := ⟨(by rw [← hq_]; exact q2_)⟩; have n1_ : Aside0 (Below w.heap.size w wr) := ⟨(by rw [← hq_]; exact q0_)⟩; clear BK209 HB hq_; have BK209 := n0_; have HB := n1_; clear n0_ n1_)); have p19 : 0 ≤ (x7_3 : Int) := of_decide_eq_true q3_; have q19 : x7_3 < (x0_6.size : Int) := of_decide_eq_true q3_; have hx19 := bt_at x0_6 x7_3; replace p19 := eq_true p19; replace q19 := eq_true q19; obtain ⟨hcz27_0, hcz27_1, hcz27_2, hfz27_0, hfz27_1, hfz27_2⟩ := cellsF3 BK209.out))
           refine bodyPost_ret (results_ct rfl _ _ gb209 46 #[.bool false, .string (⟨#[]⟩ : ByteArray), .int .i64 0] (0, 0) _ rfl q1_ Tryz.underlying46 rfl (by kernel_rfl)) rfl ?_
           exact ⟨q7_, q0_⟩
        ·rw [if_neg c11] at H
         exact absurd H (by simp)
       ·rw [if_neg c10] at H
        have c10b0 : decide (x7_3 < (x0_6.size : Int)) = false := decide_eq_false c10
        clear c10
        have HC28 := Aside0.mk H
        clear H
        go_upto_region 14 with (fail)
        go_cut [67] (fun v67 wc => ∃ (kq : Nat) (x67_27 : Bool), v67 = .bool x67_27 ∧ Aside0 (polyglotlaw02_Parse.j3 kq x0_6 x4_1 x5_3 x6_3 x67_27 = some (r1, r2, r3, r4)) ∧ Aside0 (kq ≤ k3) ∧ Aside0 (wc.heap[gb209]? = some (.cells #[.bool x210000_3, .string x210001_3, .int .i64 x210002_3] 46 (0, 0))) ∧ Aside0 (Below w.heap.size w wc))
        case first =>
         have H := HC28.out
         clear HC28
         by_cases c29 : (x5_3.size : Int) = 0
         ·rw [if_pos c29] at H
          have c29b0 : ((x5_3.size : Int) == 0) = true := beq_iff_eq.mpr c29
          have c29b1 : ((x5_3.size : Int) != 0) = false := bne_eq_false_iff_eq.mpr c29
          clear c29
          (first | rw [c29b0] | (simp only [i64_w, i32_w]; rw [c29b0]) | skip)
          have H' := Aside0.mk H
          clear H
          go_wp2
          go_meet
          case rel => exact ⟨_, (true), q4_, H', ⟨(by have := HJ1.out; have := HJ6.out; have := HK3.out; first | omega | exact Nat.le_refl _)⟩, ⟨q2_⟩, ⟨q0_⟩⟩
         ·rw [if_neg c29] at H
          have c29b0 : ((x5_3.size : Int) == 0) = false := beq_eq_false_iff_ne.mpr c29
          have c29b1 : ((x5_3.size : Int) != 0) = true := bne_iff_ne.mpr c29
          (first | rw [c29b0] | (simp only [i64_w, i32_w]; rw [c29b0]) | skip)
          have H' := Aside0.mk H
          clear H
          go_wp2
          go_meet
          case rel => exact ⟨_, (decide ((x5_3.size : Int) > 40)), q4_, H', ⟨(by have := HJ1.out; have := HJ6.out; have := HK3.out; first | omega | exact Nat.le_refl _)⟩, ⟨q2_⟩, ⟨q0_⟩⟩
        case rest =>
         clear HC28
         try clear c1
         try clear p1
         try clear q1
         try clear hx1
         try clear c2
         try clear p2 p2
         try clear c3
         try clear c4
         try clear c4b0
         try clear c4b1
         try clear c5
         try clear c5b0
         try clear c5b1
         try clear p6 p6
         try clear q6 q6
         try clear hx6
         try clear qi6
         try clear c8
         try clear c9
         try clear c9b0
         try clear c9b1
         try clear c10
         try clear c10b0
         try clear c11
         try clear c11b0
         try clear p12 p12
         try clear q12 q12
         try clear hx12
         try clear c14
         try clear c15
         try clear c15b0
         try clear c16
         try clear c16b0
         try clear c16b1
         try clear c17
         try clear c17b0
         try clear c17b1
         try clear c18
         try clear c18b0
         try clear c18b1
         try clear c18b2
         try clear p19 p19
         try clear q19 q19
         try clear hx19
         try clear c20
         try clear c20b0
         try clear c20b1
         try clear c21
         try clear c21b0
         try clear c22
         try clear c22b0
         try clear c23
         try clear c23b0
         try clear c29
         try clear c29b0
         try clear c29b1
         try clear hcz24_0 hcz24_1 hcz24_2
         try clear hcz25_0 hcz25_1 hcz25_2
         try clear hcz26_0 hcz26_1 hcz26_2
         try clear hcz27_0 hcz27_1 hcz27_2
         try clear hfz24_0 hfz24_1 hfz24_2
         try clear hfz25_0 hfz25_1 hfz25_2
         try clear hfz26_0 hfz26_1 hfz26_2
         try clear hfz27_0 hfz27_1 hfz27_2
         obtain ⟨kq, x67_27, rfl, HA, HJ27, BK209, HB⟩ := hcut
         cases kq with
         | zero => exact absurd HA.out (by simp [polyglotlaw02_Parse.j3])
         | succ kj27 =>
          have H := HA.out
          clear HA
          simp only [polyglotlaw02_Parse.j3] at H
          by_cases c30 : x67_27 = true
          ·subst c30
           have H1 : (some (false, (⟨#[]⟩ : ByteArray), 0, false)) = some (r1, r2, r3, r4) := by rw [if_pos rfl] at H; exact H
           clear H
           have H := H1
           clear H1
           simp only [Option.some.injEq, Prod.mk.injEq] at H
           obtain ⟨rfl, rfl, rfl, rfl⟩ := H
           obtain ⟨hcz31_0, hcz31_1, hcz31_2, hfz31_0, hfz31_1, hfz31_2⟩ := cellsF3 BK209.out
           go_wp2
           refine bodyPost_ret (results_ct rfl _ _ gb209 46 #[.bool false, .string (⟨#[]⟩ : ByteArray), .int .i64 0] (0, 0) _ rfl q1_ Tryz.underlying46 rfl (by kernel_rfl)) rfl ?_
           exact ⟨q7_, q0_⟩
          ·replace c30 := Bool.eq_false_iff.mpr c30
           subst c30
           have H1 : (if x6_3 ≥ 0 then (polyglotlaw02_Parse.j4 kj27 x4_1 x5_3 (wrap64 ((wrap64 ((x0_6.size : Int) - 1)) - x6_3))) else (polyglotlaw02_Parse.j4 kj27 x4_1 x5_3 0)) = some (r1, r2, r3, r4) := by rw [if_neg (show ¬ (false = true) by decide)] at H; exact H
           clear H
           have H := H1
           clear H1
           have HC32 := Aside0.mk H
           clear H
           go_upto_if 70 with (fail)
           go_cut [8] (fun v8 wc => ∃ (kq : Nat) (x8_31 : Int), v8 = .int .i64 x8_31 ∧ Aside0 (polyglotlaw02_Parse.j4 kq x4_1 x5_3 x8_31 = some (r1, r2, r3, r4)) ∧ Aside0 (kq ≤ kj27) ∧ Aside0 (wc.heap[gb209]? = some (.cells #[.bool x210000_3, .string x210001_3, .int .i64 x210002_3] 46 (0, 0))) ∧ Aside0 (Below w.heap.size w wc))
           case first =>
            have H := HC32.out
            clear HC32
            by_cases c33 : x6_3 ≥ 0
            ·rw [if_pos c33] at H
             have c33b0 : decide (0 ≤ x6_3) = true := decide_eq_true c33
             clear c33
             (first | rw [c33b0] | (simp only [i64_w, i32_w]; rw [c33b0]) | skip)
             have H' := Aside0.mk H
             clear H
             go_wp2
             go_meet
             case rel => exact ⟨_, (wrap64 ((wrap64 ((x0_6.size : Int) - 1)) - x6_3)), q4_, H', ⟨(by have := HJ1.out; have := HJ6.out; have := HK3.out; have := HJ27.out; first | omega | exact Nat.le_refl _)⟩, ⟨q2_⟩, ⟨q0_⟩⟩
            ·rw [if_neg c33] at H
             have c33b0 : decide (0 ≤ x6_3) = false := decide_eq_false c33
             clear c33
             (first | rw [c33b0] | (simp only [i64_w, i32_w]; rw [c33b0]) | skip)
             have H' := Aside0.mk H
             clear H
             go_wp2
             go_meet
             case rel => exact ⟨_, (0), q4_, H', ⟨(by have := HJ1.out; have := HJ6.out; have := HK3.out; have := HJ27.out; first | omega | exact Nat.le_refl _)⟩, ⟨q2_⟩, ⟨q0_⟩⟩
           case rest =>
            clear HC32
            try clear c1
            try clear p1 p1
            try clear q1 q1
            try clear hx1
            try clear c2
            try clear p2 p2
            try clear c3
            try clear c4
            try clear c4b0
            try clear c4b1
            try clear c5
            try clear c5b0
            try clear c5b1
            try clear p6 p6
            try clear q6 q6
            try clear hx6
            try clear qi6
            try clear c8
            try clear c9
            try clear c9b0
            try clear c9b1
            try clear c10
            try clear c10b0
            try clear c11
            try clear c11b0
            try clear p12 p12
            try clear q12 q12
            try clear hx12
            try clear c14
            try clear c15
            try clear c15b0
            try clear c16
            try clear c16b0
            try clear c16b1
            try clear c17
            try clear c17b0
            try clear c17b1
            try clear c18
            try clear c18b0
            try clear c18b1
            try clear c18b2
            try clear p19 p19
            try clear q19 q19
            try clear hx19
            try clear c20
            try clear c20b0
            try clear c20b1
            try clear c21
            try clear c21b0
            try clear c22
            try clear c22b0
            try clear c23
            try clear c23b0
            try clear c29
            try clear c29b0
            try clear c29b1
            try clear c30
            try clear c31
            try clear c33
            try clear c33b0
            try clear hcz24_0 hcz24_1 hcz24_2
            try clear hcz25_0 hcz25_1 hcz25_2
            try clear hcz26_0 hcz26_1 hcz26_2
            try clear hcz27_0 hcz27_1 hcz27_2
            try clear hcz31_0 hcz31_1 hcz31_2
            try clear hfz24_0 hfz24_1 hfz24_2
            try clear hfz25_0 hfz25_1 hfz25_2
            try clear hfz26_0 hfz26_1 hfz26_2
            try clear hfz27_0 hfz27_1 hfz27_2
            try clear hfz31_0 hfz31_1 hfz31_2
            obtain ⟨kq, x8_31, rfl, HA, HJ31, BK209, HB⟩ := hcut
            cases kq with
            | zero => exact absurd HA.out (by simp [polyglotlaw02_Parse.j4])
            | succ kj31 =>
             have H := HA.out
             clear HA
             simp only [polyglotlaw02_Parse.j4] at H
             have H' := Aside0.mk H
             clear H
             go_wp2
             go_loopg [5] kj31 (fun kq v5 w' => ∃ (x5_6 : ByteArray), v5 = .string x5_6 ∧ Aside0 (polyglotlaw02_Parse.l1 kq x4_1 x5_6 x8_31 = some (r1, r2, r3, r4)) ∧ Aside0 (kq ≤ kj31) ∧ Aside0 (w'.heap[gb209]? = some (.cells #[.bool x210000_3, .string x210001_3, .int .i64 x210002_3] 46 (0, 0))) ∧ Aside0 (Below w.heap.size w w'))
             case atStart => exact ⟨(x5_3), q4_, H', ⟨Nat.le_refl _⟩, ⟨q2_⟩, ⟨q0_⟩⟩
             case round =>
              clear H'
              try clear c1
              try clear p1 p1
              try clear q1 q1
              try clear hx1
              try clear c2
              try clear p2 p2
              try clear c3
              try clear c4
              try clear c4b0
              try clear c4b1
              try clear c5
              try clear c5b0
              try clear c5b1
              try clear p6 p6
              try clear q6 q6
              try clear hx6
              try clear qi6
              try clear c8
              try clear c9
              try clear c9b0
              try clear c9b1
              try clear c10
              try clear c10b0
              try clear c11
              try clear c11b0
              try clear p12 p12
              try clear q12 q12
              try clear hx12
              try clear c14
              try clear c15
              try clear c15b0
              try clear c16
              try clear c16b0
              try clear c16b1
              try clear c17
              try clear c17b0
              try clear c17b1
              try clear c18
              try clear c18b0
              try clear c18b1
              try clear c18b2
              try clear p19 p19
              try clear q19 q19
              try clear hx19
              try clear c20
              try clear c20b0
              try clear c20b1
              try clear c21
              try clear c21b0
              try clear c22
              try clear c22b0
              try clear c23
              try clear c23b0
              try clear c29
              try clear c29b0
              try clear c29b1
              try clear c30
              try clear c31
              try clear c33
              try clear c33b0
              try clear hcz24_0 hcz24_1 hcz24_2
              try clear hcz25_0 hcz25_1 hcz25_2
              try clear hcz26_0 hcz26_1 hcz26_2
              try clear hcz27_0 hcz27_1 hcz27_2
              try clear hcz31_0 hcz31_1 hcz31_2
              try clear hfz24_0 hfz24_1 hfz24_2
              try clear hfz25_0 hfz25_1 hfz25_2
              try clear hfz26_0 hfz26_1 hfz26_2
              try clear hfz27_0 hfz27_1 hfz27_2
              try clear hfz31_0 hfz31_1 hfz31_2
              obtain ⟨x5_6, rfl, HA, HK6, BK209, HB⟩ := hrel
              cases gk with
              | zero => exact absurd HA.out (by simp [polyglotlaw02_Parse.l1])
              | succ k6 =>
               have H := HA.out
               clear HA
               simp only [polyglotlaw02_Parse.l1] at H
               by_cases c34 : (x5_6.size : Int) > (wrap64 (x8_31 + 1))
               ·rw [if_pos c34] at H
                have c34b0 : decide ((wrap64 (x8_31 + 1)) < (x5_6.size : Int)) = true := decide_eq_true c34
                clear c34
                by_cases c35 : 0 < (x5_6.size : Int)
                ·rw [if_pos c35] at H
                 have c35b0 : decide (0 < (x5_6.size : Int)) = true := decide_eq_true c35
                 have c35b1 : decide (0 < x5_6.size) = true := decide_eq_true (by omega)
                 clear c35
                 by_cases c37 : (bt x5_6 0) = 48
                 ·rw [if_pos c37] at H
                  have c37b0 : ((bt x5_6 0) == 48) = true := beq_iff_eq.mpr c37
                  have c37b1 : ((bt x5_6 0) != 48) = false := bne_eq_false_iff_eq.mpr c37
                  clear c37
                  by_cases c38 : 1 ≤ (x5_6.size : Int)
                  ·rw [if_pos c38] at H
                   have c38b0 := eq_true c38
                   have c38b1 : decide (1 ≤ (x5_6.size : Int)) = true := decide_eq_true c38
                   clear c38
                   have H' := Aside0.mk H
                   clear H
                   have p36 : 0 ≤ (0 : Int) := (by omega)
                   have q36 : 0 < x5_6.size := (by have : (0 : Int) < (x5_6.size : Int) := of_decide_eq_true q3_; omega)
                   have hx36 : ∀ h : 0 < x5_6.size, ((x5_6[0]'h).toNat : Int) = bt x5_6 0 := bt_at x5_6 0
                   clear p36
                   have qi36 : (0 < (x5_6.size : Int)) = True := eq_true (of_decide_eq_true q3_)
                   replace q36 := eq_true q36
                   go_wp2
                   go_roundg k6
                   case measure => have := HJ1.out; have := HJ6.out; have := HK3.out; have := HJ27.out; have := HJ31.out; have := HK6.out; omega
                   case rel => exact ⟨(x5_6.extract 1 x5_6.size), q4_, H', ⟨(by have := HJ1.out; have := HJ6.out; have := HK3.out; have := HJ27.out; have := HJ31.out; have := HK6.out; omega)⟩, ⟨q2_⟩, ⟨q0_⟩⟩
                  ·rw [if_neg c38] at H
                   exact absurd H (by simp)
                 ·rw [if_neg c37] at H
                  have c37b0 : ((bt x5_6 0) == 48) = false := beq_eq_false_iff_ne.mpr c37
                  have c37b1 : ((bt x5_6 0) != 48) = true := bne_iff_ne.mpr c37
                  simp only [Option.some.injEq, Prod.mk.injEq] at H
                  obtain ⟨rfl, rfl, rfl, rfl⟩ := H
                  have p36 : 0 ≤ (0 : Int) := (by omega)
                  have q36 : 0 < x5_6.size := (by have : (0 : Int) < (x5_6.size : Int) := of_decide_eq_true q3_; omega)
                  have hx36 : ∀ h : 0 < x5_6.size, ((x5_6[0]'h).toNat : Int) = bt x5_6 0 := bt_at x5_6 0
                  clear p36
                  have qi36 : (0 < (x5_6.size : Int)) = True := eq_true (of_decide_eq_true q3_)
                  replace q36 := eq_true q36
                  obtain ⟨hcz39_0, hcz39_1, hcz39_2, hfz39_0, hfz39_1, hfz39_2⟩ := cellsF3 BK209.out
                  go_wp2
                  refine bodyPost_ret (results_ct rfl _ _ gb209 46 #[.bool x4_1, .string x5_6, .int .i64 x8_31] (0, 0) _ rfl q6_ Tryz.underlying46 rfl (by kernel_rfl)) rfl ?_
                  exact ⟨q7_, q0_⟩
                ·rw [if_neg c35] at H
                 exact absurd H (by simp)
               ·rw [if_neg c34] at H
                have c34b0 : decide ((wrap64 (x8_31 + 1)) < (x5_6.size : Int)) = false := decide_eq_false c34
                clear c34
                simp only [Option.some.injEq, Prod.mk.injEq] at H
                obtain ⟨rfl, rfl, rfl, rfl⟩ := H
                obtain ⟨hcz40_0, hcz40_1, hcz40_2, hfz40_0, hfz40_1, hfz40_2⟩ := cellsF3 BK209.out
                go_wp2
                refine bodyPost_ret (results_ct rfl _ _ gb209 46 #[.bool x4_1, .string x5_6, .int .i64 x8_31] (0, 0) _ rfl q6_ Tryz.underlying46 rfl (by kernel_rfl)) rfl ?_
                exact ⟨q7_, q0_⟩
end Go.Proofs.YtdhpcofnddkcaaaGreatDoor.S
namespace Go.Proofs.YtdhpcofnddkcaaaGreatDoor.S
open Go.RowKit Go.Proofs.YtdhpcofnddkcaaaGreatDoor.G Go.Proofs.YtdhpcofnddkcaaaGreatDoorW.PrintWords Go.Proofs.YtdhpcofnddkcaaaGreatDoorW.PrintLast Go.Proofs.YtdhpcofnddkcaaaGreatDoorW.PrintMore
set_option linter.unusedVariables false
set_option linter.unusedSimpArgs false
theorem repeatL_one (c : UInt8) : ∀ m, Lib.repeatL [c] m = List.replicate m c
  | 0 => rfl
  | m + 1 => by
    show [c] ++ Lib.repeatL [c] m = _
    rw [repeatL_one c m, List.replicate_succ]
    rfl
abbrev bl (s : ByteArray) : List UInt8 := s.data.toList
theorem tl (s : ByteArray) : s.toList = bl s := Lib.toList_data s
theorem sz (s : ByteArray) : s.size = (bl s).length := Lib.size_eq s
theorem ba_ext {a b : ByteArray} (h : bl a = bl b) : a = b := by
  cases a; cases b; congr 1; exact Array.ext' h
theorem bl_app (a b : ByteArray) : bl (a ++ b) = bl a ++ bl b := by show (a ++ b).data.toList = _; rw [ByteArray.data_append, Array.toList_append]
theorem bl_ext (s : ByteArray) (a b : Nat) : bl (s.extract a b) = ((bl s).drop a).take (b - a) := Lib.extract_data s a b
theorem bl_mk (l : List UInt8) : bl ⟨l.toArray⟩ = l := rfl
theorem mk_bl (s : ByteArray) : (⟨(bl s).toArray⟩ : ByteArray) = s := ba_ext rfl
theorem sz_app (a b : ByteArray) : (a ++ b).size = a.size + b.size := ByteArray.size_append
theorem w64 (x : Int) (h0 : -9223372036854775808 ≤ x) (h1 : x ≤ 9223372036854775807) : wrap64 x = x := by unfold wrap64; omega
theorem bt_nat (s : ByteArray) (i : Nat) (c : UInt8) (h : (bl s)[i]? = some c) : bt s (i : Int) = c.toNat := by
  obtain ⟨hl, e⟩ := List.getElem?_eq_some_iff.1 h
  have hl' : i < s.size := by rw [sz]; exact hl
  unfold bt
  rw [Int.toNat_natCast, dif_pos hl']
  rw [← e]
  rfl
theorem digit_f (c : UInt8) : polyglotlaw02_digit.f (c.toNat : Int) = some (isDig c) := by
  unfold polyglotlaw02_digit.f isDig
  by_cases h : 48 ≤ c.toNat
  · rw [if_pos (by omega)]
    simp [h]
    omega
  · rw [if_neg (by omega)]
    simp [h]
abbrev digs (l : List UInt8) : Bool := l.all isDig
def stripTo (m : Nat) : List UInt8 → List UInt8
  | [] => []
  | c :: t => if m < t.length + 1 ∧ c = 48 then stripTo m t else c :: t
theorem stripTo_len (m : Nat) : ∀ L, (stripTo m L).length ≤ L.length ∧ (m ≤ L.length → m ≤ (stripTo m L).length)
  | [] => ⟨Nat.le_refl _, fun h => h⟩
  | c :: t => by
    have ih := stripTo_len m t
    unfold stripTo
    split
    · rw [List.length_cons]; exact ⟨by omega, fun h => ih.2 (by omega)⟩
    · exact ⟨Nat.le_refl _, fun h => h⟩
theorem stripTo_digs (m : Nat) : ∀ L, digs L = true → digs (stripTo m L) = true
  | [], h => h
  | c :: t, h => by
    unfold stripTo
    split
    · exact stripTo_digs m t (by simp [digs] at h ⊢; exact h.2)
    · exact h
theorem stripTo_norm (m : Nat) : ∀ L, m ≤ L.length → (stripTo m L).length = m ∨ (stripTo m L).head? ≠ some 48
  | [], h => Or.inl (by simp at h; subst h; rfl)
  | c :: t, h => by
    unfold stripTo
    split
    · rename_i hc; exact stripTo_norm m t (by omega)
    · rename_i hc
      by_cases e : c = 48
      · left; rw [List.length_cons] at h ⊢; have : ¬ m < t.length + 1 := fun h2 => hc ⟨h2, e⟩; omega
      · right; simpa using e
theorem stripTo_id (m : Nat) (L : List UInt8) (h : L.length = m ∨ L.head? ≠ some 48) : stripTo m L = L := by
  cases L with
  | nil => rfl
  | cons c t =>
    unfold stripTo
    rw [if_neg]
    rintro ⟨h1, h2⟩
    rcases h with h | h
    · rw [List.length_cons] at h; omega
    · exact h (by rw [h2]; rfl)
theorem dw48 (l : List UInt8) : l = List.replicate (l.length - (Lib.trimLeftS l [48]).length) 48 ++ Lib.trimLeftS l [48] := by
  induction l with
  | nil => rfl
  | cons c t ih =>
    unfold Lib.trimLeftS at ih ⊢
    rw [List.dropWhile_cons]
    by_cases h : ([48] : List UInt8).contains c = true
    · rw [if_pos h]
      have hc : c = 48 := by simpa using h
      have hl : (t.dropWhile fun x => ([48] : List UInt8).contains x).length ≤ t.length := (List.dropWhile_suffix _).length_le
      rw [List.length_cons, show t.length + 1 - (t.dropWhile fun x => ([48] : List UInt8).contains x).length = (t.length - (t.dropWhile fun x => ([48] : List UInt8).contains x).length) + 1 by omega, List.replicate_succ, List.cons_append, ← ih, hc]
    · rw [if_neg h]
      simp
theorem strip_eq (m : Nat) : ∀ L : List UInt8, m ≤ L.length → 1 ≤ m → (if (Lib.trimLeftS L [48]).length < m then List.replicate (m - (Lib.trimLeftS L [48]).length) 48 ++ Lib.trimLeftS L [48] else Lib.trimLeftS L [48]) = stripTo m L
  | [], h, h1 => by simp at h; omega
  | c :: t, h, h1 => by
    rw [List.length_cons] at h
    by_cases hc : c = 48
    · have e : Lib.trimLeftS (c :: t) [48] = Lib.trimLeftS t [48] := by
        unfold Lib.trimLeftS
        rw [List.dropWhile_cons, if_pos (by simpa using hc)]
      rw [e]
      unfold stripTo
      by_cases hm : m < t.length + 1
      · rw [if_pos (⟨hm, hc⟩ : m < t.length + 1 ∧ c = 48)]
        exact strip_eq m t (by omega) h1
      · rw [if_neg (fun h => hm h.1 : ¬ (m < t.length + 1 ∧ c = 48))]
        have hd := dw48 (c :: t)
        rw [e, List.length_cons] at hd
        have hl : (Lib.trimLeftS t [48]).length ≤ t.length := (List.dropWhile_suffix _).length_le
        rw [if_pos (by omega), show m - (Lib.trimLeftS t [48]).length = t.length + 1 - (Lib.trimLeftS t [48]).length by omega]
        exact hd.symm
    · have e : Lib.trimLeftS (c :: t) [48] = c :: t := by
        unfold Lib.trimLeftS
        rw [List.dropWhile_cons, if_neg (by simpa using hc)]
      rw [e, if_neg (by rw [List.length_cons]; omega)]
      unfold stripTo
      rw [if_neg (fun h => hc h.2 : ¬ (m < t.length + 1 ∧ c = 48))]
theorem make0_ok (n : Bool) (D : ByteArray) (sc : Nat) (h : sc + 1 ≤ (bl D).length) (hl : (bl D).length ≤ 1000000) : dec_make0.f n D sc = some (n, ⟨(stripTo (sc + 1) (bl D)).toArray⟩, (sc : Int)) := by
  have hT : strings_TrimLeft.f D ⟨#[48]⟩ = some ⟨(Lib.trimLeftS (bl D) [48]).toArray⟩ := by
    unfold strings_TrimLeft.f
    rw [if_pos ⟨by decide, by decide⟩]
  have hlt : (Lib.trimLeftS (bl D) [48]).length ≤ (bl D).length := (List.dropWhile_suffix _).length_le
  have hst := strip_eq (sc + 1) (bl D) h (by omega)
  unfold dec_make0.f
  rw [hT, Option.bind_some, sz, bl_mk, w64 ((sc : Int) + 1) (by omega) (by omega), w64 _ (by omega) (by omega)]
  by_cases hc : (Lib.trimLeftS (bl D) [48]).length < sc + 1
  · rw [if_pos hc] at hst
    rw [if_pos (by omega)]
    have hR : strings_Repeat.f ⟨#[48]⟩ ((sc : Int) + 1 - ((Lib.trimLeftS (bl D) [48]).length : Int)) = some ⟨(List.replicate (sc + 1 - (Lib.trimLeftS (bl D) [48]).length) 48).toArray⟩ := by
      unfold strings_Repeat.f
      have e : ((sc : Int) + 1 - ((Lib.trimLeftS (bl D) [48]).length : Int)).toNat = sc + 1 - (Lib.trimLeftS (bl D) [48]).length := by omega
      rw [if_pos ⟨by omega, by omega, by rw [e]; show 1 * _ ≤ _; omega⟩, e]
      rw [show (⟨#[48]⟩ : ByteArray).data.toList = [48] from rfl, repeatL_one]
    rw [hR, Option.bind_some, if_pos (by rw [sz, bl_mk, List.length_replicate]; omega), ← hst]
    congr 3
  · rw [if_neg hc] at hst
    rw [if_neg (by omega), ← hst]
theorem dw_nil {p : UInt8 → Bool} : ∀ {l : List UInt8}, l.dropWhile p = [] ↔ ∀ x ∈ l, p x = true
  | [] => by simp
  | a :: l => by
    rw [List.dropWhile_cons]
    by_cases h : p a = true
    · rw [if_pos h, dw_nil]
      simp [h]
    · rw [if_neg h]
      simp [h]
theorem isDigits_ok (s : ByteArray) (hs : s.size ≤ 1000000) : dec_isDigits.f s = some (!(bl s).isEmpty && (bl s).all isDig) := by
  unfold dec_isDigits.f
  rw [tl]
  by_cases h0 : bl s = []
  · rw [if_pos h0, h0]; rfl
  · rw [if_neg h0]
    have hT : strings_Trim.f s ⟨#[48, 49, 50, 51, 52, 53, 54, 55, 56, 57]⟩ = some ⟨(Lib.trimS (bl s) [48, 49, 50, 51, 52, 53, 54, 55, 56, 57]).toArray⟩ := by
      unfold strings_Trim.f
      rw [if_pos ⟨by omega, by decide, by decide⟩]
    rw [hT, Option.bind_some, tl, bl_mk]
    congr 1
    have hc : ∀ c : UInt8, ([48, 49, 50, 51, 52, 53, 54, 55, 56, 57] : List UInt8).contains c = isDig c := fun c => by
      have h : ∀ n : Nat, n < 256 → ([48, 49, 50, 51, 52, 53, 54, 55, 56, 57] : List UInt8).contains (UInt8.ofNat n) = isDig (UInt8.ofNat n) := by decide +kernel
      have := h c.toNat c.toNat_lt
      rwa [show UInt8.ofNat c.toNat = c by simp] at this
    have h1 : (bl s).isEmpty = false := by simpa using h0
    rw [h1, Bool.not_false, Bool.true_and]
    unfold Lib.trimS Lib.trimLeftS Lib.trimRightS
    rw [show (fun x => ([48, 49, 50, 51, 52, 53, 54, 55, 56, 57] : List UInt8).contains x) = isDig from funext hc]
    by_cases ha : (bl s).all isDig = true
    · rw [ha]
      have e : (bl s).reverse.dropWhile isDig = [] := by
        rw [dw_nil]
        intro x hx
        exact List.all_eq_true.1 ha x (List.mem_reverse.1 hx)
      rw [e]; rfl
    · have ha' : (bl s).all isDig = false := by simpa using ha
      rw [ha', beq_eq_false_iff_ne]
      intro e
      apply ha
      rw [List.all_eq_true]
      intro x hx
      have e2 := dw_nil.1 e
      by_cases hxd : isDig x = true
      · exact hxd
      · exfalso
        have hm : x ∈ ((bl s).reverse.dropWhile isDig).reverse := by
          rw [List.mem_reverse]
          have hsp := List.takeWhile_append_dropWhile (p := isDig) (l := (bl s).reverse)
          have hx2 : x ∈ (bl s).reverse := List.mem_reverse.2 hx
          rw [← hsp] at hx2
          rcases List.mem_append.1 hx2 with h | h
          · exact absurd (List.all_eq_true.1 (List.all_takeWhile) x h) hxd
          · exact h
        exact hxd (e2 x hm)
def scan : List UInt8 → List UInt8 → Int → Nat → Option (List UInt8 × Int)
  | [], acc, pt, _ => some (acc, pt)
  | c :: t, acc, pt, i => if isDig c = true then scan t (acc ++ [c]) pt (i + 1) else if c = 46 ∧ pt < 0 ∧ 0 < i ∧ t ≠ [] then scan t acc i (i + 1) else none
theorem scan_behind : ∀ (t acc : List UInt8) (pt : Int) (i : Nat), 0 ≤ pt → scan t acc pt i = if digs t = true then some (acc ++ t, pt) else none
  | [], acc, pt, i, h => by simp [scan, digs]
  | c :: t, acc, pt, i, h => by
    unfold scan
    by_cases hc : isDig c = true
    · rw [if_pos hc, scan_behind t _ pt _ h]
      simp [digs, hc]
    · rw [if_neg hc, if_neg (by omega), if_neg (by simp [digs, hc])]
theorem dig_ne {c : UInt8} (h : isDig c = true) : (c != 46) = true := by
  rw [bne_iff_ne]
  rintro rfl
  exact absurd h (by decide)
theorem scan_ahead : ∀ (t acc : List UInt8) (i : Nat), scan t acc (-1) i = match behind t with
    | [] => if digs t = true then some (acc ++ t, -1) else none
    | _ :: P => if digs (ahead t) = true ∧ 0 < i + (ahead t).length ∧ P ≠ [] ∧ digs P = true then some (acc ++ ahead t ++ P, ((i + (ahead t).length : Nat) : Int)) else none
  | [], acc, i => by simp [scan, behind, digs]
  | c :: t, acc, i => by
    unfold scan
    by_cases hc : isDig c = true
    · have h1 : behind (c :: t) = behind t := by unfold behind; rw [List.dropWhile_cons, if_pos (dig_ne hc)]
      have h2 : ahead (c :: t) = c :: ahead t := by unfold ahead; rw [List.takeWhile_cons, if_pos (dig_ne hc)]
      rw [if_pos hc, scan_ahead t, h1, h2]
      cases hb : behind t with
      | nil => simp [digs, hc]
      | cons z P =>
        have e : digs (c :: ahead t) = digs (ahead t) := by simp [digs, hc]
        simp only [e, List.length_cons]
        by_cases hq : digs (ahead t) = true ∧ 0 < i + 1 + (ahead t).length ∧ P ≠ [] ∧ digs P = true
        · rw [if_pos hq, if_pos ⟨hq.1, by omega, hq.2.2⟩]
          simp
          omega
        · rw [if_neg hq, if_neg (fun h => hq ⟨h.1, by omega, h.2.2⟩)]
    · rw [if_neg hc]
      by_cases h46 : c = 46
      · subst h46
        have h1 : behind (46 :: t) = 46 :: t := by unfold behind; rw [List.dropWhile_cons, if_neg (by decide)]
        have h2 : ahead (46 :: t) = [] := by unfold ahead; rw [List.takeWhile_cons, if_neg (by decide)]
        rw [h1, h2]
        by_cases hq : 0 < i ∧ t ≠ []
        · rw [if_pos ⟨rfl, by decide, hq.1, hq.2⟩, scan_behind _ _ _ _ (by omega)]
          by_cases hd : digs t = true
          · rw [if_pos hd]
            show _ = if _ then _ else _
            rw [if_pos ⟨rfl, by simp; exact hq.1, hq.2, hd⟩]
            simp
          · rw [if_neg hd]
            show _ = if _ then _ else _
            rw [if_neg (fun h => hd h.2.2.2)]
        · rw [if_neg (fun h => hq ⟨h.2.2.1, h.2.2.2⟩)]
          show _ = if _ then _ else _
          rw [if_neg (fun h => hq ⟨by simpa using h.2.1, h.2.2.1⟩)]
      · rw [if_neg (fun h => h46 h.1)]
        have hne : (c != 46) = true := by rw [bne_iff_ne]; exact h46
        have h1 : behind (c :: t) = behind t := by unfold behind; rw [List.dropWhile_cons, if_pos hne]
        have h2 : ahead (c :: t) = c :: ahead t := by unfold ahead; rw [List.takeWhile_cons, if_pos hne]
        rw [h1, h2]
        cases hb : behind t with
        | nil => rw [if_neg (by simp [digs, hc])]
        | cons z P =>
          show _ = if _ then _ else _
          rw [if_neg (fun h => hc (by have := h.1; simp [digs] at this; exact this.1))]
def parseL (R : List UInt8) : Option (List UInt8 × Nat) := match behind R with
  | [] => if R ≠ [] ∧ digs R = true ∧ R.length ≤ 40 then some (R, 0) else none
  | _ :: P => if digs (ahead R) = true ∧ ahead R ≠ [] ∧ P ≠ [] ∧ digs P = true ∧ (ahead R ++ P).length ≤ 40 then some (ahead R ++ P, P.length) else none
def parseV (neg : Bool) (R : List UInt8) : Bool × ByteArray × Int × Bool := match parseL R with
  | none => (false, ⟨#[]⟩, 0, false)
  | some (D, sc) => (neg, ⟨(stripTo (sc + 1) D).toArray⟩, (sc : Int), true)
theorem ahead_behind (R : List UInt8) : R = ahead R ++ behind R := (List.takeWhile_append_dropWhile).symm
theorem behind_head {R P : List UInt8} {z : UInt8} (h : behind R = z :: P) : z = 46 := by
  have := List.head?_dropWhile_not (fun x : UInt8 => x != 46) R
  rw [show R.dropWhile (fun x => x != 46) = z :: P from h] at this
  simpa using this
theorem ahead_not (R : List UInt8) : ∀ c ∈ ahead R, c ≠ 46 := fun c hc => by
  have := List.all_eq_true.1 (List.all_takeWhile (p := fun x : UInt8 => x != 46) (l := R)) c hc
  simpa using this
theorem l1_strip (neg : Bool) (sc : Nat) (hsc : sc ≤ 1000000) : ∀ (n : Nat) (D : ByteArray), D.size ≤ n → D.size ≤ 1000000 → ∃ k, polyglotlaw02_Parse.l1 k neg D (sc : Int) = some (neg, ⟨(stripTo (sc + 1) (bl D)).toArray⟩, (sc : Int), true) := by
  intro n
  induction n with
  | zero =>
    intro D hn hD
    have h0 : bl D = [] := List.eq_nil_of_length_eq_zero (by rw [← sz]; omega)
    refine ⟨1, ?_⟩
    rw [polyglotlaw02_Parse.l1, w64 _ (by omega) (by omega), if_neg (by omega), h0]
    congr 2
    exact congrArg (fun x => (x, ((sc : Int), true))) (ba_ext (by rw [h0]; rfl))
  | succ n ih =>
    intro D hn hD
    cases hb : bl D with
    | nil =>
      refine ⟨1, ?_⟩
      have hz : D.size = 0 := by rw [sz, hb]; rfl
      rw [polyglotlaw02_Parse.l1, w64 _ (by omega) (by omega), if_neg (by omega)]
      congr 2
      exact congrArg (fun x => (x, ((sc : Int), true))) (ba_ext (by rw [hb]; rfl))
    | cons c t =>
      have hz : D.size = t.length + 1 := by rw [sz, hb]; rfl
      have hb0 : bt D 0 = c.toNat := bt_nat D 0 c (by rw [hb]; rfl)
      have hself : (⟨(c :: t).toArray⟩ : ByteArray) = D := ba_ext (by rw [hb])
      unfold stripTo
      by_cases h1 : sc + 1 < t.length + 1
      · by_cases h2 : c = 48
        · rw [if_pos ⟨h1, h2⟩]
          have e : bl (D.extract 1 D.size) = t := by rw [bl_ext, hb, List.drop_one, List.tail_cons, List.take_of_length_le (by omega)]
          obtain ⟨k, hk⟩ := ih (D.extract 1 D.size) (by rw [sz, e]; omega) (by rw [sz, e]; omega)
          refine ⟨k + 1, ?_⟩
          rw [polyglotlaw02_Parse.l1, w64 _ (by omega) (by omega), if_pos (by omega), if_pos (by omega), hb0, if_pos (by rw [h2]; rfl), if_pos (by omega), hk, e]
        · rw [if_neg (fun h => h2 h.2), hself]
          refine ⟨1, ?_⟩
          rw [polyglotlaw02_Parse.l1, w64 _ (by omega) (by omega), if_pos (by omega), if_pos (by omega), hb0, if_neg (fun h => h2 (UInt8.toNat_inj.1 (by show c.toNat = 48; omega)))]
      · rw [if_neg (fun h => h1 h.1), hself]
        refine ⟨1, ?_⟩
        rw [polyglotlaw02_Parse.l1, w64 _ (by omega) (by omega), if_neg (by omega)]
theorem law_end (R : ByteArray) (hR : R.size ≤ 100000) (neg : Bool) (acc : ByteArray) (ha : acc.size ≤ 100000) (pt : Int) (h0 : pt = -1 ∨ 0 ≤ pt ∧ pt < R.size) :
    ∃ k, polyglotlaw02_Parse.l0 k R neg acc pt (R.size : Int) = some (if acc.size = 0 ∨ 40 < acc.size then (false, ⟨#[]⟩, 0, false) else (neg, ⟨(stripTo ((if pt < 0 then 0 else (R.size : Int) - 1 - pt).toNat + 1) (bl acc)).toArray⟩, (if pt < 0 then 0 else (R.size : Int) - 1 - pt), true)) := by
  by_cases hz : acc.size = 0
  · refine ⟨2, ?_⟩
    rw [polyglotlaw02_Parse.l0, if_neg (by omega), if_pos (by omega), polyglotlaw02_Parse.j3, if_pos rfl, if_pos (Or.inl hz)]
  · by_cases h40 : 40 < acc.size
    · refine ⟨2, ?_⟩
      rw [polyglotlaw02_Parse.l0, if_neg (by omega), if_neg (by omega), polyglotlaw02_Parse.j3, if_pos (by simp; omega), if_pos (Or.inr h40)]
    · rw [if_neg (by omega)]
      rcases h0 with rfl | ⟨h0, h1⟩
      · obtain ⟨k, hk⟩ := l1_strip neg 0 (by omega) acc.size acc (Nat.le_refl _) (by omega)
        refine ⟨k + 3, ?_⟩
        rw [polyglotlaw02_Parse.l0, if_neg (by omega), if_neg (by omega), polyglotlaw02_Parse.j3, if_neg (by simp; omega), if_neg (by decide), polyglotlaw02_Parse.j4]
        exact hk
      · obtain ⟨sc, hsc⟩ := Int.eq_ofNat_of_zero_le (show 0 ≤ (R.size : Int) - 1 - pt by omega)
        rw [if_neg (by omega), hsc, Int.toNat_natCast]
        obtain ⟨k, hk⟩ := l1_strip neg sc (by omega) acc.size acc (Nat.le_refl _) (by omega)
        refine ⟨k + 3, ?_⟩
        rw [polyglotlaw02_Parse.l0, if_neg (by omega), if_neg (by omega), polyglotlaw02_Parse.j3, if_neg (by simp; omega), if_pos (by omega), polyglotlaw02_Parse.j4, w64 ((R.size : Int) - 1) (by omega) (by omega), w64 _ (by omega) (by omega), hsc]
        exact hk
theorem law_scan (R : ByteArray) (hR : R.size ≤ 100000) (neg : Bool) : ∀ (t : List UInt8) (acc : ByteArray) (pt : Int) (i : Nat), bl R = (bl R).take i ++ t → i + t.length = R.size → acc.size ≤ i → (pt = -1 ∨ 0 ≤ pt ∧ pt < i) →
    ∃ k, polyglotlaw02_Parse.l0 k R neg acc pt (i : Int) = some (match scan t (bl acc) pt i with
      | none => (false, ⟨#[]⟩, 0, false)
      | some (a, p) => if a.length = 0 ∨ 40 < a.length then (false, ⟨#[]⟩, 0, false) else (neg, ⟨(stripTo ((if p < 0 then 0 else (R.size : Int) - 1 - p).toNat + 1) a).toArray⟩, (if p < 0 then 0 else (R.size : Int) - 1 - p), true))
  | [], acc, pt, i, hb, hi, ha, hp => by
    have e : i = R.size := by simpa using hi
    subst e
    obtain ⟨k, hk⟩ := law_end R hR neg acc (by omega) pt hp
    refine ⟨k, ?_⟩
    rw [hk]
    unfold scan
    rw [sz acc]
  | c :: t, acc, pt, i, hb, hi, ha, hp => by
    rw [List.length_cons] at hi
    have hil : i < R.size := by omega
    have hc : (bl R)[i]? = some c := by
      rw [hb, List.getElem?_append_right (by rw [List.length_take]; omega), List.length_take, ← sz, Nat.min_eq_left (by omega), Nat.sub_self]
      rfl
    have hdr : (bl R).drop i = c :: t := by
      rw [hb, List.drop_append_of_le_length (by rw [List.length_take, ← sz]; omega), List.drop_eq_nil_of_le (by rw [List.length_take]; omega)]
      rfl
    have htk : bl R = (bl R).take (i + 1) ++ t := by
      have h1 : (bl R).drop (i + 1) = t := by rw [show (bl R).drop (i + 1) = ((bl R).drop i).drop 1 by rw [List.drop_drop], hdr]; rfl
      rw [← h1, List.take_append_drop]
    have hbt := bt_nat R i c hc
    have hw : wrap64 ((i : Int) + 1) = ((i + 1 : Nat) : Int) := by rw [w64 _ (by omega) (by omega)]; simp
    unfold scan
    by_cases hg : isDig c = true
    · rw [if_pos hg]
      have e : bl (R.extract i (i + 1)) = [c] := by rw [bl_ext, hdr]; simp
      obtain ⟨k, hk⟩ := law_scan R hR neg t (acc ++ R.extract i (i + 1)) pt (i + 1) htk (by omega) (by rw [sz_app, sz (R.extract i (i + 1)), e]; simp; omega) (by omega)
      refine ⟨k + 1, ?_⟩
      rw [polyglotlaw02_Parse.l0, if_pos (by omega), if_pos (by omega), hbt, digit_f, Option.bind_some, if_pos hg, hw, if_pos (by omega), if_pos (by omega), Int.toNat_natCast, Int.toNat_natCast, if_pos (by rw [sz (R.extract i (i + 1)), e]; simp; omega), hk, bl_app, e]
    · rw [if_neg hg]
      by_cases hq : c = 46 ∧ pt < 0 ∧ 0 < i ∧ t ≠ []
      · rw [if_pos hq]
        have htl : 0 < t.length := List.length_pos_iff.2 hq.2.2.2
        obtain ⟨k, hk⟩ := law_scan R hR neg t acc (i : Int) (i + 1) htk (by omega) (by omega) (Or.inr ⟨by omega, by omega⟩)
        refine ⟨k + 1, ?_⟩
        rw [polyglotlaw02_Parse.l0, if_pos (by omega), if_pos (by omega), hbt, digit_f, Option.bind_some, if_neg hg, if_pos (by rw [hq.1]; rfl), if_pos hq.2.1, if_pos (by omega), hw, if_pos (by omega), hk]
      · rw [if_neg hq]
        refine ⟨1, ?_⟩
        rw [polyglotlaw02_Parse.l0, if_pos (by omega), if_pos (by omega), hbt, digit_f, Option.bind_some, if_neg hg]
        by_cases h46 : (c.toNat : Int) = 46
        · have hc46 : c = 46 := UInt8.toNat_inj.1 (by show c.toNat = 46; omega)
          rw [if_pos h46]
          by_cases hp0 : pt < 0
          · rw [if_pos hp0]
            by_cases hi0 : 0 < i
            · rw [if_pos (by omega), hw, if_neg]
              intro hlt
              apply hq
              refine ⟨hc46, hp0, hi0, ?_⟩
              rintro rfl
              simp at hi
              omega
            · rw [if_neg (by omega)]
          · rw [if_neg hp0]
        · rw [if_neg h46]
theorem scan_parse (R : ByteArray) (neg : Bool) (hR : R.size ≤ 100000) : (match scan (bl R) [] (-1) 0 with
      | none => ((false, ⟨#[]⟩, 0, false) : Bool × ByteArray × Int × Bool)
      | some (a, p) => if a.length = 0 ∨ 40 < a.length then (false, ⟨#[]⟩, 0, false) else (neg, ⟨(stripTo ((if p < 0 then 0 else (R.size : Int) - 1 - p).toNat + 1) a).toArray⟩, (if p < 0 then 0 else (R.size : Int) - 1 - p), true)) = parseV neg (bl R) := by
  rw [scan_ahead]
  unfold parseV parseL
  cases hb : behind (bl R) with
  | nil =>
    by_cases hd : digs (bl R) = true
    · rw [if_pos hd]
      show (if _ then _ else _) = _
      rw [List.nil_append]
      by_cases hq : bl R ≠ [] ∧ digs (bl R) = true ∧ (bl R).length ≤ 40
      · have := List.length_pos_iff.2 hq.1
        rw [if_pos hq, if_neg (by omega)]
        rfl
      · rw [if_neg hq, if_pos]
        by_cases h0 : (bl R).length = 0
        · exact Or.inl h0
        · right
          have h1 : bl R ≠ [] := by intro h; rw [h] at h0; exact h0 rfl
          have : ¬ (bl R).length ≤ 40 := fun h => hq ⟨h1, hd, h⟩
          omega
    · rw [if_neg hd, if_neg (fun h => hd h.2.1)]
  | cons z P =>
    simp only [List.nil_append, Nat.zero_add]
    have hz := behind_head hb
    subst hz
    have hsp := ahead_behind (bl R)
    rw [hb] at hsp
    have hlen : R.size = (ahead (bl R)).length + 1 + P.length := by rw [sz]; conv => lhs; rw [hsp]
                                                                    simp; omega
    by_cases hq : digs (ahead (bl R)) = true ∧ 0 < (ahead (bl R)).length ∧ P ≠ [] ∧ digs P = true
    · rw [if_pos hq]
      have hne : ahead (bl R) ≠ [] := List.length_pos_iff.1 hq.2.1
      have hsc : (R.size : Int) - 1 - ((ahead (bl R)).length : Int) = (P.length : Int) := by omega
      show (if _ then _ else _) = _
      by_cases h40 : (ahead (bl R) ++ P).length ≤ 40
      · rw [if_neg (show ¬ ((ahead (bl R) ++ P).length = 0 ∨ 40 < (ahead (bl R) ++ P).length) by rw [List.length_append] at h40 ⊢; omega), if_neg (show ¬ (((ahead (bl R)).length : Int) < 0) by omega), hsc]
        rw [if_pos (show digs (ahead (bl R)) = true ∧ ahead (bl R) ≠ [] ∧ P ≠ [] ∧ digs P = true ∧ (ahead (bl R) ++ P).length ≤ 40 from ⟨hq.1, hne, hq.2.2.1, hq.2.2.2, h40⟩)]
        rfl
      · rw [if_pos (show (ahead (bl R) ++ P).length = 0 ∨ 40 < (ahead (bl R) ++ P).length from Or.inr (by omega)), if_neg (fun h => h40 h.2.2.2.2)]
    · rw [if_neg hq, if_neg (fun h => hq ⟨h.1, List.length_pos_iff.2 h.2.1, h.2.2.1, h.2.2.2.1⟩)]
def negOf (s : ByteArray) : Bool := Lib.hasPrefix (bl s) [45]
def restOf (s : ByteArray) : List UInt8 := Lib.trimPrefix (bl s) [45]
theorem lawParse_ok (s : ByteArray) (hs : s.size ≤ 100000) : ∃ k, polyglotlaw02_Parse.f k s = some (parseV (negOf s) (restOf s)) := by
  have hfin : ∀ (R : ByteArray) (neg : Bool), R.size ≤ 100000 → ∃ k, polyglotlaw02_Parse.j1 k R neg = some (parseV neg (bl R)) := fun R neg hR => by
    obtain ⟨k, hk⟩ := law_scan R hR neg (bl R) ⟨#[]⟩ (-1) 0 (by simp) (by rw [← sz]; omega) (by decide) (Or.inl rfl)
    refine ⟨k + 1, ?_⟩
    rw [polyglotlaw02_Parse.j1, ← scan_parse R neg hR]
    exact hk
  cases hb : bl s with
  | nil =>
    have hz : s.size = 0 := by rw [sz, hb]; rfl
    obtain ⟨k, hk⟩ := hfin s false hs
    refine ⟨k + 1, ?_⟩
    unfold polyglotlaw02_Parse.f
    rw [if_neg (by omega), polyglotlaw02_Parse.j0, if_neg (by decide), hk]
    unfold negOf restOf
    rw [hb]; rfl
  | cons c t =>
    have hz : s.size = t.length + 1 := by rw [sz, hb]; rfl
    have hb0 : bt s 0 = c.toNat := bt_nat s 0 c (by rw [hb]; rfl)
    unfold polyglotlaw02_Parse.f
    by_cases h45 : c = 45
    · have e : bl (s.extract 1 s.size) = t := by rw [bl_ext, hb, List.drop_one, List.tail_cons, List.take_of_length_le (by omega)]
      obtain ⟨k, hk⟩ := hfin (s.extract 1 s.size) true (by rw [sz, e]; omega)
      refine ⟨k + 1, ?_⟩
      rw [if_pos (by omega), if_pos (by omega), hb0, h45]
      rw [show (((45 : UInt8).toNat : Int) == 45) = true from rfl, polyglotlaw02_Parse.j0, if_pos rfl, if_pos (by omega), hk, e]
      unfold negOf restOf
      rw [hb, h45]; rfl
    · have hn : ((c.toNat : Int) == 45) = false := by
        rw [beq_eq_false_iff_ne]
        intro h
        exact h45 (UInt8.toNat_inj.1 (by show c.toNat = 45; omega))
      obtain ⟨k, hk⟩ := hfin s false hs
      refine ⟨k + 1, ?_⟩
      have hp : Lib.hasPrefix (c :: t) [45] = false := by
        show ((45 == c) && List.isPrefixOf [] t) = false
        rw [show ((45 : UInt8) == c) = false by rw [beq_eq_false_iff_ne]; exact fun h => h45 h.symm]; rfl
      rw [if_pos (by omega), if_pos (by omega), hb0, hn, polyglotlaw02_Parse.j0, if_neg (by decide), hk]
      unfold negOf restOf Lib.trimPrefix
      rw [hb, hp]; rfl
theorem occ46 (R : List UInt8) (j : Nat) : Lib.occAt R [46] j = (R[j]? == some 46) := by
  unfold Lib.occAt
  have h : R[j]? = (R.drop j).head? := by rw [List.head?_drop]
  rw [h]
  cases R.drop j with
  | nil => rfl
  | cons c t =>
    show ((46 == c) && List.isPrefixOf [] t) = ((some c : Option UInt8) == some 46)
    by_cases e : c = 46
    · subst e; rfl
    · rw [show ((46 : UInt8) == c) = false by rw [beq_eq_false_iff_ne]; exact fun h => e h.symm]
      rw [show ((some c : Option UInt8) == some 46) = false by rw [beq_eq_false_iff_ne]; exact fun h => e (Option.some.inj h)]
      rfl
theorem cut46 (R : List UInt8) : Lib.cut R [46] = match behind R with | [] => (R, [], false) | _ :: P => (ahead R, P, true) := by
  have hsp := ahead_behind R
  cases hb : behind R with
  | nil =>
    rw [hb, List.append_nil] at hsp
    have hn : Lib.index R [46] = -1 := Lib.index_none fun j hj => by
      rw [occ46, beq_eq_false_iff_ne]
      intro h
      have hm := List.mem_of_getElem? h
      rw [hsp] at hm
      exact ahead_not R 46 hm rfl
    unfold Lib.cut
    rw [hn]
    rfl
  | cons z P =>
    have hz := behind_head hb
    subst hz
    rw [hb] at hsp
    have hne := ahead_not R
    obtain ⟨W, hW⟩ : ∃ W, ahead R = W := ⟨_, rfl⟩
    rw [hW] at hne hsp ⊢
    subst hsp
    have hi : Lib.index (W ++ 46 :: P) [46] = (W.length : Nat) := Lib.index_hit (fun j hj => by
      rw [occ46, beq_eq_false_iff_ne]
      intro h
      rw [List.getElem?_append_left hj] at h
      exact hne 46 (List.mem_of_getElem? h) rfl) (by rw [List.length_append]; omega) (by
      rw [occ46, List.getElem?_append_right (Nat.le_refl _), Nat.sub_self]
      rfl)
    unfold Lib.cut
    rw [hi, if_pos (by omega), Int.toNat_natCast]
    have h2 : (W ++ 46 :: P).drop (W.length + 1) = P := by
      rw [← List.drop_drop, List.drop_left]; rfl
    rw [List.take_left]
    show (W, (W ++ 46 :: P).drop (W.length + 1), true) = (W, P, true)
    rw [h2]
theorem parse_ok (s : ByteArray) (hs : s.size ≤ 100000) : dec_Parse.f s = some (parseV (negOf s) (restOf s)) := by
  have hC : strings_CutPrefix.f s ⟨#[45]⟩ = some (⟨(restOf s).toArray⟩, negOf s) := rfl
  have hrl : (restOf s).length ≤ 100000 := by
    unfold restOf Lib.trimPrefix
    split
    · rw [List.length_drop, ← sz]; omega
    · rw [← sz]; exact hs
  obtain ⟨R, hR⟩ : ∃ R, restOf s = R := ⟨_, rfl⟩
  obtain ⟨neg, hneg⟩ : ∃ n, negOf s = n := ⟨_, rfl⟩
  rw [hR] at hC hrl ⊢
  rw [hneg] at hC ⊢
  have hcut := cut46 R
  have hsp := ahead_behind R
  have hD : ∀ l : List UInt8, l.length ≤ 100000 → dec_isDigits.f ⟨l.toArray⟩ = some (!l.isEmpty && digs l) := fun l hl => isDigits_ok ⟨l.toArray⟩ (by rw [sz]; exact Nat.le_trans hl (by omega))
  unfold dec_Parse.f
  rw [hC, Option.bind_some]
  have hK : strings_Cut.f ⟨R.toArray⟩ ⟨#[46]⟩ = some (⟨(Lib.cut R [46]).1.toArray⟩, ⟨(Lib.cut R [46]).2.1.toArray⟩, (Lib.cut R [46]).2.2) := by
    unfold strings_Cut.f
    rw [if_pos (by rw [sz]; show R.length < _; omega)]
  rw [hK, Option.bind_some, hcut]
  unfold parseV parseL
  cases hb : behind R with
  | nil =>
    dsimp only
    rw [hD R (by omega), Option.bind_some]
    by_cases hq : (!R.isEmpty && digs R) = true
    · have hq2 : R ≠ [] ∧ digs R = true := by simpa using hq
      have hl0 := List.length_pos_iff.2 hq2.1
      have z1 : (⟨R.toArray⟩ : ByteArray).size = R.length := sz _
      have z2 : (⟨([] : List UInt8).toArray⟩ : ByteArray).size = 0 := rfl
      rw [if_pos hq, if_neg (by decide), z1, z2, w64 _ (by omega) (by omega)]
      by_cases h40 : R.length ≤ 40
      · rw [if_neg (by omega), if_pos (by omega), if_pos (show R ≠ [] ∧ digs R = true ∧ R.length ≤ 40 from ⟨hq2.1, hq2.2, h40⟩)]
        have e : (⟨R.toArray⟩ : ByteArray) ++ ⟨([] : List UInt8).toArray⟩ = ⟨R.toArray⟩ := ba_ext (by rw [bl_app]; simp)
        have hm := make0_ok neg ⟨R.toArray⟩ 0 (by show 0 + 1 ≤ R.length; omega) (by show R.length ≤ _; omega)
        rw [e, show ((0 : Nat) : Int) = (0 : Nat) from rfl, hm, Option.bind_some]
      · rw [if_pos (by omega), if_neg (fun h => h40 h.2.2)]
    · rw [if_neg hq, if_neg (fun h => hq (by simp [h.1, h.2.1]))]
  | cons z P =>
    dsimp only
    have hz := behind_head hb
    subst hz
    rw [hb] at hsp
    have hlen : R.length = (ahead R).length + 1 + P.length := by
      have := congrArg List.length hsp
      rw [List.length_append, List.length_cons] at this
      omega
    obtain ⟨W, hW⟩ : ∃ W, ahead R = W := ⟨_, rfl⟩
    rw [hW] at hlen ⊢
    rw [hD W (by omega), Option.bind_some]
    by_cases hq : (!W.isEmpty && digs W) = true
    · have hq2 : W ≠ [] ∧ digs W = true := by simpa using hq
      have hl0 := List.length_pos_iff.2 hq2.1
      rw [if_pos hq, if_pos rfl, hD P (by omega), Option.bind_some]
      by_cases hp : (!P.isEmpty && digs P) = true
      · have hp2 : P ≠ [] ∧ digs P = true := by simpa using hp
        have hp0 := List.length_pos_iff.2 hp2.1
        have z1 : (⟨W.toArray⟩ : ByteArray).size = W.length := sz _
        have z2 : (⟨P.toArray⟩ : ByteArray).size = P.length := sz _
        rw [if_pos hp, z1, z2, w64 _ (by omega) (by omega)]
        by_cases h40 : (W ++ P).length ≤ 40
        · have h41 := h40
          rw [List.length_append] at h41
          rw [if_neg (by omega), if_pos (by omega), if_pos (show digs W = true ∧ W ≠ [] ∧ P ≠ [] ∧ digs P = true ∧ (W ++ P).length ≤ 40 from ⟨hq2.2, hq2.1, hp2.1, hp2.2, h40⟩)]
          have e : (⟨W.toArray⟩ : ByteArray) ++ ⟨P.toArray⟩ = ⟨(W ++ P).toArray⟩ := ba_ext (by rw [bl_app])
          have hm := make0_ok neg ⟨(W ++ P).toArray⟩ P.length (by show _ ≤ (W ++ P).length; rw [List.length_append]; omega) (by show (W ++ P).length ≤ _; omega)
          rw [e, hm, Option.bind_some]
        · have h41 := h40
          rw [List.length_append] at h41
          rw [if_pos (by omega), if_neg (fun h => h40 h.2.2.2.2)]
      · rw [if_neg hp, if_neg (fun h => hp (by simp [h.2.2.1, h.2.2.2.1]))]
    · rw [if_neg hq, if_neg (fun h => hq (by simp [h.1, h.2.1]))]
end Go.Proofs.YtdhpcofnddkcaaaGreatDoor.S
