/- ScriptCuts: for every step, int and slice of steps the call returns true and leaves them unchanged (Text 4 of 9: what the law's proof rests on, joined; walks printed by the kit's print over given contracts, walks and plain laws by hand.) -/
import Derived.Test.YtdhpcofnddkcaaaGreatDoorCut0
import Derived.Test.YtdhpcofnddkcaaaGreatDoorCut1
import Derived.Test.YtdhpcofnddkcaaaGreatDoorCut2
namespace Go.Proofs.YtdhpcofnddkcaaaGreatDoor.S
open Go.RowKit Go.Proofs.YtdhpcofnddkcaaaGreatDoor.G Go.Proofs.YtdhpcofnddkcaaaGreatDoorW.PrintWords Go.Proofs.YtdhpcofnddkcaaaGreatDoorW.PrintLast Go.Proofs.YtdhpcofnddkcaaaGreatDoorW.PrintMore
attribute [local go_sem] max2_int min2_int max_two min_two max_three min_three max_four min_four
set_option linter.unusedVariables false
set_option linter.unusedSimpArgs false
namespace Sx12
theorem cellsF3 {w : World} {g : Nat} {t : TypeId} {a0 a1 a2 : Value} (h : w.heap[g]? = some (.cells #[a0, a1, a2] t (0, 0))) : w.cell? ⟨g, 0, none⟩ = some a0 ∧ w.cell? ⟨g, 1, none⟩ = some a1 ∧ w.cell? ⟨g, 2, none⟩ = some a2 ∧ w.frozen? ⟨g, 0, none⟩ = false ∧ w.frozen? ⟨g, 1, none⟩ = false ∧ w.frozen? ⟨g, 2, none⟩ = false := ⟨(blk_cell h 0).trans rfl, (blk_cell h 1).trans rfl, (blk_cell h 2).trans rfl, blk_frozen h 0, blk_frozen h 1, blk_frozen h 2⟩
theorem cellsF12 {w : World} {g : Nat} {t : TypeId} {a0 a1 a2 a3 a4 a5 a6 a7 a8 a9 a10 a11 : Value} (h : w.heap[g]? = some (.cells #[a0, a1, a2, a3, a4, a5, a6, a7, a8, a9, a10, a11] t (0, 0))) : w.cell? ⟨g, 0, none⟩ = some a0 ∧ w.cell? ⟨g, 1, none⟩ = some a1 ∧ w.cell? ⟨g, 2, none⟩ = some a2 ∧ w.cell? ⟨g, 3, none⟩ = some a3 ∧ w.cell? ⟨g, 4, none⟩ = some a4 ∧ w.cell? ⟨g, 5, none⟩ = some a5 ∧ w.cell? ⟨g, 6, none⟩ = some a6 ∧ w.cell? ⟨g, 7, none⟩ = some a7 ∧ w.cell? ⟨g, 8, none⟩ = some a8 ∧ w.cell? ⟨g, 9, none⟩ = some a9 ∧ w.cell? ⟨g, 10, none⟩ = some a10 ∧ w.cell? ⟨g, 11, none⟩ = some a11 ∧ w.frozen? ⟨g, 0, none⟩ = false ∧ w.frozen? ⟨g, 1, none⟩ = false ∧ w.frozen? ⟨g, 2, none⟩ = false ∧ w.frozen? ⟨g, 3, none⟩ = false ∧ w.frozen? ⟨g, 4, none⟩ = false ∧ w.frozen? ⟨g, 5, none⟩ = false ∧ w.frozen? ⟨g, 6, none⟩ = false ∧ w.frozen? ⟨g, 7, none⟩ = false ∧ w.frozen? ⟨g, 8, none⟩ = false ∧ w.frozen? ⟨g, 9, none⟩ = false ∧ w.frozen? ⟨g, 10, none⟩ = false ∧ w.frozen? ⟨g, 11, none⟩ = false := ⟨(blk_cell h 0).trans rfl, (blk_cell h 1).trans rfl, (blk_cell h 2).trans rfl, (blk_cell h 3).trans rfl, (blk_cell h 4).trans rfl, (blk_cell h 5).trans rfl, (blk_cell h 6).trans rfl, (blk_cell h 7).trans rfl, (blk_cell h 8).trans rfl, (blk_cell h 9).trans rfl, (blk_cell h 10).trans rfl, (blk_cell h 11).trans rfl, blk_frozen h 0, blk_frozen h 1, blk_frozen h 2, blk_frozen h 3, blk_frozen h 4, blk_frozen h 5, blk_frozen h 6, blk_frozen h 7, blk_frozen h 8, blk_frozen h 9, blk_frozen h 10, blk_frozen h 11⟩
theorem q0_ {p_ : Prop} (h_ : p_ := by (with_reducible repeat (first | refine blk_drewN ?_ _ | refine blk_drew ?_ | refine blk_alloc ?_ _)); refine blk_put (cs := #[.int .i64 0, .string (⟨#[]⟩ : ByteArray), .bool false, .string (⟨#[]⟩ : ByteArray), .int .i64 0, .int .i64 0, .int .i64 0, .int .i64 0, .bool false, .bool false, .int .i64 0, .int .i64 0]) ?_ 11 _ rfl; (with_reducible repeat (first | refine blk_drewN ?_ _ | refine blk_drew ?_ | refine blk_alloc ?_ _)); refine blk_put (cs := #[.int .i64 0, .string (⟨#[]⟩ : ByteArray), .bool false, .string (⟨#[]⟩ : ByteArray), .int .i64 0, .int .i64 0, .int .i64 0, .int .i64 0, .bool false, .bool false, .int .i64 0, .int .i64 0]) ?_ 10 _ rfl; (with_reducible repeat (first | refine blk_drewN ?_ _ | refine blk_drew ?_ | refine blk_alloc ?_ _)); refine blk_put (cs := #[.int .i64 0, .string (⟨#[]⟩ : ByteArray), .bool false, .string (⟨#[]⟩ : ByteArray), .int .i64 0, .int .i64 0, .int .i64 0, .int .i64 0, .bool false, .bool false, .int .i64 0, .int .i64 0]) ?_ 9 _ rfl; (with_reducible repeat (first | refine blk_drewN ?_ _ | refine blk_drew ?_ | refine blk_alloc ?_ _)); refine blk_put (cs := #[.int .i64 0, .string (⟨#[]⟩ : ByteArray), .bool false, .string (⟨#[]⟩ : ByteArray), .int .i64 0, .int .i64 0, .int .i64 0, .int .i64 0, .bool false, .bool false, .int .i64 0, .int .i64 0]) ?_ 8 _ rfl; (with_reducible repeat (first | refine blk_drewN ?_ _ | refine blk_drew ?_ | refine blk_alloc ?_ _)); refine blk_put (cs := #[.int .i64 0, .string (⟨#[]⟩ : ByteArray), .bool false, .string (⟨#[]⟩ : ByteArray), .int .i64 0, .int .i64 0, .int .i64 0, .int .i64 0, .bool false, .bool false, .int .i64 0, .int .i64 0]) ?_ 7 _ rfl; (with_reducible repeat (first | refine blk_drewN ?_ _ | refine blk_drew ?_ | refine blk_alloc ?_ _)); refine blk_put (cs := #[.int .i64 0, .string (⟨#[]⟩ : ByteArray), .bool false, .string (⟨#[]⟩ : ByteArray), .int .i64 0, .int .i64 0, .int .i64 0, .int .i64 0, .bool false, .bool false, .int .i64 0, .int .i64 0]) ?_ 6 _ rfl; (with_reducible repeat (first | refine blk_drewN ?_ _ | refine blk_drew ?_ | refine blk_alloc ?_ _)); refine blk_put (cs := #[.int .i64 0, .string (⟨#[]⟩ : ByteArray), .bool false, .string (⟨#[]⟩ : ByteArray), .int .i64 0, .int .i64 0, .int .i64 0, .int .i64 0, .bool false, .bool false, .int .i64 0, .int .i64 0]) ?_ 5 _ rfl; (with_reducible repeat (first | refine blk_drewN ?_ _ | refine blk_drew ?_ | refine blk_alloc ?_ _)); refine blk_put (cs := #[.int .i64 0, .string (⟨#[]⟩ : ByteArray), .bool false, .string (⟨#[]⟩ : ByteArray), .int .i64 0, .int .i64 0, .int .i64 0, .int .i64 0, .bool false, .bool false, .int .i64 0, .int .i64 0]) ?_ 4 _ rfl; (with_reducible repeat (first | refine blk_drewN ?_ _ | refine blk_drew ?_ | refine blk_alloc ?_ _)); refine blk_put (cs := #[.int .i64 0, .string (⟨#[]⟩ : ByteArray), .bool false, .string (⟨#[]⟩ : ByteArray), .int .i64 0, .int .i64 0, .int .i64 0, .int .i64 0, .bool false, .bool false, .int .i64 0, .int .i64 0]) ?_ 3 _ rfl; (with_reducible repeat (first | refine blk_drewN ?_ _ | refine blk_drew ?_ | refine blk_alloc ?_ _)); refine blk_put (cs := #[.int .i64 0, .string (⟨#[]⟩ : ByteArray), .bool false, .string (⟨#[]⟩ : ByteArray), .int .i64 0, .int .i64 0, .int .i64 0, .int .i64 0, .bool false, .bool false, .int .i64 0, .int .i64 0]) ?_ 2 _ rfl; (with_reducible repeat (first | refine blk_drewN ?_ _ | refine blk_drew ?_ | refine blk_alloc ?_ _)); refine blk_put (cs := #[.int .i64 0, .string (⟨#[]⟩ : ByteArray), .bool false, .string (⟨#[]⟩ : ByteArray), .int .i64 0, .int .i64 0, .int .i64 0, .int .i64 0, .bool false, .bool false, .int .i64 0, .int .i64 0]) ?_ 1 _ rfl; (with_reducible repeat (first | refine blk_drewN ?_ _ | refine blk_drew ?_ | refine blk_alloc ?_ _)); refine blk_put (cs := #[.int .i64 0, .string (⟨#[]⟩ : ByteArray), .bool false, .string (⟨#[]⟩ : ByteArray), .int .i64 0, .int .i64 0, .int .i64 0, .int .i64 0, .bool false, .bool false, .int .i64 0, .int .i64 0]) ?_ 0 _ rfl; (with_reducible repeat (first | refine blk_drewN ?_ _ | refine blk_drew ?_ | refine blk_alloc ?_ _)); exact BK212.out) : p_ := h_
theorem q1_ {p_ : Prop} (h_ : p_ := by (with_reducible repeat (first | refine blk_drewN ?_ _ | refine blk_drew ?_ | refine blk_alloc ?_ _)); exact BK211.out) : p_ := h_
theorem q2_ {p_ : Prop} (h_ : p_ := by repeat (first | (with_reducible first | exact HB.out | apply below_alloc | apply pw_below_drewN | apply below_drew1 | refine below_set ?_ GE211.out | refine below_set ?_ GE212.out) | exact HB.out)) : p_ := h_
theorem q3_ {p_ : Prop} (h_ : p_ := by repeat (first | (with_reducible first | exact HB.out | apply below_alloc | apply pw_below_drewN | apply below_drew1 | refine below_set ?_ GE211.out) | exact HB.out)) : p_ := h_
theorem q4_ {p_ : Prop} (h_ : p_ := by repeat (first | (with_reducible first | exact HB.out | apply below_alloc | apply pw_below_drewN | apply below_drew1) | exact HB.out)) : p_ := h_
theorem q5_ {p_ : Prop} (h_ : p_ := by (with_reducible repeat (first | refine blk_drewN ?_ _ | refine blk_drew ?_ | refine blk_alloc ?_ _)); exact BK212.out) : p_ := h_
theorem q6_ {p_ : Prop} (h_ : p_ := by rw [hg]; exact Nat.ne_of_lt (blk_lt (g := gb211) (o := .cells #[.string a0_0, .int .i64 a0_1, .string a0_2] 44 (0, 0)) q1_)) : p_ := h_
theorem q7_ {p_ : Prop} (h_ : p_ := by rw [hg]; exact Nat.ne_of_gt (blk_lt (g := gb211) (o := .cells #[.string a0_0, .int .i64 a0_1, .string a0_2] 44 (0, 0)) q1_)) : p_ := h_
theorem q8_ {p_ : Prop} (h_ : p_ := by (try simp only [List.map_toArray, List.map_cons, List.map_nil]); first | done | rfl | (simp only [List.length_drop, List.length_take]; rfl)) : p_ := h_
theorem q9_ {p_ : Prop} (h_ : p_ := by first | rfl | (simp [errW_none, errW_some] <;> rfl) | (simp [*, errW_none, errW_some] <;> rfl)) : p_ := h_
theorem q10_ {p_ : Prop} (h_ : p_ := by repeat (first | (with_reducible first | exact HB.out | apply below_alloc | apply pw_below_drewN | apply below_drew1 | refine below_set ?_ GE211.out | refine below_set ?_ GE212.out | refine below_set ?_ GE229.out) | exact HB.out)) : p_ := h_
theorem q11_ {p_ : Prop} (h_ : p_ := by rw [hg]; exact (below_size q4_)) : p_ := h_
theorem q12_ {p_ : Prop} (h_ : p_ := by rw [hg]; exact (below_size q3_)) : p_ := h_
theorem q13_ {p_ : Prop} (h_ : p_ := by rw [hg]; exact Nat.ne_of_lt (blk_lt (g := gb212) (o := .cells #[.int .i64 0, .string (⟨#[]⟩ : ByteArray), .bool false, .string (⟨#[]⟩ : ByteArray), .int .i64 0, .int .i64 0, .int .i64 0, .int .i64 0, .bool false, .bool false, .int .i64 0, .int .i64 0] 51 (0, 0)) q5_)) : p_ := h_
theorem q14_ {p_ : Prop} (h_ : p_ := by rw [hg]; exact Nat.ne_of_gt (blk_lt (g := gb212) (o := .cells #[.int .i64 0, .string (⟨#[]⟩ : ByteArray), .bool false, .string (⟨#[]⟩ : ByteArray), .int .i64 0, .int .i64 0, .int .i64 0, .int .i64 0, .bool false, .bool false, .int .i64 0, .int .i64 0] 51 (0, 0)) q5_)) : p_ := h_
theorem u0_ {p_ : Prop} (h_ : p_ := by first | (go_simp; done) | (go_simp; rfl)) : p_ := h_
end Sx12
open Sx12
def polyglotlaw18_Value.f (k : Nat) (a0_0 : ByteArray) (a0_1 : Int) (a0_2 : ByteArray) : Option (Int × ByteArray × Bool × ByteArray × Int × Int × Int × Int × Bool × Bool × Int × Int × Bool) := if a0_1 = 0 then ((value_Str.f a0_2).bind fun bt213 => (some (bt213.1, bt213.2.1, bt213.2.2.1, bt213.2.2.2.1, bt213.2.2.2.2.1, bt213.2.2.2.2.2.1, bt213.2.2.2.2.2.2.1, bt213.2.2.2.2.2.2.2.1, bt213.2.2.2.2.2.2.2.2.1, bt213.2.2.2.2.2.2.2.2.2.1, bt213.2.2.2.2.2.2.2.2.2.2.1, bt213.2.2.2.2.2.2.2.2.2.2.2, true))) else (if a0_1 = 1 then ((polyglotlaw02_Parse.f k a0_2).bind fun bt225 => (if bt225.2.2.2 = true then ((value_Num.f bt225.1 bt225.2.1 bt225.2.2.1).bind fun bt230 => (some (bt230.1, bt230.2.1, bt230.2.2.1, bt230.2.2.2.1, bt230.2.2.2.2.1, bt230.2.2.2.2.2.1, bt230.2.2.2.2.2.2.1, bt230.2.2.2.2.2.2.2.1, bt230.2.2.2.2.2.2.2.2.1, bt230.2.2.2.2.2.2.2.2.2.1, bt230.2.2.2.2.2.2.2.2.2.2.1, bt230.2.2.2.2.2.2.2.2.2.2.2, true))) else (some (0, (⟨#[]⟩ : ByteArray), false, (⟨#[]⟩ : ByteArray), 0, 0, 0, 0, false, false, 0, 0, false)))) else (if a0_1 = 2 then ((polyglotlaw18_moment.f k a0_2).bind fun bt242 => (if bt242.2 = true then ((value_At.f bt242.1).bind fun bt244 => (some (bt244.1, bt244.2.1, bt244.2.2.1, bt244.2.2.2.1, bt244.2.2.2.2.1, bt244.2.2.2.2.2.1, bt244.2.2.2.2.2.2.1, bt244.2.2.2.2.2.2.2.1, bt244.2.2.2.2.2.2.2.2.1, bt244.2.2.2.2.2.2.2.2.2.1, bt244.2.2.2.2.2.2.2.2.2.2.1, bt244.2.2.2.2.2.2.2.2.2.2.2, true))) else (some (0, (⟨#[]⟩ : ByteArray), false, (⟨#[]⟩ : ByteArray), 0, 0, 0, 0, false, false, 0, 0, false)))) else (some (0, (⟨#[]⟩ : ByteArray), false, (⟨#[]⟩ : ByteArray), 0, 0, 0, 0, false, false, 0, 0, false))))
theorem polyglotlaw18_Value.mono : ∀ a0 a1 a2 k, LeO (polyglotlaw18_Value.f k a0 a1 a2) (polyglotlaw18_Value.f (k + 1) a0 a1 a2) := by
 intro a0 a1 a2 k
 unfold polyglotlaw18_Value.f
 repeat' first
   | (with_reducible exact polyglotlaw02_Parse.mono _ _)
   | (with_reducible exact polyglotlaw18_moment.mono _ _)
   | (with_reducible exact LeO.refl _)
   | (with_reducible exact LeO.none _)
   | (with_reducible refine LeO.ite ?_ ?_)
   | (with_reducible refine LeO.bind ?_ (fun _ => ?_))
   | exact polyglotlaw02_Parse.mono _ _
   | exact polyglotlaw18_moment.mono _ _
   | exact LeO.none _
   | refine LeO.ite ?_ ?_
   | refine LeO.bind ?_ (fun _ => ?_)
set_option maxHeartbeats 8000000 in
set_option maxRecDepth 100000 in
theorem polyglotlaw18_Value.calls (k : Nat) (a0_0 : ByteArray) (a0_1 : Int) (a0_2 : ByteArray) (r1 : Int) (r2 : ByteArray) (r3 : Bool) (r4 : ByteArray) (r5 : Int) (r6 : Int) (r7 : Int) (r8 : Int) (r9 : Bool) (r10 : Bool) (r11 : Int) (r12 : Int) (r13 : Bool) (w : World) (h : polyglotlaw18_Value.f k a0_0 a0_1 a0_2 = some (r1, r2, r3, r4, r5, r6, r7, r8, r9, r10, r11, r12, r13)) :
  Calls Tryz.prog 18 #[.agg #[.string a0_0, .int .i64 a0_1, .string a0_2]] w fun e w' => e = .returned (.tuple #[.agg #[.int .i64 r1, .string r2, .bool r3, .string r4, .int .i64 r5, .int .i64 r6, .int .i64 r7, .int .i64 r8, .bool r9, .bool r10, .int .i64 r11, .int .i64 r12], .bool r13]) ∧ Below w.heap.size w w' := by
 have hu44 := Tryz.underlying44
 have hu51 := Tryz.underlying51
 have hu46 := Tryz.underlying46
 have HB := Aside0.mk (Below.refl w.heap.size w)
 have H : (if a0_1 = 0 then ((value_Str.f a0_2).bind fun bt213 => (some (bt213.1, bt213.2.1, bt213.2.2.1, bt213.2.2.2.1, bt213.2.2.2.2.1, bt213.2.2.2.2.2.1, bt213.2.2.2.2.2.2.1, bt213.2.2.2.2.2.2.2.1, bt213.2.2.2.2.2.2.2.2.1, bt213.2.2.2.2.2.2.2.2.2.1, bt213.2.2.2.2.2.2.2.2.2.2.1, bt213.2.2.2.2.2.2.2.2.2.2.2, true))) else (if a0_1 = 1 then ((polyglotlaw02_Parse.f k a0_2).bind fun bt225 => (if bt225.2.2.2 = true then ((value_Num.f bt225.1 bt225.2.1 bt225.2.2.1).bind fun bt230 => (some (bt230.1, bt230.2.1, bt230.2.2.1, bt230.2.2.2.1, bt230.2.2.2.2.1, bt230.2.2.2.2.2.1, bt230.2.2.2.2.2.2.1, bt230.2.2.2.2.2.2.2.1, bt230.2.2.2.2.2.2.2.2.1, bt230.2.2.2.2.2.2.2.2.2.1, bt230.2.2.2.2.2.2.2.2.2.2.1, bt230.2.2.2.2.2.2.2.2.2.2.2, true))) else (some (0, (⟨#[]⟩ : ByteArray), false, (⟨#[]⟩ : ByteArray), 0, 0, 0, 0, false, false, 0, 0, false)))) else (if a0_1 = 2 then ((polyglotlaw18_moment.f k a0_2).bind fun bt242 => (if bt242.2 = true then ((value_At.f bt242.1).bind fun bt244 => (some (bt244.1, bt244.2.1, bt244.2.2.1, bt244.2.2.2.1, bt244.2.2.2.2.1, bt244.2.2.2.2.2.1, bt244.2.2.2.2.2.2.1, bt244.2.2.2.2.2.2.2.1, bt244.2.2.2.2.2.2.2.2.1, bt244.2.2.2.2.2.2.2.2.2.1, bt244.2.2.2.2.2.2.2.2.2.2.1, bt244.2.2.2.2.2.2.2.2.2.2.2, true))) else (some (0, (⟨#[]⟩ : ByteArray), false, (⟨#[]⟩ : ByteArray), 0, 0, 0, 0, false, false, 0, 0, false)))) else (some (0, (⟨#[]⟩ : ByteArray), false, (⟨#[]⟩ : ByteArray), 0, 0, 0, 0, false, false, 0, 0, false))))) = some (r1, r2, r3, r4, r5, r6, r7, r8, r9, r10, r11, r12, r13) := h
 clear h
 by_cases c2 : a0_1 = 0
 ·rw [if_pos c2] at H
  have c2b0 : (a0_1 == 0) = true := beq_iff_eq.mpr c2
  have c2b1 : (a0_1 != 0) = false := bne_eq_false_iff_eq.mpr c2
  clear c2
  replace H := Option.bind_eq_some_iff.mp H
  obtain ⟨⟨t213, t214, t215, t216, t217, t218, t219, t220, t221, t222, t223, t224⟩, A30, H⟩ := H
  replace H : (some (t213, t214, t215, t216, t217, t218, t219, t220, t221, t222, t223, t224, true)) = some (r1, r2, r3, r4, r5, r6, r7, r8, r9, r10, r11, r12, r13) := H
  have A3 := Aside0.mk A30
  clear A30
  simp only [Option.some.injEq, Prod.mk.injEq] at H
  obtain ⟨rfl, rfl, rfl, rfl, rfl, rfl, rfl, rfl, rfl, rfl, rfl, rfl, rfl⟩ := H
  go_enter Tryz.func18, Tryz.ntmps18
  go_wp2_with (first | ((with_reducible refine gate_dst (N := 1) rfl ?_); refine box_event ?hg (N := 1) ?hd (cs := #[.string a0_0, .int .i64 a0_1, .string a0_2]) (t := 44) ?hr ?_; (case hd => rfl); (case hg => rfl); (case hr => exact u0_); intro gb211 hg w4 hbox hb; have BK211 := Aside0.mk (hbox); have GW211 := Aside0.mk ((q11_ : w.heap.size ≤ gb211)); have GE211 := Aside0.mk ((q11_ : w.heap.size ≤ gb211)); replace HB := Aside0.mk (below_step q4_ hb); clear hb hbox hg) | ((with_reducible refine gate_dst (N := 2) rfl ?_); refine box_event ?hg (N := 2) ?hd (cs := #[.int .i64 0, .string (⟨#[]⟩ : ByteArray), .bool false, .string (⟨#[]⟩ : ByteArray), .int .i64 0, .int .i64 0, .int .i64 0, .int .i64 0, .bool false, .bool false, .int .i64 0, .int .i64 0]) (t := 51) ?hr ?_; (case hd => rfl); (case hg => rfl); (case hr => exact u0_); intro gb212 hg w5 hbox hb; have BK212 := Aside0.mk (hbox); have GW212 := Aside0.mk ((q12_ : w.heap.size ≤ gb212)); have GE212 := Aside0.mk ((q12_ : w.heap.size ≤ gb212)); replace HB := Aside0.mk (below_step q3_ hb); have NB211_212 := Aside0.mk ((q6_ : gb211 ≠ gb212)); have NB212_211 := Aside0.mk ((q7_ : gb212 ≠ gb211)); replace BK211 := Aside0.mk (blk_below (g := gb211) (o := .cells #[.string a0_0, .int .i64 a0_1, .string a0_2] 44 (0, 0)) q1_ hb); clear hb hbox hg; have hnb6 := NB211_212.out; have hnc6 := NB212_211.out; obtain ⟨hcz7_0, hcz7_1, hcz7_2, hfz7_0, hfz7_1, hfz7_2⟩ := cellsF3 BK211.out) | ((with_reducible refine gate_callee (f := 26) rfl ?_); refine goesL_ (some 14) rfl rfl Tryz.func26 (by kernel_rfl) rfl #[.string a0_2] rfl q8_ ?_; (with_reducible refine (value_Str.calls a0_2 t213 t214 t215 t216 t217 t218 t219 t220 t221 t222 t223 t224 _ A3.out).mono ?_); rintro e w8 ⟨rfl, hb⟩; refine ⟨_, rfl, ?_⟩; replace BK211 := Aside0.mk (blk_below (g := gb211) (o := .cells #[.string a0_0, .int .i64 a0_1, .string a0_2] 44 (0, 0)) q1_ hb); replace BK212 := Aside0.mk (blk_below (g := gb212) (o := .cells #[.int .i64 0, .string (⟨#[]⟩ : ByteArray), .bool false, .string (⟨#[]⟩ : ByteArray), .int .i64 0, .int .i64 0, .int .i64 0, .int .i64 0, .bool false, .bool false, .int .i64 0, .int .i64 0] 51 (0, 0)) q5_ hb); replace HB := Aside0.mk (below_step q2_ hb); (try clear hb); (try clear hb2); (try clear hk); (try clear hi); obtain ⟨hcz9_0, hcz9_1, hcz9_2, hcz9_3, hcz9_4, hcz9_5, hcz9_6, hcz9_7, hcz9_8, hcz9_9, hcz9_10, hcz9_11, hfz9_0, hfz9_1, hfz9_2, hfz9_3, hfz9_4, hfz9_5, hfz9_6, hfz9_7, hfz9_8, hfz9_9, hfz9_10, hfz9_11⟩ := cellsF12 BK212.out))
  refine bodyPost_ret (results_ct rfl _ _ gb212 51 #[.int .i64 t213, .string t214, .bool t215, .string t216, .int .i64 t217, .int .i64 t218, .int .i64 t219, .int .i64 t220, .bool t221, .bool t222, .int .i64 t223, .int .i64 t224] (0, 0) _ rfl (by (with_reducible repeat (first | refine blk_drewN ?_ _ | refine blk_drew ?_ | refine blk_alloc ?_ _)); refine blk_put (cs := #[.int .i64 t213, .string t214, .bool t215, .string t216, .int .i64 t217, .int .i64 t218, .int .i64 t219, .int .i64 t220, .bool t221, .bool t222, .int .i64 t223, .int .i64 0]) ?_ 11 _ rfl; (with_reducible repeat (first | refine blk_drewN ?_ _ | refine blk_drew ?_ | refine blk_alloc ?_ _)); refine blk_put (cs := #[.int .i64 t213, .string t214, .bool t215, .string t216, .int .i64 t217, .int .i64 t218, .int .i64 t219, .int .i64 t220, .bool t221, .bool t222, .int .i64 0, .int .i64 0]) ?_ 10 _ rfl; (with_reducible repeat (first | refine blk_drewN ?_ _ | refine blk_drew ?_ | refine blk_alloc ?_ _)); refine blk_put (cs := #[.int .i64 t213, .string t214, .bool t215, .string t216, .int .i64 t217, .int .i64 t218, .int .i64 t219, .int .i64 t220, .bool t221, .bool false, .int .i64 0, .int .i64 0]) ?_ 9 _ rfl; (with_reducible repeat (first | refine blk_drewN ?_ _ | refine blk_drew ?_ | refine blk_alloc ?_ _)); refine blk_put (cs := #[.int .i64 t213, .string t214, .bool t215, .string t216, .int .i64 t217, .int .i64 t218, .int .i64 t219, .int .i64 t220, .bool false, .bool false, .int .i64 0, .int .i64 0]) ?_ 8 _ rfl; (with_reducible repeat (first | refine blk_drewN ?_ _ | refine blk_drew ?_ | refine blk_alloc ?_ _)); refine blk_put (cs := #[.int .i64 t213, .string t214, .bool t215, .string t216, .int .i64 t217, .int .i64 t218, .int .i64 t219, .int .i64 0, .bool false, .bool false, .int .i64 0, .int .i64 0]) ?_ 7 _ rfl; (with_reducible repeat (first | refine blk_drewN ?_ _ | refine blk_drew ?_ | refine blk_alloc ?_ _)); refine blk_put (cs := #[.int .i64 t213, .string t214, .bool t215, .string t216, .int .i64 t217, .int .i64 t218, .int .i64 0, .int .i64 0, .bool false, .bool false, .int .i64 0, .int .i64 0]) ?_ 6 _ rfl; (with_reducible repeat (first | refine blk_drewN ?_ _ | refine blk_drew ?_ | refine blk_alloc ?_ _)); refine blk_put (cs := #[.int .i64 t213, .string t214, .bool t215, .string t216, .int .i64 t217, .int .i64 0, .int .i64 0, .int .i64 0, .bool false, .bool false, .int .i64 0, .int .i64 0]) ?_ 5 _ rfl; (with_reducible repeat (first | refine blk_drewN ?_ _ | refine blk_drew ?_ | refine blk_alloc ?_ _)); refine blk_put (cs := #[.int .i64 t213, .string t214, .bool t215, .string t216, .int .i64 0, .int .i64 0, .int .i64 0, .int .i64 0, .bool false, .bool false, .int .i64 0, .int .i64 0]) ?_ 4 _ rfl; (with_reducible repeat (first | refine blk_drewN ?_ _ | refine blk_drew ?_ | refine blk_alloc ?_ _)); refine blk_put (cs := #[.int .i64 t213, .string t214, .bool t215, .string (⟨#[]⟩ : ByteArray), .int .i64 0, .int .i64 0, .int .i64 0, .int .i64 0, .bool false, .bool false, .int .i64 0, .int .i64 0]) ?_ 3 _ rfl; (with_reducible repeat (first | refine blk_drewN ?_ _ | refine blk_drew ?_ | refine blk_alloc ?_ _)); refine blk_put (cs := #[.int .i64 t213, .string t214, .bool false, .string (⟨#[]⟩ : ByteArray), .int .i64 0, .int .i64 0, .int .i64 0, .int .i64 0, .bool false, .bool false, .int .i64 0, .int .i64 0]) ?_ 2 _ rfl; (with_reducible repeat (first | refine blk_drewN ?_ _ | refine blk_drew ?_ | refine blk_alloc ?_ _)); refine blk_put (cs := #[.int .i64 t213, .string (⟨#[]⟩ : ByteArray), .bool false, .string (⟨#[]⟩ : ByteArray), .int .i64 0, .int .i64 0, .int .i64 0, .int .i64 0, .bool false, .bool false, .int .i64 0, .int .i64 0]) ?_ 1 _ rfl; (with_reducible repeat (first | refine blk_drewN ?_ _ | refine blk_drew ?_ | refine blk_alloc ?_ _)); refine blk_put (cs := #[.int .i64 0, .string (⟨#[]⟩ : ByteArray), .bool false, .string (⟨#[]⟩ : ByteArray), .int .i64 0, .int .i64 0, .int .i64 0, .int .i64 0, .bool false, .bool false, .int .i64 0, .int .i64 0]) ?_ 0 _ rfl; (with_reducible repeat (first | refine blk_drewN ?_ _ | refine blk_drew ?_ | refine blk_alloc ?_ _)); exact BK212.out) Tryz.underlying51 rfl (by kernel_rfl)) rfl ?_
  exact ⟨q9_, q2_⟩
 ·rw [if_neg c2] at H
  have c2b0 : (a0_1 == 0) = false := beq_eq_false_iff_ne.mpr c2
  have c2b1 : (a0_1 != 0) = true := bne_iff_ne.mpr c2
  by_cases c10 : a0_1 = 1
  ·rw [if_pos c10] at H
   have c10b0 : (a0_1 == 1) = true := beq_iff_eq.mpr c10
   have c10b1 : (a0_1 != 1) = false := bne_eq_false_iff_eq.mpr c10
   clear c10
   replace H := Option.bind_eq_some_iff.mp H
   obtain ⟨⟨t225, t226, t227, t228⟩, A110, H⟩ := H
   replace H : (if t228 = true then ((value_Num.f t225 t226 t227).bind fun bt230 => (some (bt230.1, bt230.2.1, bt230.2.2.1, bt230.2.2.2.1, bt230.2.2.2.2.1, bt230.2.2.2.2.2.1, bt230.2.2.2.2.2.2.1, bt230.2.2.2.2.2.2.2.1, bt230.2.2.2.2.2.2.2.2.1, bt230.2.2.2.2.2.2.2.2.2.1, bt230.2.2.2.2.2.2.2.2.2.2.1, bt230.2.2.2.2.2.2.2.2.2.2.2, true))) else (some (0, (⟨#[]⟩ : ByteArray), false, (⟨#[]⟩ : ByteArray), 0, 0, 0, 0, false, false, 0, 0, false))) = some (r1, r2, r3, r4, r5, r6, r7, r8, r9, r10, r11, r12, r13) := H
   have A11 := Aside0.mk A110
   clear A110
   by_cases c12 : t228 = true
   ·subst c12
    have H1 : ((value_Num.f t225 t226 t227).bind fun bt230 => (some (bt230.1, bt230.2.1, bt230.2.2.1, bt230.2.2.2.1, bt230.2.2.2.2.1, bt230.2.2.2.2.2.1, bt230.2.2.2.2.2.2.1, bt230.2.2.2.2.2.2.2.1, bt230.2.2.2.2.2.2.2.2.1, bt230.2.2.2.2.2.2.2.2.2.1, bt230.2.2.2.2.2.2.2.2.2.2.1, bt230.2.2.2.2.2.2.2.2.2.2.2, true))) = some (r1, r2, r3, r4, r5, r6, r7, r8, r9, r10, r11, r12, r13) := by rw [if_pos rfl] at H; exact H
    clear H
    have H := H1
    clear H1
    replace H := Option.bind_eq_some_iff.mp H
    obtain ⟨⟨t230, t231, t232, t233, t234, t235, t236, t237, t238, t239, t240, t241⟩, A130, H⟩ := H
    replace H : (some (t230, t231, t232, t233, t234, t235, t236, t237, t238, t239, t240, t241, true)) = some (r1, r2, r3, r4, r5, r6, r7, r8, r9, r10, r11, r12, r13) := H
    have A13 := Aside0.mk A130
    clear A130
    simp only [Option.some.injEq, Prod.mk.injEq] at H
    obtain ⟨rfl, rfl, rfl, rfl, rfl, rfl, rfl, rfl, rfl, rfl, rfl, rfl, rfl⟩ := H
    go_enter Tryz.func18, Tryz.ntmps18
    go_wp2_with (first | ((with_reducible refine gate_dst (N := 1) rfl ?_); refine box_event ?hg (N := 1) ?hd (cs := #[.string a0_0, .int .i64 a0_1, .string a0_2]) (t := 44) ?hr ?_; (case hd => rfl); (case hg => rfl); (case hr => exact u0_); intro gb211 hg w14 hbox hb; have BK211 := Aside0.mk (hbox); have GW211 := Aside0.mk ((q11_ : w.heap.size ≤ gb211)); have GE211 := Aside0.mk ((q11_ : w.heap.size ≤ gb211)); replace HB := Aside0.mk (below_step q4_ hb); clear hb hbox hg) | ((with_reducible refine gate_dst (N := 2) rfl ?_); refine box_event ?hg (N := 2) ?hd (cs := #[.int .i64 0, .string (⟨#[]⟩ : ByteArray), .bool false, .string (⟨#[]⟩ : ByteArray), .int .i64 0, .int .i64 0, .int .i64 0, .int .i64 0, .bool false, .bool false, .int .i64 0, .int .i64 0]) (t := 51) ?hr ?_; (case hd => rfl); (case hg => rfl); (case hr => exact u0_); intro gb212 hg w15 hbox hb; have BK212 := Aside0.mk (hbox); have GW212 := Aside0.mk ((q12_ : w.heap.size ≤ gb212)); have GE212 := Aside0.mk ((q12_ : w.heap.size ≤ gb212)); replace HB := Aside0.mk (below_step q3_ hb); have NB211_212 := Aside0.mk ((q6_ : gb211 ≠ gb212)); have NB212_211 := Aside0.mk ((q7_ : gb212 ≠ gb211)); replace BK211 := Aside0.mk (blk_below (g := gb211) (o := .cells #[.string a0_0, .int .i64 a0_1, .string a0_2] 44 (0, 0)) q1_ hb); clear hb hbox hg; have hnb16 := NB211_212.out; have hnc16 := NB212_211.out; obtain ⟨hcz17_0, hcz17_1, hcz17_2, hfz17_0, hfz17_1, hfz17_2⟩ := cellsF3 BK211.out) | ((with_reducible refine gate_callee (f := 31) rfl ?_); refine goesL_ (some 20) rfl rfl Tryz.func31 (by kernel_rfl) rfl #[.string a0_2] rfl q8_ ?_; (with_reducible refine (polyglotlaw02_Parse.calls k a0_2 t225 t226 t227 true _ A11.out).mono ?_); rintro e w18 ⟨rfl, hb⟩; refine ⟨_, rfl, ?_⟩; replace BK211 := Aside0.mk (blk_below (g := gb211) (o := .cells #[.string a0_0, .int .i64 a0_1, .string a0_2] 44 (0, 0)) q1_ hb); replace BK212 := Aside0.mk (blk_below (g := gb212) (o := .cells #[.int .i64 0, .string (⟨#[]⟩ : ByteArray), .bool false, .string (⟨#[]⟩ : ByteArray), .int .i64 0, .int .i64 0, .int .i64 0, .int .i64 0, .bool false, .bool false, .int .i64 0, .int .i64 0] 51 (0, 0)) q5_ hb); replace HB := Aside0.mk (below_step q2_ hb); (try clear hb); (try clear hb2); (try clear hk); (try clear hi)) | ((with_reducible refine gate_dst (N := 4) rfl ?_); refine box_event ?hg (N := 4) ?hd (cs := #[.bool false, .string (⟨#[]⟩ : ByteArray), .int .i64 0]) (t := 46) ?hr ?_; (case hd => rfl); (case hg => rfl); (case hr => exact u0_); intro gb229 hg w19 hbox hb; have BK229 := Aside0.mk (hbox); have GW229 := Aside0.mk (((by rw [hg]; exact (below_size q2_)) : w.heap.size ≤ gb229)); have GE229 := Aside0.mk (((by rw [hg]; exact (below_size q2_)) : w.heap.size ≤ gb229)); replace HB := Aside0.mk (below_step q2_ hb); have NB211_229 := Aside0.mk ((q6_ : gb211 ≠ gb229)); have NB229_211 := Aside0.mk ((q7_ : gb229 ≠ gb211)); replace BK211 := Aside0.mk (blk_below (g := gb211) (o := .cells #[.string a0_0, .int .i64 a0_1, .string a0_2] 44 (0, 0)) q1_ hb); have NB212_229 := Aside0.mk ((q13_ : gb212 ≠ gb229)); have NB229_212 := Aside0.mk ((q14_ : gb229 ≠ gb212)); replace BK212 := Aside0.mk (blk_below (g := gb212) (o := .cells #[.int .i64 0, .string (⟨#[]⟩ : ByteArray), .bool false, .string (⟨#[]⟩ : ByteArray), .int .i64 0, .int .i64 0, .int .i64 0, .int .i64 0, .bool false, .bool false, .int .i64 0, .int .i64 0] 51 (0, 0)) q5_ hb); clear hb hbox hg; have hnb20 := NB229_211.out; have hnc20 := NB211_229.out; have hnb21 := NB229_212.out; have hnc21 := NB212_229.out; obtain ⟨hcz22_0, hcz22_1, hcz22_2, hfz22_0, hfz22_1, hfz22_2⟩ := cellsF3 BK229.out) | ((with_reducible refine gate_callee (f := 28) rfl ?_); refine goesL_ (some 25) rfl rfl Tryz.func28 (by kernel_rfl) rfl #[.agg #[.bool t225, .string t226, .int .i64 t227]] rfl q8_ ?_; (with_reducible refine (value_Num.calls t225 t226 t227 t230 t231 t232 t233 t234 t235 t236 t237 t238 t239 t240 t241 _ A13.out).mono ?_); rintro e w23 ⟨rfl, hb⟩; refine ⟨_, rfl, ?_⟩; replace BK211 := Aside0.mk (blk_below (g := gb211) (o := .cells #[.string a0_0, .int .i64 a0_1, .string a0_2] 44 (0, 0)) (by (with_reducible repeat (first | refine blk_drewN ?_ _ | refine blk_drew ?_ | refine blk_alloc ?_ _)); refine blk_far ?_ NB211_229.out _; (with_reducible repeat (first | refine blk_drewN ?_ _ | refine blk_drew ?_ | refine blk_alloc ?_ _)); refine blk_far ?_ NB211_229.out _; (with_reducible repeat (first | refine blk_drewN ?_ _ | refine blk_drew ?_ | refine blk_alloc ?_ _)); refine blk_far ?_ NB211_229.out _; (with_reducible repeat (first | refine blk_drewN ?_ _ | refine blk_drew ?_ | refine blk_alloc ?_ _)); exact BK211.out) hb); replace BK212 := Aside0.mk (blk_below (g := gb212) (o := .cells #[.int .i64 0, .string (⟨#[]⟩ : ByteArray), .bool false, .string (⟨#[]⟩ : ByteArray), .int .i64 0, .int .i64 0, .int .i64 0, .int .i64 0, .bool false, .bool false, .int .i64 0, .int .i64 0] 51 (0, 0)) (by (with_reducible repeat (first | refine blk_drewN ?_ _ | refine blk_drew ?_ | refine blk_alloc ?_ _)); refine blk_far ?_ NB212_229.out _; (with_reducible repeat (first | refine blk_drewN ?_ _ | refine blk_drew ?_ | refine blk_alloc ?_ _)); refine blk_far ?_ NB212_229.out _; (with_reducible repeat (first | refine blk_drewN ?_ _ | refine blk_drew ?_ | refine blk_alloc ?_ _)); refine blk_far ?_ NB212_229.out _; (with_reducible repeat (first | refine blk_drewN ?_ _ | refine blk_drew ?_ | refine blk_alloc ?_ _)); exact BK212.out) hb); replace BK229 := Aside0.mk (blk_below (g := gb229) (o := .cells #[.bool t225, .string t226, .int .i64 t227] 46 (0, 0)) (by (with_reducible repeat (first | refine blk_drewN ?_ _ | refine blk_drew ?_ | refine blk_alloc ?_ _)); refine blk_put (cs := #[.bool t225, .string t226, .int .i64 0]) ?_ 2 _ rfl; (with_reducible repeat (first | refine blk_drewN ?_ _ | refine blk_drew ?_ | refine blk_alloc ?_ _)); refine blk_put (cs := #[.bool t225, .string (⟨#[]⟩ : ByteArray), .int .i64 0]) ?_ 1 _ rfl; (with_reducible repeat (first | refine blk_drewN ?_ _ | refine blk_drew ?_ | refine blk_alloc ?_ _)); refine blk_put (cs := #[.bool false, .string (⟨#[]⟩ : ByteArray), .int .i64 0]) ?_ 0 _ rfl; (with_reducible repeat (first | refine blk_drewN ?_ _ | refine blk_drew ?_ | refine blk_alloc ?_ _)); exact BK229.out) hb); replace HB := Aside0.mk (below_step q10_ hb); (try clear hb); (try clear hb2); (try clear hk); (try clear hi); obtain ⟨hcz24_0, hcz24_1, hcz24_2, hcz24_3, hcz24_4, hcz24_5, hcz24_6, hcz24_7, hcz24_8, hcz24_9, hcz24_10, hcz24_11, hfz24_0, hfz24_1, hfz24_2, hfz24_3, hfz24_4, hfz24_5, hfz24_6, hfz24_7, hfz24_8, hfz24_9, hfz24_10, hfz24_11⟩ := cellsF12 BK212.out))
    refine bodyPost_ret (results_ct rfl _ _ gb212 51 #[.int .i64 t230, .string t231, .bool t232, .string t233, .int .i64 t234, .int .i64 t235, .int .i64 t236, .int .i64 t237, .bool t238, .bool t239, .int .i64 t240, .int .i64 t241] (0, 0) _ rfl (by (with_reducible repeat (first | refine blk_drewN ?_ _ | refine blk_drew ?_ | refine blk_alloc ?_ _)); refine blk_put (cs := #[.int .i64 t230, .string t231, .bool t232, .string t233, .int .i64 t234, .int .i64 t235, .int .i64 t236, .int .i64 t237, .bool t238, .bool t239, .int .i64 t240, .int .i64 0]) ?_ 11 _ rfl; (with_reducible repeat (first | refine blk_drewN ?_ _ | refine blk_drew ?_ | refine blk_alloc ?_ _)); refine blk_put (cs := #[.int .i64 t230, .string t231, .bool t232, .string t233, .int .i64 t234, .int .i64 t235, .int .i64 t236, .int .i64 t237, .bool t238, .bool t239, .int .i64 0, .int .i64 0]) ?_ 10 _ rfl; (with_reducible repeat (first | refine blk_drewN ?_ _ | refine blk_drew ?_ | refine blk_alloc ?_ _)); refine blk_put (cs := #[.int .i64 t230, .string t231, .bool t232, .string t233, .int .i64 t234, .int .i64 t235, .int .i64 t236, .int .i64 t237, .bool t238, .bool false, .int .i64 0, .int .i64 0]) ?_ 9 _ rfl; (with_reducible repeat (first | refine blk_drewN ?_ _ | refine blk_drew ?_ | refine blk_alloc ?_ _)); refine blk_put (cs := #[.int .i64 t230, .string t231, .bool t232, .string t233, .int .i64 t234, .int .i64 t235, .int .i64 t236, .int .i64 t237, .bool false, .bool false, .int .i64 0, .int .i64 0]) ?_ 8 _ rfl; (with_reducible repeat (first | refine blk_drewN ?_ _ | refine blk_drew ?_ | refine blk_alloc ?_ _)); refine blk_put (cs := #[.int .i64 t230, .string t231, .bool t232, .string t233, .int .i64 t234, .int .i64 t235, .int .i64 t236, .int .i64 0, .bool false, .bool false, .int .i64 0, .int .i64 0]) ?_ 7 _ rfl; (with_reducible repeat (first | refine blk_drewN ?_ _ | refine blk_drew ?_ | refine blk_alloc ?_ _)); refine blk_put (cs := #[.int .i64 t230, .string t231, .bool t232, .string t233, .int .i64 t234, .int .i64 t235, .int .i64 0, .int .i64 0, .bool false, .bool false, .int .i64 0, .int .i64 0]) ?_ 6 _ rfl; (with_reducible repeat (first | refine blk_drewN ?_ _ | refine blk_drew ?_ | refine blk_alloc ?_ _)); refine blk_put (cs := #[.int .i64 t230, .string t231, .bool t232, .string t233, .int .i64 t234, .int .i64 0, .int .i64 0, .int .i64 0, .bool false, .bool false, .int .i64 0, .int .i64 0]) ?_ 5 _ rfl; (with_reducible repeat (first | refine blk_drewN ?_ _ | refine blk_drew ?_ | refine blk_alloc ?_ _)); refine blk_put (cs := #[.int .i64 t230, .string t231, .bool t232, .string t233, .int .i64 0, .int .i64 0, .int .i64 0, .int .i64 0, .bool false, .bool false, .int .i64 0, .int .i64 0]) ?_ 4 _ rfl; (with_reducible repeat (first | refine blk_drewN ?_ _ | refine blk_drew ?_ | refine blk_alloc ?_ _)); refine blk_put (cs := #[.int .i64 t230, .string t231, .bool t232, .string (⟨#[]⟩ : ByteArray), .int .i64 0, .int .i64 0, .int .i64 0, .int .i64 0, .bool false, .bool false, .int .i64 0, .int .i64 0]) ?_ 3 _ rfl; (with_reducible repeat (first | refine blk_drewN ?_ _ | refine blk_drew ?_ | refine blk_alloc ?_ _)); refine blk_put (cs := #[.int .i64 t230, .string t231, .bool false, .string (⟨#[]⟩ : ByteArray), .int .i64 0, .int .i64 0, .int .i64 0, .int .i64 0, .bool false, .bool false, .int .i64 0, .int .i64 0]) ?_ 2 _ rfl; (with_reducible repeat (first | refine blk_drewN ?_ _ | refine blk_drew ?_ | refine blk_alloc ?_ _)); refine blk_put (cs := #[.int .i64 t230, .string (⟨#[]⟩ : ByteArray), .bool false, .string (⟨#[]⟩ : ByteArray), .int .i64 0, .int .i64 0, .int .i64 0, .int .i64 0, .bool false, .bool false, .int .i64 0, .int .i64 0]) ?_ 1 _ rfl; (with_reducible repeat (first | refine blk_drewN ?_ _ | refine blk_drew ?_ | refine blk_alloc ?_ _)); refine blk_put (cs := #[.int .i64 0, .string (⟨#[]⟩ : ByteArray), .bool false, .string (⟨#[]⟩ : ByteArray), .int .i64 0, .int .i64 0, .int .i64 0, .int .i64 0, .bool false, .bool false, .int .i64 0, .int .i64 0]) ?_ 0 _ rfl; (with_reducible repeat (first | refine blk_drewN ?_ _ | refine blk_drew ?_ | refine blk_alloc ?_ _)); exact BK212.out) Tryz.underlying51 rfl (by kernel_rfl)) rfl ?_
    exact ⟨q9_, q10_⟩
   ·replace c12 := Bool.eq_false_iff.mpr c12
    subst c12
    have H1 : (some (0, (⟨#[]⟩ : ByteArray), false, (⟨#[]⟩ : ByteArray), 0, 0, 0, 0, false, false, 0, 0, false)) = some (r1, r2, r3, r4, r5, r6, r7, r8, r9, r10, r11, r12, r13) := by rw [if_neg (show ¬ (false = true) by decide)] at H; exact H
    clear H
    have H := H1
    clear H1
    simp only [Option.some.injEq, Prod.mk.injEq] at H
    obtain ⟨rfl, rfl, rfl, rfl, rfl, rfl, rfl, rfl, rfl, rfl, rfl, rfl, rfl⟩ := H
    go_enter Tryz.func18, Tryz.ntmps18
    go_wp2_with (first | ((with_reducible refine gate_dst (N := 1) rfl ?_); refine box_event ?hg (N := 1) ?hd (cs := #[.string a0_0, .int .i64 a0_1, .string a0_2]) (t := 44) ?hr ?_; (case hd => rfl); (case hg => rfl); (case hr => exact u0_); intro gb211 hg w25 hbox hb; have BK211 := Aside0.mk (hbox); have GW211 := Aside0.mk ((q11_ : w.heap.size ≤ gb211)); have GE211 := Aside0.mk ((q11_ : w.heap.size ≤ gb211)); replace HB := Aside0.mk (below_step q4_ hb); clear hb hbox hg) | ((with_reducible refine gate_dst (N := 2) rfl ?_); refine box_event ?hg (N := 2) ?hd (cs := #[.int .i64 0, .string (⟨#[]⟩ : ByteArray), .bool false, .string (⟨#[]⟩ : ByteArray), .int .i64 0, .int .i64 0, .int .i64 0, .int .i64 0, .bool false, .bool false, .int .i64 0, .int .i64 0]) (t := 51) ?hr ?_; (case hd => rfl); (case hg => rfl); (case hr => exact u0_); intro gb212 hg w26 hbox hb; have BK212 := Aside0.mk (hbox); have GW212 := Aside0.mk ((q12_ : w.heap.size ≤ gb212)); have GE212 := Aside0.mk ((q12_ : w.heap.size ≤ gb212)); replace HB := Aside0.mk (below_step q3_ hb); have NB211_212 := Aside0.mk ((q6_ : gb211 ≠ gb212)); have NB212_211 := Aside0.mk ((q7_ : gb212 ≠ gb211)); replace BK211 := Aside0.mk (blk_below (g := gb211) (o := .cells #[.string a0_0, .int .i64 a0_1, .string a0_2] 44 (0, 0)) q1_ hb); clear hb hbox hg; have hnb27 := NB211_212.out; have hnc27 := NB212_211.out; obtain ⟨hcz28_0, hcz28_1, hcz28_2, hfz28_0, hfz28_1, hfz28_2⟩ := cellsF3 BK211.out) | ((with_reducible refine gate_callee (f := 31) rfl ?_); refine goesL_ (some 20) rfl rfl Tryz.func31 (by kernel_rfl) rfl #[.string a0_2] rfl q8_ ?_; (with_reducible refine (polyglotlaw02_Parse.calls k a0_2 t225 t226 t227 false _ A11.out).mono ?_); rintro e w29 ⟨rfl, hb⟩; refine ⟨_, rfl, ?_⟩; replace BK211 := Aside0.mk (blk_below (g := gb211) (o := .cells #[.string a0_0, .int .i64 a0_1, .string a0_2] 44 (0, 0)) q1_ hb); replace BK212 := Aside0.mk (blk_below (g := gb212) (o := .cells #[.int .i64 0, .string (⟨#[]⟩ : ByteArray), .bool false, .string (⟨#[]⟩ : ByteArray), .int .i64 0, .int .i64 0, .int .i64 0, .int .i64 0, .bool false, .bool false, .int .i64 0, .int .i64 0] 51 (0, 0)) q5_ hb); replace HB := Aside0.mk (below_step q2_ hb); (try clear hb); (try clear hb2); (try clear hk); (try clear hi)) | ((with_reducible refine gate_dst (N := 4) rfl ?_); refine box_event ?hg (N := 4) ?hd (cs := #[.bool false, .string (⟨#[]⟩ : ByteArray), .int .i64 0]) (t := 46) ?hr ?_; (case hd => rfl); (case hg => rfl); (case hr => exact u0_); intro gb229 hg w30 hbox hb; have BK229 := Aside0.mk (hbox); have GW229 := Aside0.mk (((by rw [hg]; exact (below_size q2_)) : w.heap.size ≤ gb229)); have GE229 := Aside0.mk (((by rw [hg]; exact (below_size q2_)) : w.heap.size ≤ gb229)); replace HB := Aside0.mk (below_step q2_ hb); have NB211_229 := Aside0.mk ((q6_ : gb211 ≠ gb229)); have NB229_211 := Aside0.mk ((q7_ : gb229 ≠ gb211)); replace BK211 := Aside0.mk (blk_below (g := gb211) (o := .cells #[.string a0_0, .int .i64 a0_1, .string a0_2] 44 (0, 0)) q1_ hb); have NB212_229 := Aside0.mk ((q13_ : gb212 ≠ gb229)); have NB229_212 := Aside0.mk ((q14_ : gb229 ≠ gb212)); replace BK212 := Aside0.mk (blk_below (g := gb212) (o := .cells #[.int .i64 0, .string (⟨#[]⟩ : ByteArray), .bool false, .string (⟨#[]⟩ : ByteArray), .int .i64 0, .int .i64 0, .int .i64 0, .int .i64 0, .bool false, .bool false, .int .i64 0, .int .i64 0] 51 (0, 0)) q5_ hb); clear hb hbox hg; have hnb31 := NB229_211.out; have hnc31 := NB211_229.out; have hnb32 := NB229_212.out; have hnc32 := NB212_229.out; obtain ⟨hcz33_0, hcz33_1, hcz33_2, hfz33_0, hfz33_1, hfz33_2⟩ := cellsF3 BK229.out; obtain ⟨hcz34_0, hcz34_1, hcz34_2, hcz34_3, hcz34_4, hcz34_5, hcz34_6, hcz34_7, hcz34_8, hcz34_9, hcz34_10, hcz34_11, hfz34_0, hfz34_1, hfz34_2, hfz34_3, hfz34_4, hfz34_5, hfz34_6, hfz34_7, hfz34_8, hfz34_9, hfz34_10, hfz34_11⟩ := cellsF12 BK212.out))
    refine bodyPost_ret (results_ct rfl _ _ gb212 51 #[.int .i64 0, .string (⟨#[]⟩ : ByteArray), .bool false, .string (⟨#[]⟩ : ByteArray), .int .i64 0, .int .i64 0, .int .i64 0, .int .i64 0, .bool false, .bool false, .int .i64 0, .int .i64 0] (0, 0) _ rfl (by (with_reducible repeat (first | refine blk_drewN ?_ _ | refine blk_drew ?_ | refine blk_alloc ?_ _)); refine blk_put (cs := #[.int .i64 0, .string (⟨#[]⟩ : ByteArray), .bool false, .string (⟨#[]⟩ : ByteArray), .int .i64 0, .int .i64 0, .int .i64 0, .int .i64 0, .bool false, .bool false, .int .i64 0, .int .i64 0]) ?_ 11 _ rfl; (with_reducible repeat (first | refine blk_drewN ?_ _ | refine blk_drew ?_ | refine blk_alloc ?_ _)); refine blk_put (cs := #[.int .i64 0, .string (⟨#[]⟩ : ByteArray), .bool false, .string (⟨#[]⟩ : ByteArray), .int .i64 0, .int .i64 0, .int .i64 0, .int .i64 0, .bool false, .bool false, .int .i64 0, .int .i64 0]) ?_ 10 _ rfl; (with_reducible repeat (first | refine blk_drewN ?_ _ | refine blk_drew ?_ | refine blk_alloc ?_ _)); refine blk_put (cs := #[.int .i64 0, .string (⟨#[]⟩ : ByteArray), .bool false, .string (⟨#[]⟩ : ByteArray), .int .i64 0, .int .i64 0, .int .i64 0, .int .i64 0, .bool false, .bool false, .int .i64 0, .int .i64 0]) ?_ 9 _ rfl; (with_reducible repeat (first | refine blk_drewN ?_ _ | refine blk_drew ?_ | refine blk_alloc ?_ _)); refine blk_put (cs := #[.int .i64 0, .string (⟨#[]⟩ : ByteArray), .bool false, .string (⟨#[]⟩ : ByteArray), .int .i64 0, .int .i64 0, .int .i64 0, .int .i64 0, .bool false, .bool false, .int .i64 0, .int .i64 0]) ?_ 8 _ rfl; (with_reducible repeat (first | refine blk_drewN ?_ _ | refine blk_drew ?_ | refine blk_alloc ?_ _)); refine blk_put (cs := #[.int .i64 0, .string (⟨#[]⟩ : ByteArray), .bool false, .string (⟨#[]⟩ : ByteArray), .int .i64 0, .int .i64 0, .int .i64 0, .int .i64 0, .bool false, .bool false, .int .i64 0, .int .i64 0]) ?_ 7 _ rfl; (with_reducible repeat (first | refine blk_drewN ?_ _ | refine blk_drew ?_ | refine blk_alloc ?_ _)); refine blk_put (cs := #[.int .i64 0, .string (⟨#[]⟩ : ByteArray), .bool false, .string (⟨#[]⟩ : ByteArray), .int .i64 0, .int .i64 0, .int .i64 0, .int .i64 0, .bool false, .bool false, .int .i64 0, .int .i64 0]) ?_ 6 _ rfl; (with_reducible repeat (first | refine blk_drewN ?_ _ | refine blk_drew ?_ | refine blk_alloc ?_ _)); refine blk_put (cs := #[.int .i64 0, .string (⟨#[]⟩ : ByteArray), .bool false, .string (⟨#[]⟩ : ByteArray), .int .i64 0, .int .i64 0, .int .i64 0, .int .i64 0, .bool false, .bool false, .int .i64 0, .int .i64 0]) ?_ 5 _ rfl; (with_reducible repeat (first | refine blk_drewN ?_ _ | refine blk_drew ?_ | refine blk_alloc ?_ _)); refine blk_put (cs := #[.int .i64 0, .string (⟨#[]⟩ : ByteArray), .bool false, .string (⟨#[]⟩ : ByteArray), .int .i64 0, .int .i64 0, .int .i64 0, .int .i64 0, .bool false, .bool false, .int .i64 0, .int .i64 0]) ?_ 4 _ rfl; (with_reducible repeat (first | refine blk_drewN ?_ _ | refine blk_drew ?_ | refine blk_alloc ?_ _)); refine blk_put (cs := #[.int .i64 0, .string (⟨#[]⟩ : ByteArray), .bool false, .string (⟨#[]⟩ : ByteArray), .int .i64 0, .int .i64 0, .int .i64 0, .int .i64 0, .bool false, .bool false, .int .i64 0, .int .i64 0]) ?_ 3 _ rfl; (with_reducible repeat (first | refine blk_drewN ?_ _ | refine blk_drew ?_ | refine blk_alloc ?_ _)); refine blk_put (cs := #[.int .i64 0, .string (⟨#[]⟩ : ByteArray), .bool false, .string (⟨#[]⟩ : ByteArray), .int .i64 0, .int .i64 0, .int .i64 0, .int .i64 0, .bool false, .bool false, .int .i64 0, .int .i64 0]) ?_ 2 _ rfl; (with_reducible repeat (first | refine blk_drewN ?_ _ | refine blk_drew ?_ | refine blk_alloc ?_ _)); refine blk_put (cs := #[.int .i64 0, .string (⟨#[]⟩ : ByteArray), .bool false, .string (⟨#[]⟩ : ByteArray), .int .i64 0, .int .i64 0, .int .i64 0, .int .i64 0, .bool false, .bool false, .int .i64 0, .int .i64 0]) ?_ 1 _ rfl; (with_reducible repeat (first | refine blk_drewN ?_ _ | refine blk_drew ?_ | refine blk_alloc ?_ _)); refine blk_put (cs := #[.int .i64 0, .string (⟨#[]⟩ : ByteArray), .bool false, .string (⟨#[]⟩ : ByteArray), .int .i64 0, .int .i64 0, .int .i64 0, .int .i64 0, .bool false, .bool false, .int .i64 0, .int .i64 0]) ?_ 0 _ rfl; (with_reducible repeat (first | refine blk_drewN ?_ _ | refine blk_drew ?_ | refine blk_alloc ?_ _)); refine blk_far ?_ NB212_229.out _; (with_reducible repeat (first | refine blk_drewN ?_ _ | refine blk_drew ?_ | refine blk_alloc ?_ _)); refine blk_far ?_ NB212_229.out _; (with_reducible repeat (first | refine blk_drewN ?_ _ | refine blk_drew ?_ | refine blk_alloc ?_ _)); refine blk_far ?_ NB212_229.out _; (with_reducible repeat (first | refine blk_drewN ?_ _ | refine blk_drew ?_ | refine blk_alloc ?_ _)); exact BK212.out) Tryz.underlying51 rfl (by kernel_rfl)) rfl ?_
    exact ⟨q9_, q10_⟩
  ·rw [if_neg c10] at H
   have c10b0 : (a0_1 == 1) = false := beq_eq_false_iff_ne.mpr c10
   have c10b1 : (a0_1 != 1) = true := bne_iff_ne.mpr c10
   by_cases c35 : a0_1 = 2
   ·rw [if_pos c35] at H
    have c35b0 : (a0_1 == 2) = true := beq_iff_eq.mpr c35
    have c35b1 : (a0_1 != 2) = false := bne_eq_false_iff_eq.mpr c35
    clear c35
    replace H := Option.bind_eq_some_iff.mp H
    obtain ⟨⟨t242, t243⟩, A360, H⟩ := H
    replace H : (if t243 = true then ((value_At.f t242).bind fun bt244 => (some (bt244.1, bt244.2.1, bt244.2.2.1, bt244.2.2.2.1, bt244.2.2.2.2.1, bt244.2.2.2.2.2.1, bt244.2.2.2.2.2.2.1, bt244.2.2.2.2.2.2.2.1, bt244.2.2.2.2.2.2.2.2.1, bt244.2.2.2.2.2.2.2.2.2.1, bt244.2.2.2.2.2.2.2.2.2.2.1, bt244.2.2.2.2.2.2.2.2.2.2.2, true))) else (some (0, (⟨#[]⟩ : ByteArray), false, (⟨#[]⟩ : ByteArray), 0, 0, 0, 0, false, false, 0, 0, false))) = some (r1, r2, r3, r4, r5, r6, r7, r8, r9, r10, r11, r12, r13) := H
    have A36 := Aside0.mk A360
    clear A360
    by_cases c37 : t243 = true
    ·subst c37
     have H1 : ((value_At.f t242).bind fun bt244 => (some (bt244.1, bt244.2.1, bt244.2.2.1, bt244.2.2.2.1, bt244.2.2.2.2.1, bt244.2.2.2.2.2.1, bt244.2.2.2.2.2.2.1, bt244.2.2.2.2.2.2.2.1, bt244.2.2.2.2.2.2.2.2.1, bt244.2.2.2.2.2.2.2.2.2.1, bt244.2.2.2.2.2.2.2.2.2.2.1, bt244.2.2.2.2.2.2.2.2.2.2.2, true))) = some (r1, r2, r3, r4, r5, r6, r7, r8, r9, r10, r11, r12, r13) := by rw [if_pos rfl] at H; exact H
     clear H
     have H := H1
     clear H1
     replace H := Option.bind_eq_some_iff.mp H
     obtain ⟨⟨t244, t245, t246, t247, t248, t249, t250, t251, t252, t253, t254, t255⟩, A380, H⟩ := H
     replace H : (some (t244, t245, t246, t247, t248, t249, t250, t251, t252, t253, t254, t255, true)) = some (r1, r2, r3, r4, r5, r6, r7, r8, r9, r10, r11, r12, r13) := H
     have A38 := Aside0.mk A380
     clear A380
     simp only [Option.some.injEq, Prod.mk.injEq] at H
     obtain ⟨rfl, rfl, rfl, rfl, rfl, rfl, rfl, rfl, rfl, rfl, rfl, rfl, rfl⟩ := H
     go_enter Tryz.func18, Tryz.ntmps18
     go_wp2_with (first | ((with_reducible refine gate_dst (N := 1) rfl ?_); refine box_event ?hg (N := 1) ?hd (cs := #[.string a0_0, .int .i64 a0_1, .string a0_2]) (t := 44) ?hr ?_; (case hd => rfl); (case hg => rfl); (case hr => exact u0_); intro gb211 hg w39 hbox hb; have BK211 := Aside0.mk (hbox); have GW211 := Aside0.mk ((q11_ : w.heap.size ≤ gb211)); have GE211 := Aside0.mk ((q11_ : w.heap.size ≤ gb211)); replace HB := Aside0.mk (below_step q4_ hb); clear hb hbox hg) | ((with_reducible refine gate_dst (N := 2) rfl ?_); refine box_event ?hg (N := 2) ?hd (cs := #[.int .i64 0, .string (⟨#[]⟩ : ByteArray), .bool false, .string (⟨#[]⟩ : ByteArray), .int .i64 0, .int .i64 0, .int .i64 0, .int .i64 0, .bool false, .bool false, .int .i64 0, .int .i64 0]) (t := 51) ?hr ?_; (case hd => rfl); (case hg => rfl); (case hr => exact u0_); intro gb212 hg w40 hbox hb; have BK212 := Aside0.mk (hbox); have GW212 := Aside0.mk ((q12_ : w.heap.size ≤ gb212)); have GE212 := Aside0.mk ((q12_ : w.heap.size ≤ gb212)); replace HB := Aside0.mk (below_step q3_ hb); have NB211_212 := Aside0.mk ((q6_ : gb211 ≠ gb212)); have NB212_211 := Aside0.mk ((q7_ : gb212 ≠ gb211)); replace BK211 := Aside0.mk (blk_below (g := gb211) (o := .cells #[.string a0_0, .int .i64 a0_1, .string a0_2] 44 (0, 0)) q1_ hb); clear hb hbox hg; have hnb41 := NB211_212.out; have hnc41 := NB212_211.out; obtain ⟨hcz42_0, hcz42_1, hcz42_2, hfz42_0, hfz42_1, hfz42_2⟩ := cellsF3 BK211.out) | ((with_reducible refine gate_callee (f := 32) rfl ?_); refine goesL_ (some 31) rfl rfl Tryz.func32 (by kernel_rfl) rfl #[.string a0_2] rfl q8_ ?_; (with_reducible refine (polyglotlaw18_moment.calls k a0_2 t242 true _ A36.out).mono ?_); rintro e w' ⟨rfl, ⟨nd, rfl⟩⟩; refine ⟨_, rfl, ?_⟩; (try (rw [drewN_self w40]; generalize hq_ : World.drewN w40 _ = w40; have n0_ : Aside0 (w40.heap[gb211]? = some (.cells #[.string a0_0, .int .i64 a0_1, .string a0_2] 44 (0, 0))) := ⟨(by rw [← hq_]; exact q1_)⟩; have n1_ : Aside0 (w40.heap[gb212]? = some (.cells #[.int .i64 0, .string (⟨#[]⟩ : ByteArray), .bool false, .string (⟨#[]⟩ : ByteArray), .int .i64 0, .int .i64 0, .int .i64 0, .int .i64 0, .bool false, .bool false, .int .i64 0, .int .i64 0] 51 (0, 0))) := ⟨(by rw [← hq_]; exact q5_)⟩; have n2_ : Aside0 (Below w.heap.size w w40) := ⟨(by rw [← hq_]; exact q2_)⟩; clear BK211 BK212 HB hq_; have BK211 := n0_; have BK212 := n1_; have HB := n2_; clear n0_ n1_ n2_))) | ((with_reducible refine gate_callee (f := 30) rfl ?_); refine goesL_ (some 36) rfl rfl Tryz.func30 (by kernel_rfl) rfl #[.int .i64 t242] rfl q8_ ?_; (with_reducible refine (value_At.calls t242 t244 t245 t246 t247 t248 t249 t250 t251 t252 t253 t254 t255 _ A38.out).mono ?_); rintro e w43 ⟨rfl, hb⟩; refine ⟨_, rfl, ?_⟩; replace BK211 := Aside0.mk (blk_below (g := gb211) (o := .cells #[.string a0_0, .int .i64 a0_1, .string a0_2] 44 (0, 0)) q1_ hb); replace BK212 := Aside0.mk (blk_below (g := gb212) (o := .cells #[.int .i64 0, .string (⟨#[]⟩ : ByteArray), .bool false, .string (⟨#[]⟩ : ByteArray), .int .i64 0, .int .i64 0, .int .i64 0, .int .i64 0, .bool false, .bool false, .int .i64 0, .int .i64 0] 51 (0, 0)) q5_ hb); replace HB := Aside0.mk (below_step q2_ hb); (try clear hb); (try clear hb2); (try clear hk); (try clear hi); obtain ⟨hcz44_0, hcz44_1, hcz44_2, hcz44_3, hcz44_4, hcz44_5, hcz44_6, hcz44_7, hcz44_8, hcz44_9, hcz44_10, hcz44_11, hfz44_0, hfz44_1, hfz44_2, hfz44_3, hfz44_4, hfz44_5, hfz44_6, hfz44_7, hfz44_8, hfz44_9, hfz44_10, hfz44_11⟩ := cellsF12 BK212.out))
     refine bodyPost_ret (results_ct rfl _ _ gb212 51 #[.int .i64 t244, .string t245, .bool t246, .string t247, .int .i64 t248, .int .i64 t249, .int .i64 t250, .int .i64 t251, .bool t252, .bool t253, .int .i64 t254, .int .i64 t255] (0, 0) _ rfl (by (with_reducible repeat (first | refine blk_drewN ?_ _ | refine blk_drew ?_ | refine blk_alloc ?_ _)); refine blk_put (cs := #[.int .i64 t244, .string t245, .bool t246, .string t247, .int .i64 t248, .int .i64 t249, .int .i64 t250, .int .i64 t251, .bool t252, .bool t253, .int .i64 t254, .int .i64 0]) ?_ 11 _ rfl; (with_reducible repeat (first | refine blk_drewN ?_ _ | refine blk_drew ?_ | refine blk_alloc ?_ _)); refine blk_put (cs := #[.int .i64 t244, .string t245, .bool t246, .string t247, .int .i64 t248, .int .i64 t249, .int .i64 t250, .int .i64 t251, .bool t252, .bool t253, .int .i64 0, .int .i64 0]) ?_ 10 _ rfl; (with_reducible repeat (first | refine blk_drewN ?_ _ | refine blk_drew ?_ | refine blk_alloc ?_ _)); refine blk_put (cs := #[.int .i64 t244, .string t245, .bool t246, .string t247, .int .i64 t248, .int .i64 t249, .int .i64 t250, .int .i64 t251, .bool t252, .bool false, .int .i64 0, .int .i64 0]) ?_ 9 _ rfl; (with_reducible repeat (first | refine blk_drewN ?_ _ | refine blk_drew ?_ | refine blk_alloc ?_ _)); refine blk_put (cs := #[.int .i64 t244, .string t245, .bool t246, .string t247, .int .i64 t248, .int .i64 t249, .int .i64 t250, .int .i64 t251, .bool false, .bool false, .int .i64 0, .int .i64 0]) ?_ 8 _ rfl; (with_reducible repeat (first | refine blk_drewN ?_ _ | refine blk_drew ?_ | refine blk_alloc ?_ _)); refine blk_put (cs := #[.int .i64 t244, .string t245, .bool t246, .string t247, .int .i64 t248, .int .i64 t249, .int .i64 t250, .int .i64 0, .bool false, .bool false, .int .i64 0, .int .i64 0]) ?_ 7 _ rfl; (with_reducible repeat (first | refine blk_drewN ?_ _ | refine blk_drew ?_ | refine blk_alloc ?_ _)); refine blk_put (cs := #[.int .i64 t244, .string t245, .bool t246, .string t247, .int .i64 t248, .int .i64 t249, .int .i64 0, .int .i64 0, .bool false, .bool false, .int .i64 0, .int .i64 0]) ?_ 6 _ rfl; (with_reducible repeat (first | refine blk_drewN ?_ _ | refine blk_drew ?_ | refine blk_alloc ?_ _)); refine blk_put (cs := #[.int .i64 t244, .string t245, .bool t246, .string t247, .int .i64 t248, .int .i64 0, .int .i64 0, .int .i64 0, .bool false, .bool false, .int .i64 0, .int .i64 0]) ?_ 5 _ rfl; (with_reducible repeat (first | refine blk_drewN ?_ _ | refine blk_drew ?_ | refine blk_alloc ?_ _)); refine blk_put (cs := #[.int .i64 t244, .string t245, .bool t246, .string t247, .int .i64 0, .int .i64 0, .int .i64 0, .int .i64 0, .bool false, .bool false, .int .i64 0, .int .i64 0]) ?_ 4 _ rfl; (with_reducible repeat (first | refine blk_drewN ?_ _ | refine blk_drew ?_ | refine blk_alloc ?_ _)); refine blk_put (cs := #[.int .i64 t244, .string t245, .bool t246, .string (⟨#[]⟩ : ByteArray), .int .i64 0, .int .i64 0, .int .i64 0, .int .i64 0, .bool false, .bool false, .int .i64 0, .int .i64 0]) ?_ 3 _ rfl; (with_reducible repeat (first | refine blk_drewN ?_ _ | refine blk_drew ?_ | refine blk_alloc ?_ _)); refine blk_put (cs := #[.int .i64 t244, .string t245, .bool false, .string (⟨#[]⟩ : ByteArray), .int .i64 0, .int .i64 0, .int .i64 0, .int .i64 0, .bool false, .bool false, .int .i64 0, .int .i64 0]) ?_ 2 _ rfl; (with_reducible repeat (first | refine blk_drewN ?_ _ | refine blk_drew ?_ | refine blk_alloc ?_ _)); refine blk_put (cs := #[.int .i64 t244, .string (⟨#[]⟩ : ByteArray), .bool false, .string (⟨#[]⟩ : ByteArray), .int .i64 0, .int .i64 0, .int .i64 0, .int .i64 0, .bool false, .bool false, .int .i64 0, .int .i64 0]) ?_ 1 _ rfl; (with_reducible repeat (first | refine blk_drewN ?_ _ | refine blk_drew ?_ | refine blk_alloc ?_ _)); refine blk_put (cs := #[.int .i64 0, .string (⟨#[]⟩ : ByteArray), .bool false, .string (⟨#[]⟩ : ByteArray), .int .i64 0, .int .i64 0, .int .i64 0, .int .i64 0, .bool false, .bool false, .int .i64 0, .int .i64 0]) ?_ 0 _ rfl; (with_reducible repeat (first | refine blk_drewN ?_ _ | refine blk_drew ?_ | refine blk_alloc ?_ _)); exact BK212.out) Tryz.underlying51 rfl (by kernel_rfl)) rfl ?_
     exact ⟨q9_, q2_⟩
    ·replace c37 := Bool.eq_false_iff.mpr c37
     subst c37
     have H1 : (some (0, (⟨#[]⟩ : ByteArray), false, (⟨#[]⟩ : ByteArray), 0, 0, 0, 0, false, false, 0, 0, false)) = some (r1, r2, r3, r4, r5, r6, r7, r8, r9, r10, r11, r12, r13) := by rw [if_neg (show ¬ (false = true) by decide)] at H; exact H
     clear H
     have H := H1
     clear H1
     simp only [Option.some.injEq, Prod.mk.injEq] at H
     obtain ⟨rfl, rfl, rfl, rfl, rfl, rfl, rfl, rfl, rfl, rfl, rfl, rfl, rfl⟩ := H
     go_enter Tryz.func18, Tryz.ntmps18
     go_wp2_with (first | ((with_reducible refine gate_dst (N := 1) rfl ?_); refine box_event ?hg (N := 1) ?hd (cs := #[.string a0_0, .int .i64 a0_1, .string a0_2]) (t := 44) ?hr ?_; (case hd => rfl); (case hg => rfl); (case hr => exact u0_); intro gb211 hg w45 hbox hb; have BK211 := Aside0.mk (hbox); have GW211 := Aside0.mk ((q11_ : w.heap.size ≤ gb211)); have GE211 := Aside0.mk ((q11_ : w.heap.size ≤ gb211)); replace HB := Aside0.mk (below_step q4_ hb); clear hb hbox hg) | ((with_reducible refine gate_dst (N := 2) rfl ?_); refine box_event ?hg (N := 2) ?hd (cs := #[.int .i64 0, .string (⟨#[]⟩ : ByteArray), .bool false, .string (⟨#[]⟩ : ByteArray), .int .i64 0, .int .i64 0, .int .i64 0, .int .i64 0, .bool false, .bool false, .int .i64 0, .int .i64 0]) (t := 51) ?hr ?_; (case hd => rfl); (case hg => rfl); (case hr => exact u0_); intro gb212 hg w46 hbox hb; have BK212 := Aside0.mk (hbox); have GW212 := Aside0.mk ((q12_ : w.heap.size ≤ gb212)); have GE212 := Aside0.mk ((q12_ : w.heap.size ≤ gb212)); replace HB := Aside0.mk (below_step q3_ hb); have NB211_212 := Aside0.mk ((q6_ : gb211 ≠ gb212)); have NB212_211 := Aside0.mk ((q7_ : gb212 ≠ gb211)); replace BK211 := Aside0.mk (blk_below (g := gb211) (o := .cells #[.string a0_0, .int .i64 a0_1, .string a0_2] 44 (0, 0)) q1_ hb); clear hb hbox hg; have hnb47 := NB211_212.out; have hnc47 := NB212_211.out; obtain ⟨hcz48_0, hcz48_1, hcz48_2, hfz48_0, hfz48_1, hfz48_2⟩ := cellsF3 BK211.out) | ((with_reducible refine gate_callee (f := 32) rfl ?_); refine goesL_ (some 31) rfl rfl Tryz.func32 (by kernel_rfl) rfl #[.string a0_2] rfl q8_ ?_; (with_reducible refine (polyglotlaw18_moment.calls k a0_2 t242 false _ A36.out).mono ?_); rintro e w' ⟨rfl, ⟨nd, rfl⟩⟩; refine ⟨_, rfl, ?_⟩; (try (rw [drewN_self w46]; generalize hq_ : World.drewN w46 _ = w46; have n0_ : Aside0 (w46.heap[gb211]? = some (.cells #[.string a0_0, .int .i64 a0_1, .string a0_2] 44 (0, 0))) := ⟨(by rw [← hq_]; exact q1_)⟩; have n1_ : Aside0 (w46.heap[gb212]? = some (.cells #[.int .i64 0, .string (⟨#[]⟩ : ByteArray), .bool false, .string (⟨#[]⟩ : ByteArray), .int .i64 0, .int .i64 0, .int .i64 0, .int .i64 0, .bool false, .bool false, .int .i64 0, .int .i64 0] 51 (0, 0))) := ⟨(by rw [← hq_]; exact q5_)⟩; have n2_ : Aside0 (Below w.heap.size w w46) := ⟨(by rw [← hq_]; exact q2_)⟩; clear BK211 BK212 HB hq_; have BK211 := n0_; have BK212 := n1_; have HB := n2_; clear n0_ n1_ n2_)); obtain ⟨hcz49_0, hcz49_1, hcz49_2, hcz49_3, hcz49_4, hcz49_5, hcz49_6, hcz49_7, hcz49_8, hcz49_9, hcz49_10, hcz49_11, hfz49_0, hfz49_1, hfz49_2, hfz49_3, hfz49_4, hfz49_5, hfz49_6, hfz49_7, hfz49_8, hfz49_9, hfz49_10, hfz49_11⟩ := cellsF12 BK212.out))
     refine bodyPost_ret (results_ct rfl _ _ gb212 51 #[.int .i64 0, .string (⟨#[]⟩ : ByteArray), .bool false, .string (⟨#[]⟩ : ByteArray), .int .i64 0, .int .i64 0, .int .i64 0, .int .i64 0, .bool false, .bool false, .int .i64 0, .int .i64 0] (0, 0) _ rfl q0_ Tryz.underlying51 rfl (by kernel_rfl)) rfl ?_
     exact ⟨q9_, q2_⟩
   ·rw [if_neg c35] at H
    have c35b0 : (a0_1 == 2) = false := beq_eq_false_iff_ne.mpr c35
    have c35b1 : (a0_1 != 2) = true := bne_iff_ne.mpr c35
    simp only [Option.some.injEq, Prod.mk.injEq] at H
    obtain ⟨rfl, rfl, rfl, rfl, rfl, rfl, rfl, rfl, rfl, rfl, rfl, rfl, rfl⟩ := H
    go_enter Tryz.func18, Tryz.ntmps18
    go_wp2_with (first | ((with_reducible refine gate_dst (N := 1) rfl ?_); refine box_event ?hg (N := 1) ?hd (cs := #[.string a0_0, .int .i64 a0_1, .string a0_2]) (t := 44) ?hr ?_; (case hd => rfl); (case hg => rfl); (case hr => exact u0_); intro gb211 hg w50 hbox hb; have BK211 := Aside0.mk (hbox); have GW211 := Aside0.mk ((q11_ : w.heap.size ≤ gb211)); have GE211 := Aside0.mk ((q11_ : w.heap.size ≤ gb211)); replace HB := Aside0.mk (below_step q4_ hb); clear hb hbox hg) | ((with_reducible refine gate_dst (N := 2) rfl ?_); refine box_event ?hg (N := 2) ?hd (cs := #[.int .i64 0, .string (⟨#[]⟩ : ByteArray), .bool false, .string (⟨#[]⟩ : ByteArray), .int .i64 0, .int .i64 0, .int .i64 0, .int .i64 0, .bool false, .bool false, .int .i64 0, .int .i64 0]) (t := 51) ?hr ?_; (case hd => rfl); (case hg => rfl); (case hr => exact u0_); intro gb212 hg w51 hbox hb; have BK212 := Aside0.mk (hbox); have GW212 := Aside0.mk ((q12_ : w.heap.size ≤ gb212)); have GE212 := Aside0.mk ((q12_ : w.heap.size ≤ gb212)); replace HB := Aside0.mk (below_step q3_ hb); have NB211_212 := Aside0.mk ((q6_ : gb211 ≠ gb212)); have NB212_211 := Aside0.mk ((q7_ : gb212 ≠ gb211)); replace BK211 := Aside0.mk (blk_below (g := gb211) (o := .cells #[.string a0_0, .int .i64 a0_1, .string a0_2] 44 (0, 0)) q1_ hb); clear hb hbox hg; have hnb52 := NB211_212.out; have hnc52 := NB212_211.out; obtain ⟨hcz53_0, hcz53_1, hcz53_2, hfz53_0, hfz53_1, hfz53_2⟩ := cellsF3 BK211.out; obtain ⟨hcz54_0, hcz54_1, hcz54_2, hcz54_3, hcz54_4, hcz54_5, hcz54_6, hcz54_7, hcz54_8, hcz54_9, hcz54_10, hcz54_11, hfz54_0, hfz54_1, hfz54_2, hfz54_3, hfz54_4, hfz54_5, hfz54_6, hfz54_7, hfz54_8, hfz54_9, hfz54_10, hfz54_11⟩ := cellsF12 BK212.out))
    refine bodyPost_ret (results_ct rfl _ _ gb212 51 #[.int .i64 0, .string (⟨#[]⟩ : ByteArray), .bool false, .string (⟨#[]⟩ : ByteArray), .int .i64 0, .int .i64 0, .int .i64 0, .int .i64 0, .bool false, .bool false, .int .i64 0, .int .i64 0] (0, 0) _ rfl q0_ Tryz.underlying51 rfl (by kernel_rfl)) rfl ?_
    exact ⟨q9_, q2_⟩
end Go.Proofs.YtdhpcofnddkcaaaGreatDoor.S
namespace Go.Proofs.YtdhpcofnddkcaaaGreatDoor.S
open Go.RowKit Go.Proofs.YtdhpcofnddkcaaaGreatDoor.G Go.Proofs.YtdhpcofnddkcaaaGreatDoorW.PrintWords Go.Proofs.YtdhpcofnddkcaaaGreatDoorW.PrintLast Go.Proofs.YtdhpcofnddkcaaaGreatDoorW.PrintMore
set_option linter.unusedVariables false
set_option linter.unusedSimpArgs false
theorem up {α : Type} {g : Nat → Option α} (hm : ∀ k, LeO (g k) (g (k + 1))) {r : α} : ∀ {k m : Nat}, k ≤ m → g k = some r → g m = some r := by
  intro k m hkm h
  induction m with
  | zero =>
    obtain rfl : k = 0 := by omega
    exact h
  | succ m ih =>
    rcases Nat.lt_or_eq_of_le hkm with h1 | rfl
    · exact hm m r (ih (by omega))
    · exact h
theorem pow16 : ∀ (D : List UInt8), (∀ c ∈ D, isDig c = true) → Net.vl D < 10 ^ D.length := by
  intro D
  generalize hn : D.length = n
  induction n generalizing D with
  | zero =>
    intro _
    have : D = [] := List.eq_nil_of_length_eq_zero hn
    subst this
    decide
  | succ n ih =>
    intro hd
    have hne : D ≠ [] := by intro h; rw [h] at hn; simp at hn
    obtain ⟨E, c, rfl⟩ := Net.snoc_ex hne
    have h1 := ih E (by simp at hn; omega) (fun c hc => hd c (by simp [hc]))
    have hc : isDig c = true := hd c (by simp)
    have hc2 : 48 ≤ c.toNat ∧ c.toNat ≤ 57 := by simpa [isDig] using hc
    rw [Net.vl_snoc, Nat.pow_succ]
    omega
theorem vl_take (D : List UInt8) (i : Nat) (h : i < D.length) : Net.vl (D.take (i + 1)) = Net.vl (D.take i) * 10 + (D[i].toNat - 48) := by
  rw [List.take_add_one, List.getElem?_eq_getElem h]
  exact Net.vl_snoc _ _
theorem moment_end (s D : ByteArray) (v : Nat) (hv : v < 10 ^ 16) (k : Nat) (i : Int) (hi : ¬ i < (D.size : Int)) : ∃ r b, polyglotlaw18_moment.l0 (k + 1) s D (v : Int) i = some (r, b) ∧
    (b = decide (v ≤ 9007199254740992)) ∧ r = (if bl D = bl s then (v : Int) else -(v : Int)) := by
  rw [polyglotlaw18_moment.l0, if_neg hi, tl, tl]
  by_cases h : bl D = bl s
  · rw [if_pos h, if_pos (by omega), if_pos h]
    exact ⟨_, _, rfl, decide_eq_decide.2 (by omega), rfl⟩
  · rw [if_neg h, if_neg h, w64 _ (by omega) (by omega)]
    by_cases h2 : -(v : Int) ≥ -9007199254740992
    · rw [if_pos h2]
      refine ⟨_, _, rfl, ?_, rfl⟩
      rw [decide_eq_true (by omega), decide_eq_true (by omega)]
    · rw [if_neg h2]
      exact ⟨_, _, rfl, (decide_eq_false (by omega)).symm, rfl⟩
theorem moment_loop (s D : ByteArray) (hD : (bl D).length ≤ 16) : ∀ (d i : Nat), (bl D).length - i ≤ d → i ≤ (bl D).length → (∀ c ∈ (bl D).take i, isDig c = true) →
    ∃ r b, polyglotlaw18_moment.l0 (d + 1) s D (Net.vl ((bl D).take i) : Int) (i : Int) = some (r, b) ∧ (b = true ↔ (∀ c ∈ bl D, isDig c = true) ∧ Net.vl (bl D) ≤ 9007199254740992) ∧
      (b = true → r = if bl D = bl s then (Net.vl (bl D) : Int) else -(Net.vl (bl D) : Int)) := by
  have hz : D.size = (bl D).length := sz D
  have fin : ∀ (i k : Nat), (bl D).length ≤ i → i ≤ (bl D).length → (∀ c ∈ (bl D).take i, isDig c = true) → ∃ r b, polyglotlaw18_moment.l0 (k + 1) s D (Net.vl ((bl D).take i) : Int) (i : Int) = some (r, b) ∧ (b = true ↔ (∀ c ∈ bl D, isDig c = true) ∧ Net.vl (bl D) ≤ 9007199254740992) ∧
      (b = true → r = if bl D = bl s then (Net.vl (bl D) : Int) else -(Net.vl (bl D) : Int)) := by
    intro i k h1 h2 h3
    rw [List.take_of_length_le h1] at h3 ⊢
    have hlt := pow16 (bl D) h3
    have hle : 10 ^ (bl D).length ≤ 10 ^ 16 := Nat.pow_le_pow_right (by decide) hD
    obtain ⟨r, b, e1, e2, e3⟩ := moment_end s D (Net.vl (bl D)) (by omega) k i (by omega)
    refine ⟨r, b, e1, ?_, fun _ => e3⟩
    rw [e2, decide_eq_true_iff]
    exact ⟨fun h => ⟨h3, h⟩, fun h => h.2⟩
  intro d
  induction d with
  | zero =>
    intro i h1 h2 h3
    exact fin i 0 (by omega) h2 h3
  | succ d ih =>
    intro i h1 h2 h3
    by_cases hi : i < (bl D).length
    · have hc : (bl D)[i]? = some (bl D)[i] := List.getElem?_eq_getElem hi
      have hbt := bt_nat D i _ hc
      have hlt := pow16 ((bl D).take i) h3
      have hle : 10 ^ ((bl D).take i).length ≤ 10 ^ 16 := Nat.pow_le_pow_right (by decide) (by rw [List.length_take]; omega)
      have h16 : (10 : Nat) ^ 16 = 10000000000000000 := by decide
      rw [polyglotlaw18_moment.l0, if_pos (by omega), if_pos (by omega), hbt]
      by_cases g1 : ((bl D)[i].toNat : Int) < 48
      · rw [if_pos g1]
        refine ⟨0, false, rfl, ⟨fun h => (by cases h), fun h => ?_⟩, fun h => by cases h⟩
        have := h.1 _ (List.getElem_mem hi)
        have : 48 ≤ (bl D)[i].toNat ∧ (bl D)[i].toNat ≤ 57 := by simpa [isDig] using this
        omega
      · rw [if_neg g1]
        by_cases g2 : ((bl D)[i].toNat : Int) > 57
        · rw [if_pos g2]
          refine ⟨0, false, rfl, ⟨fun h => (by cases h), fun h => ?_⟩, fun h => by cases h⟩
          have := h.1 _ (List.getElem_mem hi)
          have : 48 ≤ (bl D)[i].toNat ∧ (bl D)[i].toNat ≤ 57 := by simpa [isDig] using this
          omega
        · rw [if_neg g2]
          have hdi : isDig (bl D)[i] = true := by
            show (decide (48 ≤ (bl D)[i].toNat) && decide ((bl D)[i].toNat ≤ 57)) = true
            rw [decide_eq_true (by omega), decide_eq_true (by omega)]
            rfl
          have e1 : wrap64 (wrap64 (10 * (Net.vl ((bl D).take i) : Int)) + (((bl D)[i].toNat : Int) - 48) % 256) = (Net.vl ((bl D).take (i + 1)) : Int) := by
            rw [vl_take _ _ hi, w64 (10 * (Net.vl ((bl D).take i) : Int)) (by omega) (by omega), w64 _ (by omega) (by omega)]
            omega
          rw [e1, w64 _ (by omega) (by omega), show (i : Int) + 1 = ((i + 1 : Nat) : Int) by omega]
          refine ih (i + 1) (by omega) (by omega) ?_
          intro c hcm
          rw [List.take_add_one, List.mem_append] at hcm
          rcases hcm with h | h
          · exact h3 c h
          · rw [hc] at h
            have : c = (bl D)[i] := by simpa using h
            rw [this]; exact hdi
    · exact fin i (d + 1) (by omega) h2 h3
theorem moment_j1 (s D : ByteArray) (k : Nat) (hk : 30 ≤ k) : ∃ r b, polyglotlaw18_moment.j1 k s D = some (r, b) ∧
    (b = true ↔ bl D ≠ [] ∧ (bl D).length ≤ 16 ∧ ((bl D).length ≤ 1 ∨ (bl D).head? ≠ some 48) ∧ (∀ c ∈ bl D, isDig c = true) ∧ Net.vl (bl D) ≤ 9007199254740992) ∧
      (b = true → r = if bl D = bl s then (Net.vl (bl D) : Int) else -(Net.vl (bl D) : Int)) := by
  have hz : D.size = (bl D).length := sz D
  obtain ⟨m, rfl⟩ : ∃ m, k = m + 17 + 1 + 1 := ⟨k - 19, by omega⟩
  have hno : ∀ {P : Prop}, ¬ P → ∃ r b, polyglotlaw18_moment.j2 (m + 17 + 1) s D true = some (r, b) ∧ (b = true ↔ P) ∧ (b = true → r = if bl D = bl s then (Net.vl (bl D) : Int) else -(Net.vl (bl D) : Int)) := by
    intro P hP
    rw [polyglotlaw18_moment.j2, if_pos rfl]
    exact ⟨0, false, rfl, ⟨(fun h => by cases h), fun h => absurd h hP⟩, (fun h => by cases h)⟩
  rw [polyglotlaw18_moment.j1, tl]
  by_cases h1 : bl D = []
  · rw [if_pos h1]
    exact hno fun h => h.1 h1
  · rw [if_neg h1]
    by_cases h2 : (D.size : Int) > 16
    · rw [if_pos h2]
      exact hno fun h => by omega
    · rw [if_neg h2]
      have hyes : ((bl D).length ≤ 1 ∨ (bl D).head? ≠ some 48) → ∃ r b, polyglotlaw18_moment.j2 (m + 17 + 1) s D false = some (r, b) ∧
          (b = true ↔ bl D ≠ [] ∧ (bl D).length ≤ 16 ∧ ((bl D).length ≤ 1 ∨ (bl D).head? ≠ some 48) ∧ (∀ c ∈ bl D, isDig c = true) ∧ Net.vl (bl D) ≤ 9007199254740992) ∧ (b = true → r = if bl D = bl s then (Net.vl (bl D) : Int) else -(Net.vl (bl D) : Int)) := by
        intro hh
        rw [polyglotlaw18_moment.j2, if_neg (by decide)]
        obtain ⟨r, b, e1, e2, e3⟩ := moment_loop s D (by omega) (m + 16) 0 (by omega) (by omega) (by simp)
        refine ⟨r, b, e1, ?_, e3⟩
        rw [e2]
        exact ⟨fun h => ⟨h1, by omega, hh, h.1, h.2⟩, fun h => ⟨h.2.2.2.1, h.2.2.2.2⟩⟩
      by_cases h3 : (D.size : Int) > 1
      · rw [if_pos h3, if_pos (by omega)]
        have h0 : 0 < (bl D).length := by omega
        have hc : (bl D)[0]? = some (bl D)[0] := List.getElem?_eq_getElem h0
        have hbt : bt D 0 = (bl D)[0].toNat := bt_nat D 0 _ hc
        have hh : (bl D).head? = some (bl D)[0] := by rw [List.head?_eq_getElem?]; exact hc
        rw [hbt]
        by_cases h4 : (bl D)[0] = 48
        · rw [show ((((bl D)[0].toNat : Nat) : Int) == 48) = true by rw [h4]; rfl]
          exact hno fun h => by
            rcases h.2.2.1 with h | h
            · omega
            · exact h (by rw [hh, h4])
        · rw [show ((((bl D)[0].toNat : Nat) : Int) == 48) = false from beq_eq_false_iff_ne.2 fun h => h4 (UInt8.toNat_inj.1 (by show _ = 48; omega))]
          exact hyes (Or.inr (by rw [hh]; exact fun h => h4 (Option.some.inj h)))
      · rw [if_neg h3]
        exact hyes (Or.inl (by omega))
theorem moment_f (s : ByteArray) (k : Nat) (hk : 40 ≤ k) : ∃ r b, polyglotlaw18_moment.f k s = some (r, b) ∧ (match Net.momL (bl s) with | some n => r = n ∧ b = true | none => b = false) := by
  have hz : s.size = (bl s).length := sz s
  obtain ⟨m, rfl⟩ : ∃ m, k = m + 1 := ⟨k - 1, by omega⟩
  have close : ∀ (neg : Bool) (D : ByteArray) (r : Int) (b : Bool), bl s = (if neg = true then 45 :: bl D else bl D) → (neg = false → (bl D).head? ≠ some 45) →
      (b = true ↔ bl D ≠ [] ∧ (bl D).length ≤ 16 ∧ ((bl D).length ≤ 1 ∨ (bl D).head? ≠ some 48) ∧ (neg = true → bl D ≠ [48]) ∧ (∀ c ∈ bl D, isDig c = true) ∧ Net.vl (bl D) ≤ 9007199254740992) →
      (b = true → r = if bl D = bl s then (Net.vl (bl D) : Int) else -(Net.vl (bl D) : Int)) → (match Net.momL (bl s) with | some n => r = n ∧ b = true | none => b = false) := by
    intro neg D r b hs h45 hb hr
    have hm := Net.mom_digits (D := bl D) neg
    rw [← hs] at hm
    cases hq : Net.momL (bl s) with
    | none =>
      show b = false
      cases b with
      | false => rfl
      | true =>
        obtain ⟨n, h1, _⟩ := hm.1 (hb.1 rfl)
        rw [hq] at h1
        cases h1
    | some n =>
      show r = n ∧ b = true
      have hn : n = (if neg = true then -(Net.vl (bl D) : Int) else (Net.vl (bl D) : Int)) := by
        obtain ⟨h4, h5, h6⟩ := Net.momL_iff.1 hq
        cases neg
        · simp only [Bool.false_eq_true, if_false] at hs ⊢
          have h0 : 0 ≤ n := by
            rcases Int.lt_or_le n 0 with h | h
            · exfalso
              refine h45 rfl ?_
              rw [← hs, h4]
              unfold Lib.itoa
              rw [if_pos h]
              rfl
            · exact h
          have e : bl D = Lib.decDigits n.toNat := by rw [← hs, h4]; unfold Lib.itoa; rw [if_neg (by omega)]
          rw [e, Net.vl_dec _ _ (Nat.le_refl _)]
          omega
        · simp only [if_true] at hs ⊢
          rcases Int.lt_or_le n 0 with h | h
          · have e : bl D = Lib.decDigits n.natAbs := by
              unfold Lib.itoa at h4
              rw [if_pos h, hs] at h4
              exact (List.cons.inj h4).2
            rw [e, Net.vl_dec _ _ (Nat.le_refl _)]
            omega
          · exfalso
            unfold Lib.itoa at h4
            rw [if_neg (by omega), hs] at h4
            obtain ⟨c, q, e, _, h45'⟩ := Net.dec_cons n.toNat
            rw [e] at h4
            exact h45' (by rw [← (List.cons.inj h4).1]; rfl)
      have hbt : b = true := hb.2 (hm.2 ⟨n, hq, hn, by
        cases neg
        · exact Or.inr (h45 rfl)
        · exact Or.inl rfl⟩)
      refine ⟨?_, hbt⟩
      rw [hr hbt, hn]
      cases neg
      · simp only [Bool.false_eq_true, if_false] at hs ⊢
        rw [if_pos hs.symm]
      · simp only [if_true] at hs ⊢
        rw [if_neg (fun h => by
          have := congrArg List.length (h.trans hs)
          simp at this)]
  unfold polyglotlaw18_moment.f
  rw [tl]
  by_cases h0 : bl s = []
  · rw [if_pos h0, polyglotlaw18_moment.j0, if_neg (by decide)]
    obtain ⟨r, b, e1, e2, e3⟩ := moment_j1 s s m (by omega)
    exact ⟨r, b, e1, close false s r b rfl (fun _ => by rw [h0]; simp) (by rw [e2]; exact ⟨fun ⟨a, b, c, d, e⟩ => ⟨a, b, c, fun h => (by cases h), d, e⟩, fun ⟨a, b, c, _, d, e⟩ => ⟨a, b, c, d, e⟩⟩) e3⟩
  · have hp : 0 < (bl s).length := by
      cases h : bl s with
      | nil => exact absurd h h0
      | cons a t => simp
    have hc : (bl s)[0]? = some (bl s)[0] := List.getElem?_eq_getElem hp
    have hbt : bt s 0 = (bl s)[0].toNat := bt_nat s 0 _ hc
    have hh : (bl s).head? = some (bl s)[0] := by rw [List.head?_eq_getElem?]; exact hc
    rw [if_neg h0, if_pos (by omega), hbt]
    by_cases h45 : (bl s)[0] = 45
    · rw [show ((((bl s)[0].toNat : Nat) : Int) == 45) = true by rw [h45]; rfl, polyglotlaw18_moment.j0, if_pos rfl, if_pos (by omega), tl]
      have hx : bl (s.extract 1 s.size) = (bl s).tail := by
        rw [bl_ext, hz, List.take_of_length_le (by rw [List.length_drop]; omega), List.drop_one]
      have hs : bl s = 45 :: bl (s.extract 1 s.size) := by
        rw [hx]
        cases h : bl s with
        | nil => exact absurd h h0
        | cons a t =>
          have : (bl s)[0] = a := by simp [h]
          rw [h45] at this
          rw [← this]
          rfl
      by_cases h48 : bl (s.extract 1 s.size) = [48]
      · rw [if_pos h48]
        refine ⟨0, false, rfl, close true (s.extract 1 s.size) 0 false hs (fun h => by cases h) ⟨fun h => (by cases h), fun h => absurd h48 (h.2.2.2.1 rfl)⟩ (fun h => by cases h)⟩
      · rw [if_neg h48]
        obtain ⟨r, b, e1, e2, e3⟩ := moment_j1 s (s.extract 1 s.size) m (by omega)
        exact ⟨r, b, e1, close true (s.extract 1 s.size) r b hs (fun h => by cases h) (by rw [e2]; exact ⟨fun ⟨a, b, c, d, e⟩ => ⟨a, b, c, fun _ => h48, d, e⟩, fun ⟨a, b, c, _, d, e⟩ => ⟨a, b, c, d, e⟩⟩) e3⟩
    · rw [show ((((bl s)[0].toNat : Nat) : Int) == 45) = false from beq_eq_false_iff_ne.2 fun h => h45 (UInt8.toNat_inj.1 (by show _ = 45; omega)), polyglotlaw18_moment.j0, if_neg (by decide)]
      obtain ⟨r, b, e1, e2, e3⟩ := moment_j1 s s m (by omega)
      exact ⟨r, b, e1, close false s r b rfl (fun _ => by rw [hh]; exact fun h => h45 (Option.some.inj h)) (by rw [e2]; exact ⟨fun ⟨a, b, c, d, e⟩ => ⟨a, b, c, fun h => (by cases h), d, e⟩, fun ⟨a, b, c, _, d, e⟩ => ⟨a, b, c, d, e⟩⟩) e3⟩
theorem lvalue_f (name : ByteArray) (kind : Int) (text : ByteArray) (hs : text.size ≤ 100000) : ∃ k0, ∀ k, k0 ≤ k → polyglotlaw18_Value.f k name kind text = some (valF kind text) := by
  obtain ⟨k1, hk1⟩ := lawParse_ok text hs
  refine ⟨k1 + 40, fun k hk => ?_⟩
  unfold polyglotlaw18_Value.f valF
  by_cases h0 : kind = 0
  · rw [if_pos h0, if_pos h0]
    rfl
  · rw [if_neg h0, if_neg h0]
    by_cases h1 : kind = 1
    · rw [if_pos h1, if_pos h1, up (g := fun k => polyglotlaw02_Parse.f k text) (fun k => polyglotlaw02_Parse.mono text k) (show k1 ≤ k by omega) hk1, Option.bind_some, ← numL_parse]
      cases (parseV (negOf text) (restOf text)).2.2.2 <;> rfl
    · rw [if_neg h1, if_neg h1]
      by_cases h2 : kind = 2
      · rw [if_pos h2, if_pos h2]
        obtain ⟨v, b, hf, hm⟩ := moment_f text k (by omega)
        rw [hf, Option.bind_some]
        show (if b = true then _ else _) = _
        revert hm
        cases Net.momL (bl text) with
        | none =>
          intro hm'
          have hm'' : b = false := hm'
          subst hm''
          rfl
        | some n =>
          intro hm'
          obtain ⟨rfl, rfl⟩ := hm'
          rfl
      · rw [if_neg h2, if_neg h2]
        rfl
end Go.Proofs.YtdhpcofnddkcaaaGreatDoor.S
namespace Go.Proofs.YtdhpcofnddkcaaaGreatDoor.S
open Go.RowKit Go.Proofs.YtdhpcofnddkcaaaGreatDoor.G Go.Proofs.YtdhpcofnddkcaaaGreatDoorW.PrintWords Go.Proofs.YtdhpcofnddkcaaaGreatDoorW.PrintLast Go.Proofs.YtdhpcofnddkcaaaGreatDoorW.PrintMore
attribute [local go_sem] max2_int min2_int max_two min_two max_three min_three max_four min_four
set_option linter.unusedVariables false
set_option linter.unusedSimpArgs false
namespace Sx8
theorem cellsF3 {w : World} {g : Nat} {t : TypeId} {a0 a1 a2 : Value} (h : w.heap[g]? = some (.cells #[a0, a1, a2] t (0, 0))) : w.cell? ⟨g, 0, none⟩ = some a0 ∧ w.cell? ⟨g, 1, none⟩ = some a1 ∧ w.cell? ⟨g, 2, none⟩ = some a2 ∧ w.frozen? ⟨g, 0, none⟩ = false ∧ w.frozen? ⟨g, 1, none⟩ = false ∧ w.frozen? ⟨g, 2, none⟩ = false := ⟨(blk_cell h 0).trans rfl, (blk_cell h 1).trans rfl, (blk_cell h 2).trans rfl, blk_frozen h 0, blk_frozen h 1, blk_frozen h 2⟩
theorem cellsF8 {w : World} {g : Nat} {t : TypeId} {a0 a1 a2 a3 a4 a5 a6 a7 : Value} (h : w.heap[g]? = some (.cells #[a0, a1, a2, a3, a4, a5, a6, a7] t (0, 0))) : w.cell? ⟨g, 0, none⟩ = some a0 ∧ w.cell? ⟨g, 1, none⟩ = some a1 ∧ w.cell? ⟨g, 2, none⟩ = some a2 ∧ w.cell? ⟨g, 3, none⟩ = some a3 ∧ w.cell? ⟨g, 4, none⟩ = some a4 ∧ w.cell? ⟨g, 5, none⟩ = some a5 ∧ w.cell? ⟨g, 6, none⟩ = some a6 ∧ w.cell? ⟨g, 7, none⟩ = some a7 ∧ w.frozen? ⟨g, 0, none⟩ = false ∧ w.frozen? ⟨g, 1, none⟩ = false ∧ w.frozen? ⟨g, 2, none⟩ = false ∧ w.frozen? ⟨g, 3, none⟩ = false ∧ w.frozen? ⟨g, 4, none⟩ = false ∧ w.frozen? ⟨g, 5, none⟩ = false ∧ w.frozen? ⟨g, 6, none⟩ = false ∧ w.frozen? ⟨g, 7, none⟩ = false := ⟨(blk_cell h 0).trans rfl, (blk_cell h 1).trans rfl, (blk_cell h 2).trans rfl, (blk_cell h 3).trans rfl, (blk_cell h 4).trans rfl, (blk_cell h 5).trans rfl, (blk_cell h 6).trans rfl, (blk_cell h 7).trans rfl, blk_frozen h 0, blk_frozen h 1, blk_frozen h 2, blk_frozen h 3, blk_frozen h 4, blk_frozen h 5, blk_frozen h 6, blk_frozen h 7⟩
theorem cellsF12 {w : World} {g : Nat} {t : TypeId} {a0 a1 a2 a3 a4 a5 a6 a7 a8 a9 a10 a11 : Value} (h : w.heap[g]? = some (.cells #[a0, a1, a2, a3, a4, a5, a6, a7, a8, a9, a10, a11] t (0, 0))) : w.cell? ⟨g, 0, none⟩ = some a0 ∧ w.cell? ⟨g, 1, none⟩ = some a1 ∧ w.cell? ⟨g, 2, none⟩ = some a2 ∧ w.cell? ⟨g, 3, none⟩ = some a3 ∧ w.cell? ⟨g, 4, none⟩ = some a4 ∧ w.cell? ⟨g, 5, none⟩ = some a5 ∧ w.cell? ⟨g, 6, none⟩ = some a6 ∧ w.cell? ⟨g, 7, none⟩ = some a7 ∧ w.cell? ⟨g, 8, none⟩ = some a8 ∧ w.cell? ⟨g, 9, none⟩ = some a9 ∧ w.cell? ⟨g, 10, none⟩ = some a10 ∧ w.cell? ⟨g, 11, none⟩ = some a11 ∧ w.frozen? ⟨g, 0, none⟩ = false ∧ w.frozen? ⟨g, 1, none⟩ = false ∧ w.frozen? ⟨g, 2, none⟩ = false ∧ w.frozen? ⟨g, 3, none⟩ = false ∧ w.frozen? ⟨g, 4, none⟩ = false ∧ w.frozen? ⟨g, 5, none⟩ = false ∧ w.frozen? ⟨g, 6, none⟩ = false ∧ w.frozen? ⟨g, 7, none⟩ = false ∧ w.frozen? ⟨g, 8, none⟩ = false ∧ w.frozen? ⟨g, 9, none⟩ = false ∧ w.frozen? ⟨g, 10, none⟩ = false ∧ w.frozen? ⟨g, 11, none⟩ = false := ⟨(blk_cell h 0).trans rfl, (blk_cell h 1).trans rfl, (blk_cell h 2).trans rfl, (blk_cell h 3).trans rfl, (blk_cell h 4).trans rfl, (blk_cell h 5).trans rfl, (blk_cell h 6).trans rfl, (blk_cell h 7).trans rfl, (blk_cell h 8).trans rfl, (blk_cell h 9).trans rfl, (blk_cell h 10).trans rfl, (blk_cell h 11).trans rfl, blk_frozen h 0, blk_frozen h 1, blk_frozen h 2, blk_frozen h 3, blk_frozen h 4, blk_frozen h 5, blk_frozen h 6, blk_frozen h 7, blk_frozen h 8, blk_frozen h 9, blk_frozen h 10, blk_frozen h 11⟩
theorem q0_ {p_ : Prop} (h_ : p_ := by repeat (first | (with_reducible first | exact HB.out | apply below_alloc | apply pw_below_drewN | apply below_drew1 | refine below_set ?_ GE192.out) | exact HB.out)) : p_ := h_
theorem q1_ {p_ : Prop} (h_ : p_ := by (with_reducible repeat (first | refine blk_drewN ?_ _ | refine blk_drew ?_ | refine blk_alloc ?_ _)); exact BK192.out) : p_ := h_
theorem q2_ {p_ : Prop} (h_ : p_ := by repeat (first | (with_reducible first | exact HB.out | apply below_alloc | apply pw_below_drewN | apply below_drew1 | refine below_set ?_ GE192.out | refine below_set ?_ GE194.out) | exact HB.out)) : p_ := h_
theorem q3_ {p_ : Prop} (h_ : p_ := by (with_reducible repeat (first | refine blk_drewN ?_ _ | refine blk_drew ?_ | refine blk_alloc ?_ _)); refine blk_put (cs := #[.string ((rd_T44 l0_7 x78_2).f0), .int .i64 ((rd_T44 l0_7 x78_2).f1), .string (⟨#[]⟩ : ByteArray)]) ?_ 2 _ rfl; (with_reducible repeat (first | refine blk_drewN ?_ _ | refine blk_drew ?_ | refine blk_alloc ?_ _)); refine blk_put (cs := #[.string ((rd_T44 l0_7 x78_2).f0), .int .i64 0, .string (⟨#[]⟩ : ByteArray)]) ?_ 1 _ rfl; (with_reducible repeat (first | refine blk_drewN ?_ _ | refine blk_drew ?_ | refine blk_alloc ?_ _)); refine blk_put (cs := #[.string (⟨#[]⟩ : ByteArray), .int .i64 0, .string (⟨#[]⟩ : ByteArray)]) ?_ 0 _ rfl; (with_reducible repeat (first | refine blk_drewN ?_ _ | refine blk_drew ?_ | refine blk_alloc ?_ _)); exact BK194.out) : p_ := h_
theorem q4_ {p_ : Prop} (h_ : p_ := by (with_reducible repeat (first | refine blk_drewN ?_ _ | refine blk_drew ?_ | refine blk_alloc ?_ _)); refine blk_far ?_ NB192_194.out _; (with_reducible repeat (first | refine blk_drewN ?_ _ | refine blk_drew ?_ | refine blk_alloc ?_ _)); refine blk_far ?_ NB192_194.out _; (with_reducible repeat (first | refine blk_drewN ?_ _ | refine blk_drew ?_ | refine blk_alloc ?_ _)); refine blk_far ?_ NB192_194.out _; (with_reducible repeat (first | refine blk_drewN ?_ _ | refine blk_drew ?_ | refine blk_alloc ?_ _)); exact BK192.out) : p_ := h_
theorem q5_ {p_ : Prop} (h_ : p_ := by rw [hg]; exact Nat.ne_of_lt (blk_lt (g := gb192) (o := .cells #[.int .i64 a0_0, .string a0_1, .string a0_2, .bool a0_3, .slice A0_4 l0_4.length c0_4, .string a0_5, .string a0_6, .slice (some ad193) l0_7.length c0_7] 29 (0, 0)) q1_)) : p_ := h_
theorem q6_ {p_ : Prop} (h_ : p_ := by rw [hg]; exact Nat.ne_of_gt (blk_lt (g := gb192) (o := .cells #[.int .i64 a0_0, .string a0_1, .string a0_2, .bool a0_3, .slice A0_4 l0_4.length c0_4, .string a0_5, .string a0_6, .slice (some ad193) l0_7.length c0_7] 29 (0, 0)) q1_)) : p_ := h_
theorem q7_ {p_ : Prop} (h_ : p_ := by (with_reducible repeat (first | refine blk_drewN ?_ _ | refine blk_drew ?_ | refine blk_alloc ?_ _)); exact BK194.out) : p_ := h_
theorem q8_ {p_ : Prop} (h_ : p_ := by first | rfl | (simp; done) | (simp [*]; done)) : p_ := h_
theorem q9_ {p_ : Prop} (h_ : p_ := by repeat (first | (with_reducible first | exact HB.out | apply below_alloc | apply pw_below_drewN | apply below_drew1) | exact HB.out)) : p_ := h_
theorem q10_ {p_ : Prop} (h_ : p_ := by rw [hg]; exact Nat.ne_of_lt (blk_lt (g := gb194) (o := .cells #[.string ((rd_T44 l0_7 x78_2).f0), .int .i64 ((rd_T44 l0_7 x78_2).f1), .string ((rd_T44 l0_7 x78_2).f2)] 44 (0, 0)) q7_)) : p_ := h_
theorem q11_ {p_ : Prop} (h_ : p_ := by rw [hg]; exact Nat.ne_of_gt (blk_lt (g := gb194) (o := .cells #[.string ((rd_T44 l0_7 x78_2).f0), .int .i64 ((rd_T44 l0_7 x78_2).f1), .string ((rd_T44 l0_7 x78_2).f2)] 44 (0, 0)) q7_)) : p_ := h_
theorem q12_ {p_ : Prop} (h_ : p_ := by first | omega | exact Nat.le_refl _) : p_ := h_
theorem q13_ {p_ : Prop} (h_ : p_ := by rw [hg]; exact (below_size q0_)) : p_ := h_
theorem q14_ {p_ : Prop} (h_ : p_ := by rw [hg]; exact (below_size q2_)) : p_ := h_
theorem q15_ {p_ : Prop} (h_ : p_ := by repeat (first | (with_reducible first | exact HB.out | apply below_alloc | apply pw_below_drewN | apply below_drew1 | refine below_set ?_ GE192.out | refine below_set ?_ GE194.out | refine below_set ?_ GE208.out) | exact HB.out)) : p_ := h_
theorem q16_ {p_ : Prop} (h_ : p_ := by first | rfl | (simp [errW_none, errW_some] <;> rfl) | (simp [*, errW_none, errW_some] <;> rfl)) : p_ := h_
theorem q17_ {p_ : Prop} (h_ : p_ := by rw [hg]; exact (below_size q9_)) : p_ := h_
theorem q18_ {p_ : Prop} (h_ : p_ := by first | (with_reducible assumption) | assumption) : p_ := h_
theorem u0_ {p_ : Prop} (h_ : p_ := by first | (go_simp; done) | (go_simp; rfl)) : p_ := h_
end Sx8
open Sx8
mutual
def script_Step_Right.j0 : Nat → Bool → Int → ByteArray → ByteArray → Bool → List ByteArray → ByteArray → ByteArray → List (S44) → Option (Bool)
 | 0, _, _, _, _, _, _, _, _, _ => none
 | k + 1, x74, x193000, x193001, x193002, x193003, x193004, x193005, x193006, x193007 => if x74 = true then (some false) else (script_Step_Right.l0 k x193007 (x193007.length : Int) 0)
def script_Step_Right.l0 : Nat → List (S44) → Int → Int → Option (Bool)
 | 0, _, _, _ => none
 | k + 1, x76, x77, x78 => if x78 < x77 then (if 0 ≤ x78 then (if x78 < (x76.length : Int) then ((script_Arg_Value.f ((rd_T44 x76 x78).f0) ((rd_T44 x76 x78).f1) ((rd_T44 x76 x78).f2)).bind fun bt195 => (if bt195.2.2.2.2.2.2.2.2.2.2.2.2 = true then (script_Step_Right.l0 k x76 x77 (wrap64 (x78 + 1))) else (some false))) else (none)) else (none)) else (some true)
end
def script_Step_Right.f (k : Nat) (a0_0 : Int) (a0_1 : ByteArray) (a0_2 : ByteArray) (a0_3 : Bool) (l0_4 : List ByteArray) (a0_5 : ByteArray) (a0_6 : ByteArray) (l0_7 : List (S44)) : Option (Bool) := if a0_0 < 0 then (script_Step_Right.j0 k true a0_0 a0_1 a0_2 a0_3 l0_4 a0_5 a0_6 l0_7) else (if a0_0 > 2 then (script_Step_Right.j0 k true a0_0 a0_1 a0_2 a0_3 l0_4 a0_5 a0_6 l0_7) else (if a0_0 = 0 then (if a0_0 = 2 then (if a0_1.toList = ([] : List UInt8) then (if a0_0 = 1 then (script_Step_Right.j0 k false a0_0 a0_1 a0_2 a0_3 l0_4 a0_5 a0_6 l0_7) else (if (l0_4.length : Int) > 0 then (script_Step_Right.j0 k true a0_0 a0_1 a0_2 a0_3 l0_4 a0_5 a0_6 l0_7) else (script_Step_Right.j0 k false a0_0 a0_1 a0_2 a0_3 l0_4 a0_5 a0_6 l0_7))) else (script_Step_Right.j0 k true a0_0 a0_1 a0_2 a0_3 l0_4 a0_5 a0_6 l0_7)) else (if a0_0 = 1 then (if a0_5.toList = ([] : List UInt8) then (if a0_6.toList = ([] : List UInt8) then (script_Step_Right.j0 k (decide ((l0_7.length : Int) > 0)) a0_0 a0_1 a0_2 a0_3 l0_4 a0_5 a0_6 l0_7) else (script_Step_Right.j0 k true a0_0 a0_1 a0_2 a0_3 l0_4 a0_5 a0_6 l0_7)) else (script_Step_Right.j0 k true a0_0 a0_1 a0_2 a0_3 l0_4 a0_5 a0_6 l0_7)) else (if (l0_4.length : Int) > 0 then (script_Step_Right.j0 k true a0_0 a0_1 a0_2 a0_3 l0_4 a0_5 a0_6 l0_7) else (if a0_5.toList = ([] : List UInt8) then (if a0_6.toList = ([] : List UInt8) then (script_Step_Right.j0 k (decide ((l0_7.length : Int) > 0)) a0_0 a0_1 a0_2 a0_3 l0_4 a0_5 a0_6 l0_7) else (script_Step_Right.j0 k true a0_0 a0_1 a0_2 a0_3 l0_4 a0_5 a0_6 l0_7)) else (script_Step_Right.j0 k true a0_0 a0_1 a0_2 a0_3 l0_4 a0_5 a0_6 l0_7))))) else (if a0_3 = true then (script_Step_Right.j0 k true a0_0 a0_1 a0_2 a0_3 l0_4 a0_5 a0_6 l0_7) else (if a0_2.toList = ([] : List UInt8) then (if a0_0 = 2 then (if a0_1.toList = ([] : List UInt8) then (if a0_0 = 1 then (script_Step_Right.j0 k false a0_0 a0_1 a0_2 a0_3 l0_4 a0_5 a0_6 l0_7) else (if (l0_4.length : Int) > 0 then (script_Step_Right.j0 k true a0_0 a0_1 a0_2 a0_3 l0_4 a0_5 a0_6 l0_7) else (script_Step_Right.j0 k false a0_0 a0_1 a0_2 a0_3 l0_4 a0_5 a0_6 l0_7))) else (script_Step_Right.j0 k true a0_0 a0_1 a0_2 a0_3 l0_4 a0_5 a0_6 l0_7)) else (if a0_0 = 1 then (if a0_5.toList = ([] : List UInt8) then (if a0_6.toList = ([] : List UInt8) then (script_Step_Right.j0 k (decide ((l0_7.length : Int) > 0)) a0_0 a0_1 a0_2 a0_3 l0_4 a0_5 a0_6 l0_7) else (script_Step_Right.j0 k true a0_0 a0_1 a0_2 a0_3 l0_4 a0_5 a0_6 l0_7)) else (script_Step_Right.j0 k true a0_0 a0_1 a0_2 a0_3 l0_4 a0_5 a0_6 l0_7)) else (if (l0_4.length : Int) > 0 then (script_Step_Right.j0 k true a0_0 a0_1 a0_2 a0_3 l0_4 a0_5 a0_6 l0_7) else (if a0_5.toList = ([] : List UInt8) then (if a0_6.toList = ([] : List UInt8) then (script_Step_Right.j0 k (decide ((l0_7.length : Int) > 0)) a0_0 a0_1 a0_2 a0_3 l0_4 a0_5 a0_6 l0_7) else (script_Step_Right.j0 k true a0_0 a0_1 a0_2 a0_3 l0_4 a0_5 a0_6 l0_7)) else (script_Step_Right.j0 k true a0_0 a0_1 a0_2 a0_3 l0_4 a0_5 a0_6 l0_7))))) else (script_Step_Right.j0 k true a0_0 a0_1 a0_2 a0_3 l0_4 a0_5 a0_6 l0_7)))))
theorem script_Step_Right.mono_l : ∀ k, (∀ y0 y1 y2 y3 y4 y5 y6 y7 y8, LeO (script_Step_Right.j0 k y0 y1 y2 y3 y4 y5 y6 y7 y8) (script_Step_Right.j0 (k + 1) y0 y1 y2 y3 y4 y5 y6 y7 y8)) ∧ (∀ y0 y1 y2, LeO (script_Step_Right.l0 k y0 y1 y2) (script_Step_Right.l0 (k + 1) y0 y1 y2))
 | 0 => ⟨fun _ _ _ _ _ _ _ _ _ r h => by simp [script_Step_Right.j0] at h, fun _ _ _ r h => by simp [script_Step_Right.l0] at h⟩
 | k + 1 => by
  obtain ⟨ih0, ih1⟩ := script_Step_Right.mono_l k
  refine ⟨?_, ?_⟩
  ·intro y0 y1 y2 y3 y4 y5 y6 y7 y8
   unfold script_Step_Right.j0
   repeat' first
   | (with_reducible exact ih0 _ _ _ _ _ _ _ _ _)
   | (with_reducible exact ih1 _ _ _)
   | (with_reducible exact LeO.refl _)
   | (with_reducible exact LeO.none _)
   | (with_reducible refine LeO.ite ?_ ?_)
   | (with_reducible refine LeO.bind ?_ (fun _ => ?_))
   | exact ih0 _ _ _ _ _ _ _ _ _
   | exact ih1 _ _ _
   | exact LeO.none _
   | refine LeO.ite ?_ ?_
   | refine LeO.bind ?_ (fun _ => ?_)
  ·intro y0 y1 y2
   unfold script_Step_Right.l0
   repeat' first
   | (with_reducible exact ih0 _ _ _ _ _ _ _ _ _)
   | (with_reducible exact ih1 _ _ _)
   | (with_reducible exact LeO.refl _)
   | (with_reducible exact LeO.none _)
   | (with_reducible refine LeO.ite ?_ ?_)
   | (with_reducible refine LeO.bind ?_ (fun _ => ?_))
   | exact ih0 _ _ _ _ _ _ _ _ _
   | exact ih1 _ _ _
   | exact LeO.none _
   | refine LeO.ite ?_ ?_
   | refine LeO.bind ?_ (fun _ => ?_)
theorem script_Step_Right.mono : ∀ a0 a1 a2 a3 a4 a5 a6 a7 k, LeO (script_Step_Right.f k a0 a1 a2 a3 a4 a5 a6 a7) (script_Step_Right.f (k + 1) a0 a1 a2 a3 a4 a5 a6 a7) := by
 intro a0 a1 a2 a3 a4 a5 a6 a7 k
 obtain ⟨ih0, ih1⟩ := script_Step_Right.mono_l k
 unfold script_Step_Right.f
 repeat' first
   | (with_reducible exact ih0 _ _ _ _ _ _ _ _ _)
   | (with_reducible exact ih1 _ _ _)
   | (with_reducible exact LeO.refl _)
   | (with_reducible exact LeO.none _)
   | (with_reducible refine LeO.ite ?_ ?_)
   | (with_reducible refine LeO.bind ?_ (fun _ => ?_))
   | exact ih0 _ _ _ _ _ _ _ _ _
   | exact ih1 _ _ _
   | exact LeO.none _
   | refine LeO.ite ?_ ?_
   | refine LeO.bind ?_ (fun _ => ?_)
set_option maxHeartbeats 8000000 in
set_option maxRecDepth 100000 in
theorem script_Step_Right.calls (k : Nat) (a0_0 : Int) (a0_1 : ByteArray) (a0_2 : ByteArray) (a0_3 : Bool) (A0_4 : Option Addr) (c0_4 : Nat) (l0_4 : List ByteArray) (a0_5 : ByteArray) (a0_6 : ByteArray) (A0_7 : Option Addr) (c0_7 : Nat) (l0_7 : List (S44)) (r : Bool) (w : World) (hr0_4 : Kd.C Kd.string w A0_4 l0_4.length l0_4) (hc0_4 : l0_4.length ≤ c0_4) (hr0_7 : Kd.C k44 w A0_7 l0_7.length l0_7) (hc0_7 : l0_7.length ≤ c0_7) (h : script_Step_Right.f k a0_0 a0_1 a0_2 a0_3 l0_4 a0_5 a0_6 l0_7 = some r) (HT0_ : Tab_ w := by exact Tab_.step HT0_ (by repeat (first | (with_reducible first | exact HB.out | apply below_alloc | apply pw_below_drewN | apply below_drew1 | refine below_set ?_ (Aside0.out (by assumption))) | exact HB.out))) (HP0_ : TabP_ w := by exact TabP_.step HP0_ (by repeat (first | (with_reducible first | exact HB.out | apply below_alloc | apply pw_below_drewN | apply below_drew1 | refine below_set ?_ (Aside0.out (by assumption))) | exact HB.out))) (HE0_ : TabE_ w := by exact TabE_.step HE0_ (by repeat (first | (with_reducible first | exact HB.out | apply below_alloc | apply pw_below_drewN | apply below_drew1 | refine below_set ?_ (Aside0.out (by assumption))) | exact HB.out))) :
  Calls Tryz.prog 11 #[.agg #[.int .i64 a0_0, .string a0_1, .string a0_2, .bool a0_3, .slice A0_4 l0_4.length c0_4, .string a0_5, .string a0_6, .slice A0_7 l0_7.length c0_7]] w fun e w' => e = .returned (.bool r) ∧ Below w.heap.size w w' := by
 have hu29 := Tryz.underlying29
 have hu44 := Tryz.underlying44
 have hu51 := Tryz.underlying51
 have HR0_4 := Aside0.mk hr0_4
 have HC0_4 := Aside0.mk hc0_4
 clear hr0_4 hc0_4
 have HR0_7 := Aside0.mk hr0_7
 have HC0_7 := Aside0.mk hc0_7
 clear hr0_7 hc0_7
 have HB := Aside0.mk (Below.refl w.heap.size w)
 have H : (if a0_0 < 0 then (script_Step_Right.j0 k true a0_0 a0_1 a0_2 a0_3 l0_4 a0_5 a0_6 l0_7) else (if a0_0 > 2 then (script_Step_Right.j0 k true a0_0 a0_1 a0_2 a0_3 l0_4 a0_5 a0_6 l0_7) else (if a0_0 = 0 then (if a0_0 = 2 then (if a0_1.toList = ([] : List UInt8) then (if a0_0 = 1 then (script_Step_Right.j0 k false a0_0 a0_1 a0_2 a0_3 l0_4 a0_5 a0_6 l0_7) else (if (l0_4.length : Int) > 0 then (script_Step_Right.j0 k true a0_0 a0_1 a0_2 a0_3 l0_4 a0_5 a0_6 l0_7) else (script_Step_Right.j0 k false a0_0 a0_1 a0_2 a0_3 l0_4 a0_5 a0_6 l0_7))) else (script_Step_Right.j0 k true a0_0 a0_1 a0_2 a0_3 l0_4 a0_5 a0_6 l0_7)) else (if a0_0 = 1 then (if a0_5.toList = ([] : List UInt8) then (if a0_6.toList = ([] : List UInt8) then (script_Step_Right.j0 k (decide ((l0_7.length : Int) > 0)) a0_0 a0_1 a0_2 a0_3 l0_4 a0_5 a0_6 l0_7) else (script_Step_Right.j0 k true a0_0 a0_1 a0_2 a0_3 l0_4 a0_5 a0_6 l0_7)) else (script_Step_Right.j0 k true a0_0 a0_1 a0_2 a0_3 l0_4 a0_5 a0_6 l0_7)) else (if (l0_4.length : Int) > 0 then (script_Step_Right.j0 k true a0_0 a0_1 a0_2 a0_3 l0_4 a0_5 a0_6 l0_7) else (if a0_5.toList = ([] : List UInt8) then (if a0_6.toList = ([] : List UInt8) then (script_Step_Right.j0 k (decide ((l0_7.length : Int) > 0)) a0_0 a0_1 a0_2 a0_3 l0_4 a0_5 a0_6 l0_7) else (script_Step_Right.j0 k true a0_0 a0_1 a0_2 a0_3 l0_4 a0_5 a0_6 l0_7)) else (script_Step_Right.j0 k true a0_0 a0_1 a0_2 a0_3 l0_4 a0_5 a0_6 l0_7))))) else (if a0_3 = true then (script_Step_Right.j0 k true a0_0 a0_1 a0_2 a0_3 l0_4 a0_5 a0_6 l0_7) else (if a0_2.toList = ([] : List UInt8) then (if a0_0 = 2 then (if a0_1.toList = ([] : List UInt8) then (if a0_0 = 1 then (script_Step_Right.j0 k false a0_0 a0_1 a0_2 a0_3 l0_4 a0_5 a0_6 l0_7) else (if (l0_4.length : Int) > 0 then (script_Step_Right.j0 k true a0_0 a0_1 a0_2 a0_3 l0_4 a0_5 a0_6 l0_7) else (script_Step_Right.j0 k false a0_0 a0_1 a0_2 a0_3 l0_4 a0_5 a0_6 l0_7))) else (script_Step_Right.j0 k true a0_0 a0_1 a0_2 a0_3 l0_4 a0_5 a0_6 l0_7)) else (if a0_0 = 1 then (if a0_5.toList = ([] : List UInt8) then (if a0_6.toList = ([] : List UInt8) then (script_Step_Right.j0 k (decide ((l0_7.length : Int) > 0)) a0_0 a0_1 a0_2 a0_3 l0_4 a0_5 a0_6 l0_7) else (script_Step_Right.j0 k true a0_0 a0_1 a0_2 a0_3 l0_4 a0_5 a0_6 l0_7)) else (script_Step_Right.j0 k true a0_0 a0_1 a0_2 a0_3 l0_4 a0_5 a0_6 l0_7)) else (if (l0_4.length : Int) > 0 then (script_Step_Right.j0 k true a0_0 a0_1 a0_2 a0_3 l0_4 a0_5 a0_6 l0_7) else (if a0_5.toList = ([] : List UInt8) then (if a0_6.toList = ([] : List UInt8) then (script_Step_Right.j0 k (decide ((l0_7.length : Int) > 0)) a0_0 a0_1 a0_2 a0_3 l0_4 a0_5 a0_6 l0_7) else (script_Step_Right.j0 k true a0_0 a0_1 a0_2 a0_3 l0_4 a0_5 a0_6 l0_7)) else (script_Step_Right.j0 k true a0_0 a0_1 a0_2 a0_3 l0_4 a0_5 a0_6 l0_7))))) else (script_Step_Right.j0 k true a0_0 a0_1 a0_2 a0_3 l0_4 a0_5 a0_6 l0_7)))))) = some r := h
 clear h
 have HC2 := Aside0.mk H
 clear H
 go_enter Tryz.func11, Tryz.ntmps11
 go_upto_region 2 with (first | ((with_reducible refine gate_dst (N := 1) rfl ?_); (try (refine gate_guard (by rfl) ?_; dsimp only)); refine box_event ?hg (N := 1) ?hd (cs := #[.int .i64 a0_0, .string a0_1, .string a0_2, .bool a0_3, .slice A0_4 l0_4.length c0_4, .string a0_5, .string a0_6, .slice A0_7 l0_7.length c0_7]) (t := 29) ?hr ?_; (case hd => rfl); (case hg => rfl); (case hr => exact u0_); intro gb192 hg w3 hbox hb; have BK192 := Aside0.mk (hbox); have GW192 := Aside0.mk ((q17_ : w.heap.size ≤ gb192)); have GE192 := Aside0.mk ((q17_ : w.heap.size ≤ gb192)); replace HB := Aside0.mk (below_step q9_ hb); clear hb hbox hg; obtain ⟨hcz4_0, hcz4_1, hcz4_2, hcz4_3, hcz4_4, hcz4_5, hcz4_6, hcz4_7, hfz4_0, hfz4_1, hfz4_2, hfz4_3, hfz4_4, hfz4_5, hfz4_6, hfz4_7⟩ := cellsF8 BK192.out))
 repeat (go_quiet (fail); go_upto_region 2 with (fail))
 (try simp only [Act.put, List.setIfInBounds_toArray, List.set_cons_zero, List.set_cons_succ])
 go_cut [74] (fun v74 wc => ∃ (kq : Nat) (x74_1 : Bool), v74 = .bool x74_1 ∧ Aside0 (script_Step_Right.j0 kq x74_1 a0_0 a0_1 a0_2 a0_3 l0_4 a0_5 a0_6 l0_7 = some r) ∧ Aside0 (kq ≤ k) ∧ Aside0 (wc.heap[gb192]? = some (.cells #[.int .i64 a0_0, .string a0_1, .string a0_2, .bool a0_3, (.slice A0_4 l0_4.length c0_4), .string a0_5, .string a0_6, (.slice A0_7 l0_7.length c0_7)] 29 (0, 0))) ∧ Aside0 (Below w.heap.size w wc))
 case first =>
  have H := HC2.out
  clear HC2
  by_cases c5 : a0_0 < 0
  ·rw [if_pos c5] at H
   have c5b0 : decide (a0_0 < 0) = true := decide_eq_true c5
   clear c5
   (first | rw [c5b0] | (simp only [i64_w, i32_w]; rw [c5b0]) | skip)
   have H' := Aside0.mk H
   clear H
   obtain ⟨hcz6_0, hcz6_1, hcz6_2, hcz6_3, hcz6_4, hcz6_5, hcz6_6, hcz6_7, hfz6_0, hfz6_1, hfz6_2, hfz6_3, hfz6_4, hfz6_5, hfz6_6, hfz6_7⟩ := cellsF8 BK192.out
   go_wp2
   repeat (go_quiet (fail); try go_wp2)
   (first | go_meet | (refine Met.intro ?_; go_step; (try rw [show (a0_0 == 0) = true by assumption]); (try rw [show (a0_0 == 0) = false by assumption]); (try rw [show (a0_0 == 2) = true by assumption]); (try rw [show (a0_0 == 2) = false by assumption]); (repeat apply Exists.intro); refine ⟨?rel, rfl⟩))
   case rel => exact ⟨_, (true), q8_, H', ⟨q12_⟩, ⟨q1_⟩, ⟨q0_⟩⟩
  ·rw [if_neg c5] at H
   have c5b0 : decide (a0_0 < 0) = false := decide_eq_false c5
   clear c5
   (first | rw [c5b0] | (simp only [i64_w, i32_w]; rw [c5b0]) | skip)
   by_cases c7 : a0_0 > 2
   ·rw [if_pos c7] at H
    have c7b0 : decide (2 < a0_0) = true := decide_eq_true c7
    clear c7
    have H' := Aside0.mk H
    clear H
    obtain ⟨hcz8_0, hcz8_1, hcz8_2, hcz8_3, hcz8_4, hcz8_5, hcz8_6, hcz8_7, hfz8_0, hfz8_1, hfz8_2, hfz8_3, hfz8_4, hfz8_5, hfz8_6, hfz8_7⟩ := cellsF8 BK192.out
    go_wp2
    repeat (go_quiet (fail); try go_wp2)
    (first | go_meet | (refine Met.intro ?_; go_step; (try rw [show (a0_0 == 0) = true by assumption]); (try rw [show (a0_0 == 0) = false by assumption]); (try rw [show (a0_0 == 2) = true by assumption]); (try rw [show (a0_0 == 2) = false by assumption]); (repeat apply Exists.intro); refine ⟨?rel, rfl⟩))
    case rel => exact ⟨_, (true), q8_, H', ⟨q12_⟩, ⟨q1_⟩, ⟨q0_⟩⟩
   ·rw [if_neg c7] at H
    have c7b0 : decide (2 < a0_0) = false := decide_eq_false c7
    clear c7
    by_cases c9 : a0_0 = 0
    ·rw [if_pos c9] at H
     have c9b0 : (a0_0 == 0) = true := beq_iff_eq.mpr c9
     have c9b1 : (a0_0 != 0) = false := bne_eq_false_iff_eq.mpr c9
     clear c9
     by_cases c10 : a0_0 = 2
     ·rw [if_pos c10] at H
      have c10b0 : (a0_0 == 2) = true := beq_iff_eq.mpr c10
      have c10b1 : (a0_0 != 2) = false := bne_eq_false_iff_eq.mpr c10
      clear c10
      by_cases c11 : a0_1.toList = ([] : List UInt8)
      ·rw [if_pos c11] at H
       have c11b0 : (a0_1.toList == ([] : List UInt8)) = true := beq_iff_eq.mpr c11
       have c11b1 : (a0_1.toList != ([] : List UInt8)) = false := bne_eq_false_iff_eq.mpr c11
       clear c11
       by_cases c12 : a0_0 = 1
       ·rw [if_pos c12] at H
        have c12b0 : (a0_0 == 1) = true := beq_iff_eq.mpr c12
        have c12b1 : (a0_0 != 1) = false := bne_eq_false_iff_eq.mpr c12
        clear c12
        have H' := Aside0.mk H
        clear H
        obtain ⟨hcz13_0, hcz13_1, hcz13_2, hcz13_3, hcz13_4, hcz13_5, hcz13_6, hcz13_7, hfz13_0, hfz13_1, hfz13_2, hfz13_3, hfz13_4, hfz13_5, hfz13_6, hfz13_7⟩ := cellsF8 BK192.out
        go_wp2
        repeat (go_quiet (fail); try go_wp2)
        (first | go_meet | (refine Met.intro ?_; go_step; (try rw [show (a0_0 == 0) = true by assumption]); (try rw [show (a0_0 == 0) = false by assumption]); (try rw [show (a0_0 == 2) = true by assumption]); (try rw [show (a0_0 == 2) = false by assumption]); (repeat apply Exists.intro); refine ⟨?rel, rfl⟩))
        case rel => exact ⟨_, (false), q8_, H', ⟨q12_⟩, ⟨q1_⟩, ⟨q0_⟩⟩
       ·rw [if_neg c12] at H
        have c12b0 : (a0_0 == 1) = false := beq_eq_false_iff_ne.mpr c12
        have c12b1 : (a0_0 != 1) = true := bne_iff_ne.mpr c12
        by_cases c14 : (l0_4.length : Int) > 0
        ·rw [if_pos c14] at H
         have c14b0 : decide (0 < (l0_4.length : Int)) = true := decide_eq_true c14
         have c14b1 : decide (0 < l0_4.length) = true := decide_eq_true (by omega)
         clear c14
         have H' := Aside0.mk H
         clear H
         obtain ⟨hcz15_0, hcz15_1, hcz15_2, hcz15_3, hcz15_4, hcz15_5, hcz15_6, hcz15_7, hfz15_0, hfz15_1, hfz15_2, hfz15_3, hfz15_4, hfz15_5, hfz15_6, hfz15_7⟩ := cellsF8 BK192.out
         go_wp2
         repeat (go_quiet (fail); try go_wp2)
         (first | go_meet | (refine Met.intro ?_; go_step; (try rw [show (a0_0 == 0) = true by assumption]); (try rw [show (a0_0 == 0) = false by assumption]); (try rw [show (a0_0 == 2) = true by assumption]); (try rw [show (a0_0 == 2) = false by assumption]); (repeat apply Exists.intro); refine ⟨?rel, rfl⟩))
         case rel => exact ⟨_, (true), q8_, H', ⟨q12_⟩, ⟨q1_⟩, ⟨q0_⟩⟩
        ·rw [if_neg c14] at H
         have c14b0 : decide (0 < (l0_4.length : Int)) = false := decide_eq_false c14
         have c14b1 : decide (0 < l0_4.length) = false := decide_eq_false (by omega)
         clear c14
         have H' := Aside0.mk H
         clear H
         obtain ⟨hcz16_0, hcz16_1, hcz16_2, hcz16_3, hcz16_4, hcz16_5, hcz16_6, hcz16_7, hfz16_0, hfz16_1, hfz16_2, hfz16_3, hfz16_4, hfz16_5, hfz16_6, hfz16_7⟩ := cellsF8 BK192.out
         go_wp2
         repeat (go_quiet (fail); try go_wp2)
         (first | go_meet | (refine Met.intro ?_; go_step; (try rw [show (a0_0 == 0) = true by assumption]); (try rw [show (a0_0 == 0) = false by assumption]); (try rw [show (a0_0 == 2) = true by assumption]); (try rw [show (a0_0 == 2) = false by assumption]); (repeat apply Exists.intro); refine ⟨?rel, rfl⟩))
         case rel => exact ⟨_, (false), q8_, H', ⟨q12_⟩, ⟨q1_⟩, ⟨q0_⟩⟩
      ·rw [if_neg c11] at H
       have c11b0 : (a0_1.toList == ([] : List UInt8)) = false := beq_eq_false_iff_ne.mpr c11
       have c11b1 : (a0_1.toList != ([] : List UInt8)) = true := bne_iff_ne.mpr c11
       have H' := Aside0.mk H
       clear H
       obtain ⟨hcz17_0, hcz17_1, hcz17_2, hcz17_3, hcz17_4, hcz17_5, hcz17_6, hcz17_7, hfz17_0, hfz17_1, hfz17_2, hfz17_3, hfz17_4, hfz17_5, hfz17_6, hfz17_7⟩ := cellsF8 BK192.out
       go_wp2
       repeat (go_quiet (fail); try go_wp2)
       (first | go_meet | (refine Met.intro ?_; go_step; (try rw [show (a0_0 == 0) = true by assumption]); (try rw [show (a0_0 == 0) = false by assumption]); (try rw [show (a0_0 == 2) = true by assumption]); (try rw [show (a0_0 == 2) = false by assumption]); (repeat apply Exists.intro); refine ⟨?rel, rfl⟩))
       case rel => exact ⟨_, (true), q8_, H', ⟨q12_⟩, ⟨q1_⟩, ⟨q0_⟩⟩
     ·rw [if_neg c10] at H
      have c10b0 : (a0_0 == 2) = false := beq_eq_false_iff_ne.mpr c10
      have c10b1 : (a0_0 != 2) = true := bne_iff_ne.mpr c10
      by_cases c18 : a0_0 = 1
      ·rw [if_pos c18] at H
       have c18b0 : (a0_0 == 1) = true := beq_iff_eq.mpr c18
       have c18b1 : (a0_0 != 1) = false := bne_eq_false_iff_eq.mpr c18
       clear c18
       by_cases c19 : a0_5.toList = ([] : List UInt8)
       ·rw [if_pos c19] at H
        have c19b0 : (a0_5.toList == ([] : List UInt8)) = true := beq_iff_eq.mpr c19
        have c19b1 : (a0_5.toList != ([] : List UInt8)) = false := bne_eq_false_iff_eq.mpr c19
        clear c19
        by_cases c20 : a0_6.toList = ([] : List UInt8)
        ·rw [if_pos c20] at H
         have c20b0 : (a0_6.toList == ([] : List UInt8)) = true := beq_iff_eq.mpr c20
         have c20b1 : (a0_6.toList != ([] : List UInt8)) = false := bne_eq_false_iff_eq.mpr c20
         clear c20
         have H' := Aside0.mk H
         clear H
         obtain ⟨hcz21_0, hcz21_1, hcz21_2, hcz21_3, hcz21_4, hcz21_5, hcz21_6, hcz21_7, hfz21_0, hfz21_1, hfz21_2, hfz21_3, hfz21_4, hfz21_5, hfz21_6, hfz21_7⟩ := cellsF8 BK192.out
         go_wp2
         repeat (go_quiet (fail); try go_wp2)
         (first | go_meet | (refine Met.intro ?_; go_step; (try rw [show (a0_0 == 0) = true by assumption]); (try rw [show (a0_0 == 0) = false by assumption]); (try rw [show (a0_0 == 2) = true by assumption]); (try rw [show (a0_0 == 2) = false by assumption]); (repeat apply Exists.intro); refine ⟨?rel, rfl⟩))
         case rel => exact ⟨_, (decide ((l0_7.length : Int) > 0)), q8_, H', ⟨q12_⟩, ⟨q1_⟩, ⟨q0_⟩⟩
        ·rw [if_neg c20] at H
         have c20b0 : (a0_6.toList == ([] : List UInt8)) = false := beq_eq_false_iff_ne.mpr c20
         have c20b1 : (a0_6.toList != ([] : List UInt8)) = true := bne_iff_ne.mpr c20
         have H' := Aside0.mk H
         clear H
         obtain ⟨hcz22_0, hcz22_1, hcz22_2, hcz22_3, hcz22_4, hcz22_5, hcz22_6, hcz22_7, hfz22_0, hfz22_1, hfz22_2, hfz22_3, hfz22_4, hfz22_5, hfz22_6, hfz22_7⟩ := cellsF8 BK192.out
         go_wp2
         repeat (go_quiet (fail); try go_wp2)
         (first | go_meet | (refine Met.intro ?_; go_step; (try rw [show (a0_0 == 0) = true by assumption]); (try rw [show (a0_0 == 0) = false by assumption]); (try rw [show (a0_0 == 2) = true by assumption]); (try rw [show (a0_0 == 2) = false by assumption]); (repeat apply Exists.intro); refine ⟨?rel, rfl⟩))
         case rel => exact ⟨_, (true), q8_, H', ⟨q12_⟩, ⟨q1_⟩, ⟨q0_⟩⟩
       ·rw [if_neg c19] at H
        have c19b0 : (a0_5.toList == ([] : List UInt8)) = false := beq_eq_false_iff_ne.mpr c19
        have c19b1 : (a0_5.toList != ([] : List UInt8)) = true := bne_iff_ne.mpr c19
        have H' := Aside0.mk H
        clear H
        obtain ⟨hcz23_0, hcz23_1, hcz23_2, hcz23_3, hcz23_4, hcz23_5, hcz23_6, hcz23_7, hfz23_0, hfz23_1, hfz23_2, hfz23_3, hfz23_4, hfz23_5, hfz23_6, hfz23_7⟩ := cellsF8 BK192.out
        go_wp2
        repeat (go_quiet (fail); try go_wp2)
        (first | go_meet | (refine Met.intro ?_; go_step; (try rw [show (a0_0 == 0) = true by assumption]); (try rw [show (a0_0 == 0) = false by assumption]); (try rw [show (a0_0 == 2) = true by assumption]); (try rw [show (a0_0 == 2) = false by assumption]); (repeat apply Exists.intro); refine ⟨?rel, rfl⟩))
        case rel => exact ⟨_, (true), q8_, H', ⟨q12_⟩, ⟨q1_⟩, ⟨q0_⟩⟩
      ·rw [if_neg c18] at H
       have c18b0 : (a0_0 == 1) = false := beq_eq_false_iff_ne.mpr c18
       have c18b1 : (a0_0 != 1) = true := bne_iff_ne.mpr c18
       by_cases c24 : (l0_4.length : Int) > 0
       ·rw [if_pos c24] at H
        have c24b0 : decide (0 < (l0_4.length : Int)) = true := decide_eq_true c24
        have c24b1 : decide (0 < l0_4.length) = true := decide_eq_true (by omega)
        clear c24
        have H' := Aside0.mk H
        clear H
        obtain ⟨hcz25_0, hcz25_1, hcz25_2, hcz25_3, hcz25_4, hcz25_5, hcz25_6, hcz25_7, hfz25_0, hfz25_1, hfz25_2, hfz25_3, hfz25_4, hfz25_5, hfz25_6, hfz25_7⟩ := cellsF8 BK192.out
        go_wp2
        repeat (go_quiet (fail); try go_wp2)
        (first | go_meet | (refine Met.intro ?_; go_step; (try rw [show (a0_0 == 0) = true by assumption]); (try rw [show (a0_0 == 0) = false by assumption]); (try rw [show (a0_0 == 2) = true by assumption]); (try rw [show (a0_0 == 2) = false by assumption]); (repeat apply Exists.intro); refine ⟨?rel, rfl⟩))
        case rel => exact ⟨_, (true), q8_, H', ⟨q12_⟩, ⟨q1_⟩, ⟨q0_⟩⟩
       ·rw [if_neg c24] at H
        have c24b0 : decide (0 < (l0_4.length : Int)) = false := decide_eq_false c24
        have c24b1 : decide (0 < l0_4.length) = false := decide_eq_false (by omega)
        clear c24
        by_cases c26 : a0_5.toList = ([] : List UInt8)
        ·rw [if_pos c26] at H
         have c26b0 : (a0_5.toList == ([] : List UInt8)) = true := beq_iff_eq.mpr c26
         have c26b1 : (a0_5.toList != ([] : List UInt8)) = false := bne_eq_false_iff_eq.mpr c26
         clear c26
         by_cases c27 : a0_6.toList = ([] : List UInt8)
         ·rw [if_pos c27] at H
          have c27b0 : (a0_6.toList == ([] : List UInt8)) = true := beq_iff_eq.mpr c27
          have c27b1 : (a0_6.toList != ([] : List UInt8)) = false := bne_eq_false_iff_eq.mpr c27
          clear c27
          have H' := Aside0.mk H
          clear H
          obtain ⟨hcz28_0, hcz28_1, hcz28_2, hcz28_3, hcz28_4, hcz28_5, hcz28_6, hcz28_7, hfz28_0, hfz28_1, hfz28_2, hfz28_3, hfz28_4, hfz28_5, hfz28_6, hfz28_7⟩ := cellsF8 BK192.out
          go_wp2
          repeat (go_quiet (fail); try go_wp2)
          (first | go_meet | (refine Met.intro ?_; go_step; (try rw [show (a0_0 == 0) = true by assumption]); (try rw [show (a0_0 == 0) = false by assumption]); (try rw [show (a0_0 == 2) = true by assumption]); (try rw [show (a0_0 == 2) = false by assumption]); (repeat apply Exists.intro); refine ⟨?rel, rfl⟩))
          case rel => exact ⟨_, (decide ((l0_7.length : Int) > 0)), q8_, H', ⟨q12_⟩, ⟨q1_⟩, ⟨q0_⟩⟩
         ·rw [if_neg c27] at H
          have c27b0 : (a0_6.toList == ([] : List UInt8)) = false := beq_eq_false_iff_ne.mpr c27
          have c27b1 : (a0_6.toList != ([] : List UInt8)) = true := bne_iff_ne.mpr c27
          have H' := Aside0.mk H
          clear H
          obtain ⟨hcz29_0, hcz29_1, hcz29_2, hcz29_3, hcz29_4, hcz29_5, hcz29_6, hcz29_7, hfz29_0, hfz29_1, hfz29_2, hfz29_3, hfz29_4, hfz29_5, hfz29_6, hfz29_7⟩ := cellsF8 BK192.out
          go_wp2
          repeat (go_quiet (fail); try go_wp2)
          (first | go_meet | (refine Met.intro ?_; go_step; (try rw [show (a0_0 == 0) = true by assumption]); (try rw [show (a0_0 == 0) = false by assumption]); (try rw [show (a0_0 == 2) = true by assumption]); (try rw [show (a0_0 == 2) = false by assumption]); (repeat apply Exists.intro); refine ⟨?rel, rfl⟩))
          case rel => exact ⟨_, (true), q8_, H', ⟨q12_⟩, ⟨q1_⟩, ⟨q0_⟩⟩
        ·rw [if_neg c26] at H
         have c26b0 : (a0_5.toList == ([] : List UInt8)) = false := beq_eq_false_iff_ne.mpr c26
         have c26b1 : (a0_5.toList != ([] : List UInt8)) = true := bne_iff_ne.mpr c26
         have H' := Aside0.mk H
         clear H
         obtain ⟨hcz30_0, hcz30_1, hcz30_2, hcz30_3, hcz30_4, hcz30_5, hcz30_6, hcz30_7, hfz30_0, hfz30_1, hfz30_2, hfz30_3, hfz30_4, hfz30_5, hfz30_6, hfz30_7⟩ := cellsF8 BK192.out
         go_wp2
         repeat (go_quiet (fail); try go_wp2)
         (first | go_meet | (refine Met.intro ?_; go_step; (try rw [show (a0_0 == 0) = true by assumption]); (try rw [show (a0_0 == 0) = false by assumption]); (try rw [show (a0_0 == 2) = true by assumption]); (try rw [show (a0_0 == 2) = false by assumption]); (repeat apply Exists.intro); refine ⟨?rel, rfl⟩))
         case rel => exact ⟨_, (true), q8_, H', ⟨q12_⟩, ⟨q1_⟩, ⟨q0_⟩⟩
    ·rw [if_neg c9] at H
     have c9b0 : (a0_0 == 0) = false := beq_eq_false_iff_ne.mpr c9
     have c9b1 : (a0_0 != 0) = true := bne_iff_ne.mpr c9
     by_cases c31 : a0_3 = true
     ·subst c31
      have H1 : (script_Step_Right.j0 k true a0_0 a0_1 a0_2 true l0_4 a0_5 a0_6 l0_7) = some r := by rw [if_pos rfl] at H; exact H
      clear H
      have H := H1
      clear H1
      have H' := Aside0.mk H
      clear H
      obtain ⟨hcz32_0, hcz32_1, hcz32_2, hcz32_3, hcz32_4, hcz32_5, hcz32_6, hcz32_7, hfz32_0, hfz32_1, hfz32_2, hfz32_3, hfz32_4, hfz32_5, hfz32_6, hfz32_7⟩ := cellsF8 BK192.out
      go_wp2
      repeat (go_quiet (fail); try go_wp2)
      (first | go_meet | (refine Met.intro ?_; go_step; (try rw [show (a0_0 == 0) = true by assumption]); (try rw [show (a0_0 == 0) = false by assumption]); (try rw [show (a0_0 == 2) = true by assumption]); (try rw [show (a0_0 == 2) = false by assumption]); (repeat apply Exists.intro); refine ⟨?rel, rfl⟩))
      case rel => exact ⟨_, (true), q8_, H', ⟨q12_⟩, ⟨q1_⟩, ⟨q0_⟩⟩
     ·replace c31 := Bool.eq_false_iff.mpr c31
      subst c31
      have H1 : (if a0_2.toList = ([] : List UInt8) then (if a0_0 = 2 then (if a0_1.toList = ([] : List UInt8) then (if a0_0 = 1 then (script_Step_Right.j0 k false a0_0 a0_1 a0_2 false l0_4 a0_5 a0_6 l0_7) else (if (l0_4.length : Int) > 0 then (script_Step_Right.j0 k true a0_0 a0_1 a0_2 false l0_4 a0_5 a0_6 l0_7) else (script_Step_Right.j0 k false a0_0 a0_1 a0_2 false l0_4 a0_5 a0_6 l0_7))) else (script_Step_Right.j0 k true a0_0 a0_1 a0_2 false l0_4 a0_5 a0_6 l0_7)) else (if a0_0 = 1 then (if a0_5.toList = ([] : List UInt8) then (if a0_6.toList = ([] : List UInt8) then (script_Step_Right.j0 k (decide ((l0_7.length : Int) > 0)) a0_0 a0_1 a0_2 false l0_4 a0_5 a0_6 l0_7) else (script_Step_Right.j0 k true a0_0 a0_1 a0_2 false l0_4 a0_5 a0_6 l0_7)) else (script_Step_Right.j0 k true a0_0 a0_1 a0_2 false l0_4 a0_5 a0_6 l0_7)) else (if (l0_4.length : Int) > 0 then (script_Step_Right.j0 k true a0_0 a0_1 a0_2 false l0_4 a0_5 a0_6 l0_7) else (if a0_5.toList = ([] : List UInt8) then (if a0_6.toList = ([] : List UInt8) then (script_Step_Right.j0 k (decide ((l0_7.length : Int) > 0)) a0_0 a0_1 a0_2 false l0_4 a0_5 a0_6 l0_7) else (script_Step_Right.j0 k true a0_0 a0_1 a0_2 false l0_4 a0_5 a0_6 l0_7)) else (script_Step_Right.j0 k true a0_0 a0_1 a0_2 false l0_4 a0_5 a0_6 l0_7))))) else (script_Step_Right.j0 k true a0_0 a0_1 a0_2 false l0_4 a0_5 a0_6 l0_7)) = some r := by rw [if_neg (show ¬ (false = true) by decide)] at H; exact H
      clear H
      have H := H1
      clear H1
      by_cases c33 : a0_2.toList = ([] : List UInt8)
      ·rw [if_pos c33] at H
       have c33b0 : (a0_2.toList == ([] : List UInt8)) = true := beq_iff_eq.mpr c33
       have c33b1 : (a0_2.toList != ([] : List UInt8)) = false := bne_eq_false_iff_eq.mpr c33
       clear c33
       by_cases c34 : a0_0 = 2
       ·rw [if_pos c34] at H
        have c34b0 : (a0_0 == 2) = true := beq_iff_eq.mpr c34
        have c34b1 : (a0_0 != 2) = false := bne_eq_false_iff_eq.mpr c34
        clear c34
        by_cases c35 : a0_1.toList = ([] : List UInt8)
        ·rw [if_pos c35] at H
         have c35b0 : (a0_1.toList == ([] : List UInt8)) = true := beq_iff_eq.mpr c35
         have c35b1 : (a0_1.toList != ([] : List UInt8)) = false := bne_eq_false_iff_eq.mpr c35
         clear c35
         by_cases c36 : a0_0 = 1
         ·rw [if_pos c36] at H
          have c36b0 : (a0_0 == 1) = true := beq_iff_eq.mpr c36
          have c36b1 : (a0_0 != 1) = false := bne_eq_false_iff_eq.mpr c36
          clear c36
          have H' := Aside0.mk H
          clear H
          obtain ⟨hcz37_0, hcz37_1, hcz37_2, hcz37_3, hcz37_4, hcz37_5, hcz37_6, hcz37_7, hfz37_0, hfz37_1, hfz37_2, hfz37_3, hfz37_4, hfz37_5, hfz37_6, hfz37_7⟩ := cellsF8 BK192.out
          go_wp2
          repeat (go_quiet (fail); try go_wp2)
          (first | go_meet | (refine Met.intro ?_; go_step; (try rw [show (a0_0 == 0) = true by assumption]); (try rw [show (a0_0 == 0) = false by assumption]); (try rw [show (a0_0 == 2) = true by assumption]); (try rw [show (a0_0 == 2) = false by assumption]); (repeat apply Exists.intro); refine ⟨?rel, rfl⟩))
          case rel => exact ⟨_, (false), q8_, H', ⟨q12_⟩, ⟨q1_⟩, ⟨q0_⟩⟩
         ·rw [if_neg c36] at H
          have c36b0 : (a0_0 == 1) = false := beq_eq_false_iff_ne.mpr c36
          have c36b1 : (a0_0 != 1) = true := bne_iff_ne.mpr c36
          by_cases c38 : (l0_4.length : Int) > 0
          ·rw [if_pos c38] at H
           have c38b0 : decide (0 < (l0_4.length : Int)) = true := decide_eq_true c38
           have c38b1 : decide (0 < l0_4.length) = true := decide_eq_true (by omega)
           clear c38
           have H' := Aside0.mk H
           clear H
           obtain ⟨hcz39_0, hcz39_1, hcz39_2, hcz39_3, hcz39_4, hcz39_5, hcz39_6, hcz39_7, hfz39_0, hfz39_1, hfz39_2, hfz39_3, hfz39_4, hfz39_5, hfz39_6, hfz39_7⟩ := cellsF8 BK192.out
           go_wp2
           repeat (go_quiet (fail); try go_wp2)
           (first | go_meet | (refine Met.intro ?_; go_step; (try rw [show (a0_0 == 0) = true by assumption]); (try rw [show (a0_0 == 0) = false by assumption]); (try rw [show (a0_0 == 2) = true by assumption]); (try rw [show (a0_0 == 2) = false by assumption]); (repeat apply Exists.intro); refine ⟨?rel, rfl⟩))
           case rel => exact ⟨_, (true), q8_, H', ⟨q12_⟩, ⟨q1_⟩, ⟨q0_⟩⟩
          ·rw [if_neg c38] at H
           have c38b0 : decide (0 < (l0_4.length : Int)) = false := decide_eq_false c38
           have c38b1 : decide (0 < l0_4.length) = false := decide_eq_false (by omega)
           clear c38
           have H' := Aside0.mk H
           clear H
           obtain ⟨hcz40_0, hcz40_1, hcz40_2, hcz40_3, hcz40_4, hcz40_5, hcz40_6, hcz40_7, hfz40_0, hfz40_1, hfz40_2, hfz40_3, hfz40_4, hfz40_5, hfz40_6, hfz40_7⟩ := cellsF8 BK192.out
           go_wp2
           repeat (go_quiet (fail); try go_wp2)
           (first | go_meet | (refine Met.intro ?_; go_step; (try rw [show (a0_0 == 0) = true by assumption]); (try rw [show (a0_0 == 0) = false by assumption]); (try rw [show (a0_0 == 2) = true by assumption]); (try rw [show (a0_0 == 2) = false by assumption]); (repeat apply Exists.intro); refine ⟨?rel, rfl⟩))
           case rel => exact ⟨_, (false), q8_, H', ⟨q12_⟩, ⟨q1_⟩, ⟨q0_⟩⟩
        ·rw [if_neg c35] at H
         have c35b0 : (a0_1.toList == ([] : List UInt8)) = false := beq_eq_false_iff_ne.mpr c35
         have c35b1 : (a0_1.toList != ([] : List UInt8)) = true := bne_iff_ne.mpr c35
         have H' := Aside0.mk H
         clear H
         obtain ⟨hcz41_0, hcz41_1, hcz41_2, hcz41_3, hcz41_4, hcz41_5, hcz41_6, hcz41_7, hfz41_0, hfz41_1, hfz41_2, hfz41_3, hfz41_4, hfz41_5, hfz41_6, hfz41_7⟩ := cellsF8 BK192.out
         go_wp2
         repeat (go_quiet (fail); try go_wp2)
         (first | go_meet | (refine Met.intro ?_; go_step; (try rw [show (a0_0 == 0) = true by assumption]); (try rw [show (a0_0 == 0) = false by assumption]); (try rw [show (a0_0 == 2) = true by assumption]); (try rw [show (a0_0 == 2) = false by assumption]); (repeat apply Exists.intro); refine ⟨?rel, rfl⟩))
         case rel => exact ⟨_, (true), q8_, H', ⟨q12_⟩, ⟨q1_⟩, ⟨q0_⟩⟩
       ·rw [if_neg c34] at H
        have c34b0 : (a0_0 == 2) = false := beq_eq_false_iff_ne.mpr c34
        have c34b1 : (a0_0 != 2) = true := bne_iff_ne.mpr c34
        by_cases c42 : a0_0 = 1
        ·rw [if_pos c42] at H
         have c42b0 : (a0_0 == 1) = true := beq_iff_eq.mpr c42
         have c42b1 : (a0_0 != 1) = false := bne_eq_false_iff_eq.mpr c42
         clear c42
         by_cases c43 : a0_5.toList = ([] : List UInt8)
         ·rw [if_pos c43] at H
          have c43b0 : (a0_5.toList == ([] : List UInt8)) = true := beq_iff_eq.mpr c43
          have c43b1 : (a0_5.toList != ([] : List UInt8)) = false := bne_eq_false_iff_eq.mpr c43
          clear c43
          by_cases c44 : a0_6.toList = ([] : List UInt8)
          ·rw [if_pos c44] at H
           have c44b0 : (a0_6.toList == ([] : List UInt8)) = true := beq_iff_eq.mpr c44
           have c44b1 : (a0_6.toList != ([] : List UInt8)) = false := bne_eq_false_iff_eq.mpr c44
           clear c44
           have H' := Aside0.mk H
           clear H
           obtain ⟨hcz45_0, hcz45_1, hcz45_2, hcz45_3, hcz45_4, hcz45_5, hcz45_6, hcz45_7, hfz45_0, hfz45_1, hfz45_2, hfz45_3, hfz45_4, hfz45_5, hfz45_6, hfz45_7⟩ := cellsF8 BK192.out
           go_wp2
           repeat (go_quiet (fail); try go_wp2)
           (first | go_meet | (refine Met.intro ?_; go_step; (try rw [show (a0_0 == 0) = true by assumption]); (try rw [show (a0_0 == 0) = false by assumption]); (try rw [show (a0_0 == 2) = true by assumption]); (try rw [show (a0_0 == 2) = false by assumption]); (repeat apply Exists.intro); refine ⟨?rel, rfl⟩))
           case rel => exact ⟨_, (decide ((l0_7.length : Int) > 0)), q8_, H', ⟨q12_⟩, ⟨q1_⟩, ⟨q0_⟩⟩
          ·rw [if_neg c44] at H
           have c44b0 : (a0_6.toList == ([] : List UInt8)) = false := beq_eq_false_iff_ne.mpr c44
           have c44b1 : (a0_6.toList != ([] : List UInt8)) = true := bne_iff_ne.mpr c44
           have H' := Aside0.mk H
           clear H
           obtain ⟨hcz46_0, hcz46_1, hcz46_2, hcz46_3, hcz46_4, hcz46_5, hcz46_6, hcz46_7, hfz46_0, hfz46_1, hfz46_2, hfz46_3, hfz46_4, hfz46_5, hfz46_6, hfz46_7⟩ := cellsF8 BK192.out
           go_wp2
           repeat (go_quiet (fail); try go_wp2)
           (first | go_meet | (refine Met.intro ?_; go_step; (try rw [show (a0_0 == 0) = true by assumption]); (try rw [show (a0_0 == 0) = false by assumption]); (try rw [show (a0_0 == 2) = true by assumption]); (try rw [show (a0_0 == 2) = false by assumption]); (repeat apply Exists.intro); refine ⟨?rel, rfl⟩))
           case rel => exact ⟨_, (true), q8_, H', ⟨q12_⟩, ⟨q1_⟩, ⟨q0_⟩⟩
         ·rw [if_neg c43] at H
          have c43b0 : (a0_5.toList == ([] : List UInt8)) = false := beq_eq_false_iff_ne.mpr c43
          have c43b1 : (a0_5.toList != ([] : List UInt8)) = true := bne_iff_ne.mpr c43
          have H' := Aside0.mk H
          clear H
          obtain ⟨hcz47_0, hcz47_1, hcz47_2, hcz47_3, hcz47_4, hcz47_5, hcz47_6, hcz47_7, hfz47_0, hfz47_1, hfz47_2, hfz47_3, hfz47_4, hfz47_5, hfz47_6, hfz47_7⟩ := cellsF8 BK192.out
          go_wp2
          repeat (go_quiet (fail); try go_wp2)
          (first | go_meet | (refine Met.intro ?_; go_step; (try rw [show (a0_0 == 0) = true by assumption]); (try rw [show (a0_0 == 0) = false by assumption]); (try rw [show (a0_0 == 2) = true by assumption]); (try rw [show (a0_0 == 2) = false by assumption]); (repeat apply Exists.intro); refine ⟨?rel, rfl⟩))
          case rel => exact ⟨_, (true), q8_, H', ⟨q12_⟩, ⟨q1_⟩, ⟨q0_⟩⟩
        ·rw [if_neg c42] at H
         have c42b0 : (a0_0 == 1) = false := beq_eq_false_iff_ne.mpr c42
         have c42b1 : (a0_0 != 1) = true := bne_iff_ne.mpr c42
         by_cases c48 : (l0_4.length : Int) > 0
         ·rw [if_pos c48] at H
          have c48b0 : decide (0 < (l0_4.length : Int)) = true := decide_eq_true c48
          have c48b1 : decide (0 < l0_4.length) = true := decide_eq_true (by omega)
          clear c48
          have H' := Aside0.mk H
          clear H
          obtain ⟨hcz49_0, hcz49_1, hcz49_2, hcz49_3, hcz49_4, hcz49_5, hcz49_6, hcz49_7, hfz49_0, hfz49_1, hfz49_2, hfz49_3, hfz49_4, hfz49_5, hfz49_6, hfz49_7⟩ := cellsF8 BK192.out
          go_wp2
          repeat (go_quiet (fail); try go_wp2)
          (first | go_meet | (refine Met.intro ?_; go_step; (try rw [show (a0_0 == 0) = true by assumption]); (try rw [show (a0_0 == 0) = false by assumption]); (try rw [show (a0_0 == 2) = true by assumption]); (try rw [show (a0_0 == 2) = false by assumption]); (repeat apply Exists.intro); refine ⟨?rel, rfl⟩))
          case rel => exact ⟨_, (true), q8_, H', ⟨q12_⟩, ⟨q1_⟩, ⟨q0_⟩⟩
         ·rw [if_neg c48] at H
          have c48b0 : decide (0 < (l0_4.length : Int)) = false := decide_eq_false c48
          have c48b1 : decide (0 < l0_4.length) = false := decide_eq_false (by omega)
          clear c48
          by_cases c50 : a0_5.toList = ([] : List UInt8)
          ·rw [if_pos c50] at H
           have c50b0 : (a0_5.toList == ([] : List UInt8)) = true := beq_iff_eq.mpr c50
           have c50b1 : (a0_5.toList != ([] : List UInt8)) = false := bne_eq_false_iff_eq.mpr c50
           clear c50
           by_cases c51 : a0_6.toList = ([] : List UInt8)
           ·rw [if_pos c51] at H
            have c51b0 : (a0_6.toList == ([] : List UInt8)) = true := beq_iff_eq.mpr c51
            have c51b1 : (a0_6.toList != ([] : List UInt8)) = false := bne_eq_false_iff_eq.mpr c51
            clear c51
            have H' := Aside0.mk H
            clear H
            obtain ⟨hcz52_0, hcz52_1, hcz52_2, hcz52_3, hcz52_4, hcz52_5, hcz52_6, hcz52_7, hfz52_0, hfz52_1, hfz52_2, hfz52_3, hfz52_4, hfz52_5, hfz52_6, hfz52_7⟩ := cellsF8 BK192.out
            go_wp2
            repeat (go_quiet (fail); try go_wp2)
            (first | go_meet | (refine Met.intro ?_; go_step; (try rw [show (a0_0 == 0) = true by assumption]); (try rw [show (a0_0 == 0) = false by assumption]); (try rw [show (a0_0 == 2) = true by assumption]); (try rw [show (a0_0 == 2) = false by assumption]); (repeat apply Exists.intro); refine ⟨?rel, rfl⟩))
            case rel => exact ⟨_, (decide ((l0_7.length : Int) > 0)), q8_, H', ⟨q12_⟩, ⟨q1_⟩, ⟨q0_⟩⟩
           ·rw [if_neg c51] at H
            have c51b0 : (a0_6.toList == ([] : List UInt8)) = false := beq_eq_false_iff_ne.mpr c51
            have c51b1 : (a0_6.toList != ([] : List UInt8)) = true := bne_iff_ne.mpr c51
            have H' := Aside0.mk H
            clear H
            obtain ⟨hcz53_0, hcz53_1, hcz53_2, hcz53_3, hcz53_4, hcz53_5, hcz53_6, hcz53_7, hfz53_0, hfz53_1, hfz53_2, hfz53_3, hfz53_4, hfz53_5, hfz53_6, hfz53_7⟩ := cellsF8 BK192.out
            go_wp2
            repeat (go_quiet (fail); try go_wp2)
            (first | go_meet | (refine Met.intro ?_; go_step; (try rw [show (a0_0 == 0) = true by assumption]); (try rw [show (a0_0 == 0) = false by assumption]); (try rw [show (a0_0 == 2) = true by assumption]); (try rw [show (a0_0 == 2) = false by assumption]); (repeat apply Exists.intro); refine ⟨?rel, rfl⟩))
            case rel => exact ⟨_, (true), q8_, H', ⟨q12_⟩, ⟨q1_⟩, ⟨q0_⟩⟩
          ·rw [if_neg c50] at H
           have c50b0 : (a0_5.toList == ([] : List UInt8)) = false := beq_eq_false_iff_ne.mpr c50
           have c50b1 : (a0_5.toList != ([] : List UInt8)) = true := bne_iff_ne.mpr c50
           have H' := Aside0.mk H
           clear H
           obtain ⟨hcz54_0, hcz54_1, hcz54_2, hcz54_3, hcz54_4, hcz54_5, hcz54_6, hcz54_7, hfz54_0, hfz54_1, hfz54_2, hfz54_3, hfz54_4, hfz54_5, hfz54_6, hfz54_7⟩ := cellsF8 BK192.out
           go_wp2
           repeat (go_quiet (fail); try go_wp2)
           (first | go_meet | (refine Met.intro ?_; go_step; (try rw [show (a0_0 == 0) = true by assumption]); (try rw [show (a0_0 == 0) = false by assumption]); (try rw [show (a0_0 == 2) = true by assumption]); (try rw [show (a0_0 == 2) = false by assumption]); (repeat apply Exists.intro); refine ⟨?rel, rfl⟩))
           case rel => exact ⟨_, (true), q8_, H', ⟨q12_⟩, ⟨q1_⟩, ⟨q0_⟩⟩
      ·rw [if_neg c33] at H
       have c33b0 : (a0_2.toList == ([] : List UInt8)) = false := beq_eq_false_iff_ne.mpr c33
       have c33b1 : (a0_2.toList != ([] : List UInt8)) = true := bne_iff_ne.mpr c33
       have H' := Aside0.mk H
       clear H
       obtain ⟨hcz55_0, hcz55_1, hcz55_2, hcz55_3, hcz55_4, hcz55_5, hcz55_6, hcz55_7, hfz55_0, hfz55_1, hfz55_2, hfz55_3, hfz55_4, hfz55_5, hfz55_6, hfz55_7⟩ := cellsF8 BK192.out
       go_wp2
       repeat (go_quiet (fail); try go_wp2)
       (first | go_meet | (refine Met.intro ?_; go_step; (try rw [show (a0_0 == 0) = true by assumption]); (try rw [show (a0_0 == 0) = false by assumption]); (try rw [show (a0_0 == 2) = true by assumption]); (try rw [show (a0_0 == 2) = false by assumption]); (repeat apply Exists.intro); refine ⟨?rel, rfl⟩))
       case rel => exact ⟨_, (true), q8_, H', ⟨q12_⟩, ⟨q1_⟩, ⟨q0_⟩⟩
 case rest =>
  clear HC2
  try clear c1
  try clear c2
  try clear p2
  try clear c3
  try clear c4
  try clear c5
  try clear c9
  try clear c9b0
  try clear c9b1
  try clear c10
  try clear c10b0
  try clear c10b1
  try clear c18
  try clear c18b0
  try clear c18b1
  try clear c19
  try clear c19b0
  try clear c19b1
  try clear c20
  try clear c20b0
  try clear c20b1
  try clear c24
  try clear c24b0
  try clear c24b1
  try clear c26
  try clear c26b0
  try clear c26b1
  try clear c27
  try clear c27b0
  try clear c27b1
  try clear c31
  try clear c33
  try clear c33b0
  try clear c33b1
  try clear c34
  try clear c34b0
  try clear c34b1
  try clear c35
  try clear c35b0
  try clear c35b1
  try clear c36
  try clear c36b0
  try clear c36b1
  try clear c38
  try clear c38b0
  try clear c38b1
  try clear c42
  try clear c42b0
  try clear c42b1
  try clear c43
  try clear c43b0
  try clear c43b1
  try clear c44
  try clear c44b0
  try clear c44b1
  try clear c48
  try clear c48b0
  try clear c48b1
  try clear c50
  try clear c50b0
  try clear c50b1
  try clear c51
  try clear c51b0
  try clear c51b1
  try clear hcz21_0 hcz21_1 hcz21_2 hcz21_3 hcz21_4 hcz21_5 hcz21_6 hcz21_7
  try clear hcz22_0 hcz22_1 hcz22_2 hcz22_3 hcz22_4 hcz22_5 hcz22_6 hcz22_7
  try clear hcz23_0 hcz23_1 hcz23_2 hcz23_3 hcz23_4 hcz23_5 hcz23_6 hcz23_7
  try clear hcz25_0 hcz25_1 hcz25_2 hcz25_3 hcz25_4 hcz25_5 hcz25_6 hcz25_7
  try clear hcz28_0 hcz28_1 hcz28_2 hcz28_3 hcz28_4 hcz28_5 hcz28_6 hcz28_7
  try clear hcz29_0 hcz29_1 hcz29_2 hcz29_3 hcz29_4 hcz29_5 hcz29_6 hcz29_7
  try clear hcz30_0 hcz30_1 hcz30_2 hcz30_3 hcz30_4 hcz30_5 hcz30_6 hcz30_7
  try clear hcz32_0 hcz32_1 hcz32_2 hcz32_3 hcz32_4 hcz32_5 hcz32_6 hcz32_7
  try clear hcz37_0 hcz37_1 hcz37_2 hcz37_3 hcz37_4 hcz37_5 hcz37_6 hcz37_7
  try clear hcz39_0 hcz39_1 hcz39_2 hcz39_3 hcz39_4 hcz39_5 hcz39_6 hcz39_7
  try clear hcz40_0 hcz40_1 hcz40_2 hcz40_3 hcz40_4 hcz40_5 hcz40_6 hcz40_7
  try clear hcz41_0 hcz41_1 hcz41_2 hcz41_3 hcz41_4 hcz41_5 hcz41_6 hcz41_7
  try clear hcz45_0 hcz45_1 hcz45_2 hcz45_3 hcz45_4 hcz45_5 hcz45_6 hcz45_7
  try clear hcz46_0 hcz46_1 hcz46_2 hcz46_3 hcz46_4 hcz46_5 hcz46_6 hcz46_7
  try clear hcz47_0 hcz47_1 hcz47_2 hcz47_3 hcz47_4 hcz47_5 hcz47_6 hcz47_7
  try clear hcz49_0 hcz49_1 hcz49_2 hcz49_3 hcz49_4 hcz49_5 hcz49_6 hcz49_7
  try clear hcz52_0 hcz52_1 hcz52_2 hcz52_3 hcz52_4 hcz52_5 hcz52_6 hcz52_7
  try clear hcz53_0 hcz53_1 hcz53_2 hcz53_3 hcz53_4 hcz53_5 hcz53_6 hcz53_7
  try clear hcz54_0 hcz54_1 hcz54_2 hcz54_3 hcz54_4 hcz54_5 hcz54_6 hcz54_7
  try clear hcz55_0 hcz55_1 hcz55_2 hcz55_3 hcz55_4 hcz55_5 hcz55_6 hcz55_7
  try clear hfz21_0 hfz21_1 hfz21_2 hfz21_3 hfz21_4 hfz21_5 hfz21_6 hfz21_7
  try clear hfz22_0 hfz22_1 hfz22_2 hfz22_3 hfz22_4 hfz22_5 hfz22_6 hfz22_7
  try clear hfz23_0 hfz23_1 hfz23_2 hfz23_3 hfz23_4 hfz23_5 hfz23_6 hfz23_7
  try clear hfz25_0 hfz25_1 hfz25_2 hfz25_3 hfz25_4 hfz25_5 hfz25_6 hfz25_7
  try clear hfz28_0 hfz28_1 hfz28_2 hfz28_3 hfz28_4 hfz28_5 hfz28_6 hfz28_7
  try clear hfz29_0 hfz29_1 hfz29_2 hfz29_3 hfz29_4 hfz29_5 hfz29_6 hfz29_7
  try clear hfz30_0 hfz30_1 hfz30_2 hfz30_3 hfz30_4 hfz30_5 hfz30_6 hfz30_7
  try clear hfz32_0 hfz32_1 hfz32_2 hfz32_3 hfz32_4 hfz32_5 hfz32_6 hfz32_7
  try clear hfz37_0 hfz37_1 hfz37_2 hfz37_3 hfz37_4 hfz37_5 hfz37_6 hfz37_7
  try clear hfz39_0 hfz39_1 hfz39_2 hfz39_3 hfz39_4 hfz39_5 hfz39_6 hfz39_7
  try clear hfz40_0 hfz40_1 hfz40_2 hfz40_3 hfz40_4 hfz40_5 hfz40_6 hfz40_7
  try clear hfz41_0 hfz41_1 hfz41_2 hfz41_3 hfz41_4 hfz41_5 hfz41_6 hfz41_7
  try clear hfz45_0 hfz45_1 hfz45_2 hfz45_3 hfz45_4 hfz45_5 hfz45_6 hfz45_7
  try clear hfz46_0 hfz46_1 hfz46_2 hfz46_3 hfz46_4 hfz46_5 hfz46_6 hfz46_7
  try clear hfz47_0 hfz47_1 hfz47_2 hfz47_3 hfz47_4 hfz47_5 hfz47_6 hfz47_7
  try clear hfz49_0 hfz49_1 hfz49_2 hfz49_3 hfz49_4 hfz49_5 hfz49_6 hfz49_7
  try clear hfz52_0 hfz52_1 hfz52_2 hfz52_3 hfz52_4 hfz52_5 hfz52_6 hfz52_7
  try clear hfz53_0 hfz53_1 hfz53_2 hfz53_3 hfz53_4 hfz53_5 hfz53_6 hfz53_7
  try clear hfz54_0 hfz54_1 hfz54_2 hfz54_3 hfz54_4 hfz54_5 hfz54_6 hfz54_7
  try clear hfz55_0 hfz55_1 hfz55_2 hfz55_3 hfz55_4 hfz55_5 hfz55_6 hfz55_7
  obtain ⟨kq, x74_1, rfl, HA, HJ1, BK192, HB⟩ := hcut
  cases kq with
  | zero => exact absurd HA.out (by simp [script_Step_Right.j0])
  | succ kj1 =>
   have H := HA.out
   clear HA
   simp only [script_Step_Right.j0] at H
   by_cases c56 : x74_1 = true
   ·subst c56
    have H1 : (some false) = some r := by rw [if_pos rfl] at H; exact H
    clear H
    have H := H1
    clear H1
    obtain rfl := Option.some.inj H
    go_wp2
    repeat (go_quiet (fail); try go_wp2)
    go_ret
    exact ⟨q16_, q0_⟩
   ·replace c56 := Bool.eq_false_iff.mpr c56
    subst c56
    have H1 : (script_Step_Right.l0 kj1 l0_7 (l0_7.length : Int) 0) = some r := by rw [if_neg (show ¬ (false = true) by decide)] at H; exact H
    clear H
    have H := H1
    clear H1
    have H' := Aside0.mk H
    clear H
    obtain ⟨hcz57_0, hcz57_1, hcz57_2, hcz57_3, hcz57_4, hcz57_5, hcz57_6, hcz57_7, hfz57_0, hfz57_1, hfz57_2, hfz57_3, hfz57_4, hfz57_5, hfz57_6, hfz57_7⟩ := cellsF8 BK192.out
    go_wp2
    repeat (go_quiet (fail); try go_wp2)
    go_loopg [78] kj1 (fun kq v78 w' => ∃ (x78_2 : Int), v78 = .int .i64 x78_2 ∧ Aside0 (script_Step_Right.l0 kq l0_7 (l0_7.length : Int) x78_2 = some r) ∧ Aside0 (kq ≤ kj1) ∧ Aside0 (w'.heap[gb192]? = some (.cells #[.int .i64 a0_0, .string a0_1, .string a0_2, .bool a0_3, (.slice A0_4 l0_4.length c0_4), .string a0_5, .string a0_6, (.slice A0_7 l0_7.length c0_7)] 29 (0, 0))) ∧ Aside0 (Below w.heap.size w w'))
    case atStart => exact ⟨(0), q8_, H', ⟨Nat.le_refl _⟩, ⟨q1_⟩, ⟨q0_⟩⟩
    case round =>
     clear H'
     try clear c1
     try clear c2
     try clear p2 p2
     try clear c3
     try clear c4
     try clear c5
     try clear c9
     try clear c9b0
     try clear c9b1
     try clear c10
     try clear c10b0
     try clear c10b1
     try clear c18
     try clear c18b0
     try clear c18b1
     try clear c19
     try clear c19b0
     try clear c19b1
     try clear c20
     try clear c20b0
     try clear c20b1
     try clear c24
     try clear c24b0
     try clear c24b1
     try clear c26
     try clear c26b0
     try clear c26b1
     try clear c27
     try clear c27b0
     try clear c27b1
     try clear c31
     try clear c33
     try clear c33b0
     try clear c33b1
     try clear c34
     try clear c34b0
     try clear c34b1
     try clear c35
     try clear c35b0
     try clear c35b1
     try clear c36
     try clear c36b0
     try clear c36b1
     try clear c38
     try clear c38b0
     try clear c38b1
     try clear c42
     try clear c42b0
     try clear c42b1
     try clear c43
     try clear c43b0
     try clear c43b1
     try clear c44
     try clear c44b0
     try clear c44b1
     try clear c48
     try clear c48b0
     try clear c48b1
     try clear c50
     try clear c50b0
     try clear c50b1
     try clear c51
     try clear c51b0
     try clear c51b1
     try clear c56
     try clear hcz21_0 hcz21_1 hcz21_2 hcz21_3 hcz21_4 hcz21_5 hcz21_6 hcz21_7
     try clear hcz22_0 hcz22_1 hcz22_2 hcz22_3 hcz22_4 hcz22_5 hcz22_6 hcz22_7
     try clear hcz23_0 hcz23_1 hcz23_2 hcz23_3 hcz23_4 hcz23_5 hcz23_6 hcz23_7
     try clear hcz25_0 hcz25_1 hcz25_2 hcz25_3 hcz25_4 hcz25_5 hcz25_6 hcz25_7
     try clear hcz28_0 hcz28_1 hcz28_2 hcz28_3 hcz28_4 hcz28_5 hcz28_6 hcz28_7
     try clear hcz29_0 hcz29_1 hcz29_2 hcz29_3 hcz29_4 hcz29_5 hcz29_6 hcz29_7
     try clear hcz30_0 hcz30_1 hcz30_2 hcz30_3 hcz30_4 hcz30_5 hcz30_6 hcz30_7
     try clear hcz32_0 hcz32_1 hcz32_2 hcz32_3 hcz32_4 hcz32_5 hcz32_6 hcz32_7
     try clear hcz37_0 hcz37_1 hcz37_2 hcz37_3 hcz37_4 hcz37_5 hcz37_6 hcz37_7
     try clear hcz39_0 hcz39_1 hcz39_2 hcz39_3 hcz39_4 hcz39_5 hcz39_6 hcz39_7
     try clear hcz40_0 hcz40_1 hcz40_2 hcz40_3 hcz40_4 hcz40_5 hcz40_6 hcz40_7
     try clear hcz41_0 hcz41_1 hcz41_2 hcz41_3 hcz41_4 hcz41_5 hcz41_6 hcz41_7
     try clear hcz45_0 hcz45_1 hcz45_2 hcz45_3 hcz45_4 hcz45_5 hcz45_6 hcz45_7
     try clear hcz46_0 hcz46_1 hcz46_2 hcz46_3 hcz46_4 hcz46_5 hcz46_6 hcz46_7
     try clear hcz47_0 hcz47_1 hcz47_2 hcz47_3 hcz47_4 hcz47_5 hcz47_6 hcz47_7
     try clear hcz49_0 hcz49_1 hcz49_2 hcz49_3 hcz49_4 hcz49_5 hcz49_6 hcz49_7
     try clear hcz52_0 hcz52_1 hcz52_2 hcz52_3 hcz52_4 hcz52_5 hcz52_6 hcz52_7
     try clear hcz53_0 hcz53_1 hcz53_2 hcz53_3 hcz53_4 hcz53_5 hcz53_6 hcz53_7
     try clear hcz54_0 hcz54_1 hcz54_2 hcz54_3 hcz54_4 hcz54_5 hcz54_6 hcz54_7
     try clear hcz55_0 hcz55_1 hcz55_2 hcz55_3 hcz55_4 hcz55_5 hcz55_6 hcz55_7
     try clear hcz57_0 hcz57_1 hcz57_2 hcz57_3 hcz57_4 hcz57_5 hcz57_6 hcz57_7
     try clear hfz21_0 hfz21_1 hfz21_2 hfz21_3 hfz21_4 hfz21_5 hfz21_6 hfz21_7
     try clear hfz22_0 hfz22_1 hfz22_2 hfz22_3 hfz22_4 hfz22_5 hfz22_6 hfz22_7
     try clear hfz23_0 hfz23_1 hfz23_2 hfz23_3 hfz23_4 hfz23_5 hfz23_6 hfz23_7
     try clear hfz25_0 hfz25_1 hfz25_2 hfz25_3 hfz25_4 hfz25_5 hfz25_6 hfz25_7
     try clear hfz28_0 hfz28_1 hfz28_2 hfz28_3 hfz28_4 hfz28_5 hfz28_6 hfz28_7
     try clear hfz29_0 hfz29_1 hfz29_2 hfz29_3 hfz29_4 hfz29_5 hfz29_6 hfz29_7
     try clear hfz30_0 hfz30_1 hfz30_2 hfz30_3 hfz30_4 hfz30_5 hfz30_6 hfz30_7
     try clear hfz32_0 hfz32_1 hfz32_2 hfz32_3 hfz32_4 hfz32_5 hfz32_6 hfz32_7
     try clear hfz37_0 hfz37_1 hfz37_2 hfz37_3 hfz37_4 hfz37_5 hfz37_6 hfz37_7
     try clear hfz39_0 hfz39_1 hfz39_2 hfz39_3 hfz39_4 hfz39_5 hfz39_6 hfz39_7
     try clear hfz40_0 hfz40_1 hfz40_2 hfz40_3 hfz40_4 hfz40_5 hfz40_6 hfz40_7
     try clear hfz41_0 hfz41_1 hfz41_2 hfz41_3 hfz41_4 hfz41_5 hfz41_6 hfz41_7
     try clear hfz45_0 hfz45_1 hfz45_2 hfz45_3 hfz45_4 hfz45_5 hfz45_6 hfz45_7
     try clear hfz46_0 hfz46_1 hfz46_2 hfz46_3 hfz46_4 hfz46_5 hfz46_6 hfz46_7
     try clear hfz47_0 hfz47_1 hfz47_2 hfz47_3 hfz47_4 hfz47_5 hfz47_6 hfz47_7
     try clear hfz49_0 hfz49_1 hfz49_2 hfz49_3 hfz49_4 hfz49_5 hfz49_6 hfz49_7
     try clear hfz52_0 hfz52_1 hfz52_2 hfz52_3 hfz52_4 hfz52_5 hfz52_6 hfz52_7
     try clear hfz53_0 hfz53_1 hfz53_2 hfz53_3 hfz53_4 hfz53_5 hfz53_6 hfz53_7
     try clear hfz54_0 hfz54_1 hfz54_2 hfz54_3 hfz54_4 hfz54_5 hfz54_6 hfz54_7
     try clear hfz55_0 hfz55_1 hfz55_2 hfz55_3 hfz55_4 hfz55_5 hfz55_6 hfz55_7
     try clear hfz57_0 hfz57_1 hfz57_2 hfz57_3 hfz57_4 hfz57_5 hfz57_6 hfz57_7
     obtain ⟨x78_2, rfl, HA, HK2, BK192, HB⟩ := hrel
     cases gk with
     | zero => exact absurd HA.out (by simp [script_Step_Right.l0])
     | succ k2 =>
      have H := HA.out
      clear HA
      simp only [script_Step_Right.l0] at H
      by_cases c58 : x78_2 < (l0_7.length : Int)
      ·rw [if_pos c58] at H
       have c58b0 : decide (x78_2 < (l0_7.length : Int)) = true := decide_eq_true c58
       clear c58
       by_cases c59 : 0 ≤ x78_2
       ·rw [if_pos c59] at H
        have c59b0 : decide (0 ≤ x78_2) = true := decide_eq_true c59
        clear c59
        by_cases c60 : x78_2 < (l0_7.length : Int)
        ·rw [if_pos c60] at H
         have c60b0 : decide (x78_2 < (l0_7.length : Int)) = true := decide_eq_true c60
         clear c60
         replace H := Option.bind_eq_some_iff.mp H
         obtain ⟨⟨t195, t196, t197, t198, t199, t200, t201, t202, t203, t204, t205, t206, t207⟩, A610, H⟩ := H
         replace H : (if t207 = true then (script_Step_Right.l0 k2 l0_7 (l0_7.length : Int) (wrap64 (x78_2 + 1))) else (some false)) = some r := H
         have A61 := Aside0.mk A610
         clear A610
         by_cases c62 : t207 = true
         ·subst c62
          have H1 : (script_Step_Right.l0 k2 l0_7 (l0_7.length : Int) (wrap64 (x78_2 + 1))) = some r := by rw [if_pos rfl] at H; exact H
          clear H
          have H := H1
          clear H1
          have H' := Aside0.mk H
          clear H
          have p193 : 0 ≤ (x78_2 : Int) := of_decide_eq_true q18_
          have q193 : x78_2 < (l0_7.length : Int) := of_decide_eq_true q18_
          obtain ⟨ad193, e193, hx193_0, hx193_1, hx193_2⟩ := at_T44 HR0_7.out x78_2 p193 q193
          cases e193
          replace hx193_0 := (HB.out.cell (World.block_lt_of_cell? w _ hx193_0)).trans hx193_0
          replace hx193_1 := (HB.out.cell (World.block_lt_of_cell? w _ hx193_1)).trans hx193_1
          replace hx193_2 := (HB.out.cell (World.block_lt_of_cell? w _ hx193_2)).trans hx193_2
          replace p193 := eq_true p193
          replace q193 := eq_true q193
          go_wp2_with (first | ((with_reducible refine gate_dst (N := 6) rfl ?_); (try (refine gate_guard (by rfl) ?_; dsimp only)); refine box_event ?hg (N := 6) ?hd (cs := #[.string (⟨#[]⟩ : ByteArray), .int .i64 0, .string (⟨#[]⟩ : ByteArray)]) (t := 44) ?hr ?_; (case hd => rfl); (case hg => rfl); (case hr => exact u0_); intro gb194 hg w63 hbox hb; have BK194 := Aside0.mk (hbox); have GW194 := Aside0.mk ((q13_ : w.heap.size ≤ gb194)); have GE194 := Aside0.mk ((q13_ : w.heap.size ≤ gb194)); replace HB := Aside0.mk (below_step q0_ hb); have NB192_194 := Aside0.mk ((q5_ : gb192 ≠ gb194)); have NB194_192 := Aside0.mk ((q6_ : gb194 ≠ gb192)); replace BK192 := Aside0.mk (blk_below (g := gb192) (o := .cells #[.int .i64 a0_0, .string a0_1, .string a0_2, .bool a0_3, .slice A0_4 l0_4.length c0_4, .string a0_5, .string a0_6, .slice (some ad193) l0_7.length c0_7] 29 (0, 0)) q1_ hb); clear hb hbox hg; have hnb64 := NB194_192.out; have hnc64 := NB192_194.out; obtain ⟨hcz65_0, hcz65_1, hcz65_2, hfz65_0, hfz65_1, hfz65_2⟩ := cellsF3 BK194.out) | (go_at_call 17; (with_reducible refine (script_Arg_Value.calls ((rd_T44 l0_7 x78_2).f0) ((rd_T44 l0_7 x78_2).f1) ((rd_T44 l0_7 x78_2).f2) t195 t196 t197 t198 t199 t200 t201 t202 t203 t204 t205 t206 true _ A61.out).mono ?_); rintro e w66 ⟨rfl, hb⟩; replace BK192 := Aside0.mk (blk_below (g := gb192) (o := .cells #[.int .i64 a0_0, .string a0_1, .string a0_2, .bool a0_3, .slice A0_4 l0_4.length c0_4, .string a0_5, .string a0_6, .slice (some ad193) l0_7.length c0_7] 29 (0, 0)) q4_ hb); replace BK194 := Aside0.mk (blk_below (g := gb194) (o := .cells #[.string ((rd_T44 l0_7 x78_2).f0), .int .i64 ((rd_T44 l0_7 x78_2).f1), .string ((rd_T44 l0_7 x78_2).f2)] 44 (0, 0)) q3_ hb); replace HB := Aside0.mk (below_step q2_ hb); (try clear hb); (try clear hb2); (try clear hk); (try clear hi)) | ((with_reducible refine gate_dst (N := 7) rfl ?_); (try (refine gate_guard (by rfl) ?_; dsimp only)); refine box_event ?hg (N := 7) ?hd (cs := #[.int .i64 0, .string (⟨#[]⟩ : ByteArray), .bool false, .string (⟨#[]⟩ : ByteArray), .int .i64 0, .int .i64 0, .int .i64 0, .int .i64 0, .bool false, .bool false, .int .i64 0, .int .i64 0]) (t := 51) ?hr ?_; (case hd => rfl); (case hg => rfl); (case hr => exact u0_); intro gb208 hg w67 hbox hb; have BK208 := Aside0.mk (hbox); have GW208 := Aside0.mk ((q14_ : w.heap.size ≤ gb208)); have GE208 := Aside0.mk ((q14_ : w.heap.size ≤ gb208)); replace HB := Aside0.mk (below_step q2_ hb); have NB192_208 := Aside0.mk ((q5_ : gb192 ≠ gb208)); have NB208_192 := Aside0.mk ((q6_ : gb208 ≠ gb192)); replace BK192 := Aside0.mk (blk_below (g := gb192) (o := .cells #[.int .i64 a0_0, .string a0_1, .string a0_2, .bool a0_3, .slice A0_4 l0_4.length c0_4, .string a0_5, .string a0_6, .slice (some ad193) l0_7.length c0_7] 29 (0, 0)) q1_ hb); have NB194_208 := Aside0.mk ((q10_ : gb194 ≠ gb208)); have NB208_194 := Aside0.mk ((q11_ : gb208 ≠ gb194)); replace BK194 := Aside0.mk (blk_below (g := gb194) (o := .cells #[.string ((rd_T44 l0_7 x78_2).f0), .int .i64 ((rd_T44 l0_7 x78_2).f1), .string ((rd_T44 l0_7 x78_2).f2)] 44 (0, 0)) q7_ hb); clear hb hbox hg; have hnb68 := NB208_192.out; have hnc68 := NB192_208.out; have hnb69 := NB208_194.out; have hnc69 := NB194_208.out; obtain ⟨hcz70_0, hcz70_1, hcz70_2, hcz70_3, hcz70_4, hcz70_5, hcz70_6, hcz70_7, hcz70_8, hcz70_9, hcz70_10, hcz70_11, hfz70_0, hfz70_1, hfz70_2, hfz70_3, hfz70_4, hfz70_5, hfz70_6, hfz70_7, hfz70_8, hfz70_9, hfz70_10, hfz70_11⟩ := cellsF12 BK208.out))
          repeat (go_quiet (fail); try go_wp2_with (fail))
          go_roundg k2
          case measure => have := HJ1.out; have := HK2.out; omega
          case rel => exact ⟨(wrap64 (x78_2 + 1)), q8_, H', ⟨(by have := HJ1.out; have := HK2.out; omega)⟩, ⟨(by (with_reducible repeat (first | refine blk_drewN ?_ _ | refine blk_drew ?_ | refine blk_alloc ?_ _)); refine blk_far ?_ NB192_208.out _; (with_reducible repeat (first | refine blk_drewN ?_ _ | refine blk_drew ?_ | refine blk_alloc ?_ _)); refine blk_far ?_ NB192_208.out _; (with_reducible repeat (first | refine blk_drewN ?_ _ | refine blk_drew ?_ | refine blk_alloc ?_ _)); refine blk_far ?_ NB192_208.out _; (with_reducible repeat (first | refine blk_drewN ?_ _ | refine blk_drew ?_ | refine blk_alloc ?_ _)); refine blk_far ?_ NB192_208.out _; (with_reducible repeat (first | refine blk_drewN ?_ _ | refine blk_drew ?_ | refine blk_alloc ?_ _)); refine blk_far ?_ NB192_208.out _; (with_reducible repeat (first | refine blk_drewN ?_ _ | refine blk_drew ?_ | refine blk_alloc ?_ _)); refine blk_far ?_ NB192_208.out _; (with_reducible repeat (first | refine blk_drewN ?_ _ | refine blk_drew ?_ | refine blk_alloc ?_ _)); refine blk_far ?_ NB192_208.out _; (with_reducible repeat (first | refine blk_drewN ?_ _ | refine blk_drew ?_ | refine blk_alloc ?_ _)); refine blk_far ?_ NB192_208.out _; (with_reducible repeat (first | refine blk_drewN ?_ _ | refine blk_drew ?_ | refine blk_alloc ?_ _)); refine blk_far ?_ NB192_208.out _; (with_reducible repeat (first | refine blk_drewN ?_ _ | refine blk_drew ?_ | refine blk_alloc ?_ _)); refine blk_far ?_ NB192_208.out _; (with_reducible repeat (first | refine blk_drewN ?_ _ | refine blk_drew ?_ | refine blk_alloc ?_ _)); refine blk_far ?_ NB192_208.out _; (with_reducible repeat (first | refine blk_drewN ?_ _ | refine blk_drew ?_ | refine blk_alloc ?_ _)); refine blk_far ?_ NB192_208.out _; (with_reducible repeat (first | refine blk_drewN ?_ _ | refine blk_drew ?_ | refine blk_alloc ?_ _)); exact BK192.out)⟩, ⟨q15_⟩⟩
         ·replace c62 := Bool.eq_false_iff.mpr c62
          subst c62
          have H1 : (some false) = some r := by rw [if_neg (show ¬ (false = true) by decide)] at H; exact H
          clear H
          have H := H1
          clear H1
          obtain rfl := Option.some.inj H
          have p193 : 0 ≤ (x78_2 : Int) := of_decide_eq_true q18_
          have q193 : x78_2 < (l0_7.length : Int) := of_decide_eq_true q18_
          obtain ⟨ad193, e193, hx193_0, hx193_1, hx193_2⟩ := at_T44 HR0_7.out x78_2 p193 q193
          cases e193
          replace hx193_0 := (HB.out.cell (World.block_lt_of_cell? w _ hx193_0)).trans hx193_0
          replace hx193_1 := (HB.out.cell (World.block_lt_of_cell? w _ hx193_1)).trans hx193_1
          replace hx193_2 := (HB.out.cell (World.block_lt_of_cell? w _ hx193_2)).trans hx193_2
          replace p193 := eq_true p193
          replace q193 := eq_true q193
          go_wp2_with (first | ((with_reducible refine gate_dst (N := 6) rfl ?_); (try (refine gate_guard (by rfl) ?_; dsimp only)); refine box_event ?hg (N := 6) ?hd (cs := #[.string (⟨#[]⟩ : ByteArray), .int .i64 0, .string (⟨#[]⟩ : ByteArray)]) (t := 44) ?hr ?_; (case hd => rfl); (case hg => rfl); (case hr => exact u0_); intro gb194 hg w71 hbox hb; have BK194 := Aside0.mk (hbox); have GW194 := Aside0.mk ((q13_ : w.heap.size ≤ gb194)); have GE194 := Aside0.mk ((q13_ : w.heap.size ≤ gb194)); replace HB := Aside0.mk (below_step q0_ hb); have NB192_194 := Aside0.mk ((q5_ : gb192 ≠ gb194)); have NB194_192 := Aside0.mk ((q6_ : gb194 ≠ gb192)); replace BK192 := Aside0.mk (blk_below (g := gb192) (o := .cells #[.int .i64 a0_0, .string a0_1, .string a0_2, .bool a0_3, .slice A0_4 l0_4.length c0_4, .string a0_5, .string a0_6, .slice (some ad193) l0_7.length c0_7] 29 (0, 0)) q1_ hb); clear hb hbox hg; have hnb72 := NB194_192.out; have hnc72 := NB192_194.out; obtain ⟨hcz73_0, hcz73_1, hcz73_2, hfz73_0, hfz73_1, hfz73_2⟩ := cellsF3 BK194.out) | (go_at_call 17; (with_reducible refine (script_Arg_Value.calls ((rd_T44 l0_7 x78_2).f0) ((rd_T44 l0_7 x78_2).f1) ((rd_T44 l0_7 x78_2).f2) t195 t196 t197 t198 t199 t200 t201 t202 t203 t204 t205 t206 false _ A61.out).mono ?_); rintro e w74 ⟨rfl, hb⟩; replace BK192 := Aside0.mk (blk_below (g := gb192) (o := .cells #[.int .i64 a0_0, .string a0_1, .string a0_2, .bool a0_3, .slice A0_4 l0_4.length c0_4, .string a0_5, .string a0_6, .slice (some ad193) l0_7.length c0_7] 29 (0, 0)) q4_ hb); replace BK194 := Aside0.mk (blk_below (g := gb194) (o := .cells #[.string ((rd_T44 l0_7 x78_2).f0), .int .i64 ((rd_T44 l0_7 x78_2).f1), .string ((rd_T44 l0_7 x78_2).f2)] 44 (0, 0)) q3_ hb); replace HB := Aside0.mk (below_step q2_ hb); (try clear hb); (try clear hb2); (try clear hk); (try clear hi)) | ((with_reducible refine gate_dst (N := 7) rfl ?_); (try (refine gate_guard (by rfl) ?_; dsimp only)); refine box_event ?hg (N := 7) ?hd (cs := #[.int .i64 0, .string (⟨#[]⟩ : ByteArray), .bool false, .string (⟨#[]⟩ : ByteArray), .int .i64 0, .int .i64 0, .int .i64 0, .int .i64 0, .bool false, .bool false, .int .i64 0, .int .i64 0]) (t := 51) ?hr ?_; (case hd => rfl); (case hg => rfl); (case hr => exact u0_); intro gb208 hg w75 hbox hb; have BK208 := Aside0.mk (hbox); have GW208 := Aside0.mk ((q14_ : w.heap.size ≤ gb208)); have GE208 := Aside0.mk ((q14_ : w.heap.size ≤ gb208)); replace HB := Aside0.mk (below_step q2_ hb); have NB192_208 := Aside0.mk ((q5_ : gb192 ≠ gb208)); have NB208_192 := Aside0.mk ((q6_ : gb208 ≠ gb192)); replace BK192 := Aside0.mk (blk_below (g := gb192) (o := .cells #[.int .i64 a0_0, .string a0_1, .string a0_2, .bool a0_3, .slice A0_4 l0_4.length c0_4, .string a0_5, .string a0_6, .slice (some ad193) l0_7.length c0_7] 29 (0, 0)) q1_ hb); have NB194_208 := Aside0.mk ((q10_ : gb194 ≠ gb208)); have NB208_194 := Aside0.mk ((q11_ : gb208 ≠ gb194)); replace BK194 := Aside0.mk (blk_below (g := gb194) (o := .cells #[.string ((rd_T44 l0_7 x78_2).f0), .int .i64 ((rd_T44 l0_7 x78_2).f1), .string ((rd_T44 l0_7 x78_2).f2)] 44 (0, 0)) q7_ hb); clear hb hbox hg; have hnb76 := NB208_192.out; have hnc76 := NB192_208.out; have hnb77 := NB208_194.out; have hnc77 := NB194_208.out; obtain ⟨hcz78_0, hcz78_1, hcz78_2, hcz78_3, hcz78_4, hcz78_5, hcz78_6, hcz78_7, hcz78_8, hcz78_9, hcz78_10, hcz78_11, hfz78_0, hfz78_1, hfz78_2, hfz78_3, hfz78_4, hfz78_5, hfz78_6, hfz78_7, hfz78_8, hfz78_9, hfz78_10, hfz78_11⟩ := cellsF12 BK208.out))
          repeat (go_quiet (fail); try go_wp2_with (fail))
          go_ret
          exact ⟨q16_, q15_⟩
        ·rw [if_neg c60] at H
         exact absurd H (by simp)
       ·rw [if_neg c59] at H
        exact absurd H (by simp)
      ·rw [if_neg c58] at H
       have c58b0 : decide (x78_2 < (l0_7.length : Int)) = false := decide_eq_false c58
       clear c58
       obtain rfl := Option.some.inj H
       go_wp2
       repeat (go_quiet (fail); try go_wp2)
       go_ret
       exact ⟨q16_, q0_⟩
end Go.Proofs.YtdhpcofnddkcaaaGreatDoor.S
namespace Go.Proofs.YtdhpcofnddkcaaaGreatDoor.S
open Go.RowKit Go.Proofs.YtdhpcofnddkcaaaGreatDoor.G Go.Proofs.YtdhpcofnddkcaaaGreatDoorW.PrintWords Go.Proofs.YtdhpcofnddkcaaaGreatDoorW.PrintLast Go.Proofs.YtdhpcofnddkcaaaGreatDoorW.PrintMore
set_option linter.unusedVariables false
set_option linter.unusedSimpArgs false
theorem rd44 (l : List S44) (i : Nat) (h : i < l.length) : rd_T44 l (i : Int) = l[i] := by
  unfold rd_T44
  rw [Int.toNat_natCast, List.getD_eq_getElem?_getD, List.getElem?_eq_getElem h]
  rfl
def okS (a : S44) : Bool := okA (toAr a)
theorem flag_ok (a : S44) : (valF a.f1 a.f2).2.2.2.2.2.2.2.2.2.2.2.2 = okS a := valF_ok a.f0 a.f1 a.f2
theorem drop_all (l : List S44) (i : Nat) (h : i < l.length) : (l.drop i).all okS = (okS l[i] && (l.drop (i + 1)).all okS) := by
  rw [List.drop_eq_getElem_cons h, List.all_cons]
theorem right_loop (l : List S44) (hl : l.length ≤ 1000000) (hs : ∀ a ∈ l, a.f2.size ≤ 100000) : ∀ (d i : Nat), l.length - i ≤ d → i ≤ l.length → script_Step_Right.l0 (d + 1) l (l.length : Int) (i : Int) = some ((l.drop i).all okS) := by
  intro d
  induction d with
  | zero =>
    intro i h1 h2
    rw [script_Step_Right.l0, if_neg (by omega), List.drop_of_length_le (by omega)]
    rfl
  | succ d ih =>
    intro i h1 h2
    by_cases hi : i < l.length
    · rw [script_Step_Right.l0, if_pos (by omega), if_pos (by omega), if_pos (by omega), rd44 l i hi, value_f _ _ _ (hs _ (List.getElem_mem hi)), Option.bind_some, flag_ok, drop_all l i hi]
      cases h : okS l[i]
      · rfl
      · rw [if_pos rfl, w64 _ (by omega) (by omega), show (i : Int) + 1 = ((i + 1 : Nat) : Int) by omega, ih (i + 1) (by omega) (by omega)]
        rfl
    · rw [script_Step_Right.l0, if_neg (by omega), List.drop_of_length_le (by omega)]
      rfl
theorem lright_loop (l : List S44) (hl : l.length ≤ 1000000) (hs : ∀ a ∈ l, a.f2.size ≤ 100000) : ∃ k0, ∀ k, k0 ≤ k → ∀ a ∈ l, polyglotlaw18_Value.f k a.f0 a.f1 a.f2 = some (valF a.f1 a.f2) := by
  induction l with
  | nil => exact ⟨0, fun k _ a ha => by cases ha⟩
  | cons a t ih =>
    obtain ⟨k1, h1⟩ := ih (by simp at hl; omega) (fun x hx => hs x (.tail _ hx))
    obtain ⟨k2, h2⟩ := lvalue_f a.f0 a.f1 a.f2 (hs a (.head _))
    refine ⟨max k1 k2, fun k hk x hx => ?_⟩
    rcases List.mem_cons.1 hx with rfl | hx
    · exact h2 k (by omega)
    · exact h1 k (by omega) x hx
def rightS (s : S29) : Bool := Net.right okA (toSt s)
theorem toSt_all (l : List S44) : (l.map toAr).all okA = l.all okS := by
  rw [List.all_map]
  rfl
theorem em_iff (s : ByteArray) : s = Net.em ↔ s.toList = ([] : List UInt8) := by
  rw [tl]
  exact ⟨fun h => by rw [h]; rfl, fun h => ba_ext h⟩
theorem map_nil_iff (l : List S44) : l.map toAr = [] ↔ (l.length : Int) = 0 := by
  cases l with
  | nil => simp
  | cons a t => simp; omega
theorem len_nil_iff (l : List ByteArray) : l = [] ↔ (l.length : Int) = 0 := by
  cases l with
  | nil => simp
  | cons a t => simp; omega
def shapeS (s : S29) : Bool :=
  if s.f0 = 0 then decide (s.f5 = Net.em ∧ s.f6 = Net.em ∧ s.f7.map toAr = [] ∧ s.f4 = []) else if s.f0 = 1 then decide (s.f5 = Net.em ∧ s.f6 = Net.em ∧ s.f7.map toAr = [] ∧ s.f2 = Net.em ∧ s.f3 = false)
  else if s.f0 = 2 then decide (s.f2 = Net.em ∧ s.f3 = false ∧ s.f1 = Net.em ∧ s.f4 = []) else false
theorem rightS_eq (s : S29) : rightS s = (s.f7.all okS && shapeS s) := by
  unfold rightS
  show ((s.f7.map toAr).all okA && _) = _
  rw [toSt_all]
  rfl
theorem right_f (s : S29) (k : Nat) (hk : s.f7.length + 2 ≤ k) (hl : s.f7.length ≤ 1000000) (hs : ∀ a ∈ s.f7, a.f2.size ≤ 100000) :
    script_Step_Right.f k s.f0 s.f1 s.f2 s.f3 s.f4 s.f5 s.f6 s.f7 = some (rightS s) := by
  obtain ⟨m, rfl⟩ : ∃ m, k = m + 1 := ⟨k - 1, by omega⟩
  have hj0 : script_Step_Right.j0 (m + 1) true s.f0 s.f1 s.f2 s.f3 s.f4 s.f5 s.f6 s.f7 = some false := by rw [script_Step_Right.j0, if_pos rfl]
  have hj1 : script_Step_Right.j0 (m + 1) false s.f0 s.f1 s.f2 s.f3 s.f4 s.f5 s.f6 s.f7 = some (s.f7.all okS) := by
    obtain ⟨d, rfl⟩ : ∃ d, m = d + 1 := ⟨m - 1, by omega⟩
    have := right_loop s.f7 hl hs d 0 (by omega) (by omega)
    rw [List.drop_zero] at this
    rw [script_Step_Right.j0, if_neg (by decide)]
    exact this
  rw [rightS_eq]
  unfold script_Step_Right.f shapeS
  simp only [em_iff, map_nil_iff, len_nil_iff]
  have h4 : (s.f4.length : Int) = 0 ∨ (s.f4.length : Int) > 0 := by omega
  have h7 : (s.f7.length : Int) = 0 ∨ (s.f7.length : Int) > 0 := by omega
  generalize (s.f7.length : Int) = n7 at *
  generalize s.f7.all okS = A at *
  generalize (s.f4.length : Int) = n4 at *
  obtain ⟨f0, f1, f2, f3, f4, f5, f6, f7⟩ := s
  have hD : ∀ n : Int, n = 0 ∨ n > 0 → decide (n > 0) = !decide (n = 0) := by
    intro n hn
    rcases hn with rfl | h
    · rfl
    · rw [decide_eq_true h, decide_eq_false (by omega)]
      rfl
  have hJ : ∀ b : Bool, script_Step_Right.j0 (m + 1) b f0 f1 f2 f3 f4 f5 f6 f7 = some (!b && A) := by
    intro b
    cases b
    · rw [hj1]; rfl
    · rw [hj0]; rfl
  simp only [hJ, hD n7 h7, hD n4 h4] at *
  clear hj0 hj1 hJ hD hl hs hk
  have e4 : (n4 > 0) = ¬ (n4 = 0) := by
    rw [eq_iff_iff]
    omega
  have e7 : (n7 > 0) = ¬ (n7 = 0) := by
    rw [eq_iff_iff]
    omega
  simp only [e4, e7] at *
  have hf : f0 = 0 ∨ f0 = 1 ∨ f0 = 2 ∨ f0 < 0 ∨ f0 > 2 := by omega
  rcases hf with rfl | rfl | rfl | h | h
  · by_cases c4 : n4 = 0 <;> by_cases c5 : f5.toList = [] <;> by_cases c6 : f6.toList = [] <;> by_cases c7 : n7 = 0 <;> simp [c4, c5, c6, c7]
  · cases f3 <;> by_cases c2 : f2.toList = [] <;> by_cases c5 : f5.toList = [] <;> by_cases c6 : f6.toList = [] <;> by_cases c7 : n7 = 0 <;> simp [c2, c5, c6, c7]
  · cases f3 <;> by_cases c2 : f2.toList = [] <;> by_cases c1 : f1.toList = [] <;> by_cases c4 : n4 = 0 <;> simp [c1, c2, c4]
  · rw [if_pos h, if_neg (by omega), if_neg (by omega), if_neg (by omega)]
    simp
  · rw [if_neg (by omega), if_pos h, if_neg (by omega), if_neg (by omega), if_neg (by omega)]
    simp
end Go.Proofs.YtdhpcofnddkcaaaGreatDoor.S
namespace Go.Proofs.YtdhpcofnddkcaaaGreatDoor.S
open Go.RowKit Go.Proofs.YtdhpcofnddkcaaaGreatDoor.G Go.Proofs.YtdhpcofnddkcaaaGreatDoorW.PrintWords Go.Proofs.YtdhpcofnddkcaaaGreatDoorW.PrintLast Go.Proofs.YtdhpcofnddkcaaaGreatDoorW.PrintMore
attribute [local go_sem] max2_int min2_int max_two min_two max_three min_three max_four min_four
set_option linter.unusedVariables false
set_option linter.unusedSimpArgs false
def script_part.f (a0 : ByteArray) : Option (ByteArray) := (strconv_Itoa.f (a0.size : Int)).bind fun t400 => (if t400.size + 1 ≤ 9223372036854775807 then (if (t400 ++ (⟨#[58]⟩ : ByteArray)).size + a0.size ≤ 9223372036854775807 then (if ((t400 ++ (⟨#[58]⟩ : ByteArray)) ++ a0).size + 1 ≤ 9223372036854775807 then (some (((t400 ++ (⟨#[58]⟩ : ByteArray)) ++ a0) ++ (⟨#[44]⟩ : ByteArray))) else (none)) else (none)) else (none))
set_option maxHeartbeats 8000000 in
set_option maxRecDepth 100000 in
theorem script_part.calls (a0 : ByteArray) (r : ByteArray) (w : World) (h : script_part.f a0 = some r) (HP0_ : TabP_ w := by exact TabP_.step HP0_ (by repeat (first | (with_reducible first | exact HB.out | apply below_alloc | apply pw_below_drewN | apply below_drew1 | refine below_set ?_ (Aside0.out (by assumption))) | exact HB.out))) :
    Calls Tryz.prog 23 #[.string a0] w fun e w' => e = .returned (.string r) ∧ Below w.heap.size w w' := by
  have HB := Aside0.mk (Below.refl w.heap.size w)
  have H : ((strconv_Itoa.f (a0.size : Int)).bind fun t400 => (if t400.size + 1 ≤ 9223372036854775807 then (if (t400 ++ (⟨#[58]⟩ : ByteArray)).size + a0.size ≤ 9223372036854775807 then (if ((t400 ++ (⟨#[58]⟩ : ByteArray)) ++ a0).size + 1 ≤ 9223372036854775807 then (some (((t400 ++ (⟨#[58]⟩ : ByteArray)) ++ a0) ++ (⟨#[44]⟩ : ByteArray))) else (none)) else (none)) else (none))) = some r := h
  clear h
  replace H := Option.bind_eq_some_iff.mp H
  obtain ⟨t400, A20, H⟩ := H
  replace H : (if t400.size + 1 ≤ 9223372036854775807 then (if (t400 ++ (⟨#[58]⟩ : ByteArray)).size + a0.size ≤ 9223372036854775807 then (if ((t400 ++ (⟨#[58]⟩ : ByteArray)) ++ a0).size + 1 ≤ 9223372036854775807 then (some (((t400 ++ (⟨#[58]⟩ : ByteArray)) ++ a0) ++ (⟨#[44]⟩ : ByteArray))) else (none)) else (none)) else (none)) = some r := H
  have A2 := Aside0.mk A20
  clear A20
  by_cases c3 : t400.size + 1 ≤ 9223372036854775807
  · rw [if_pos c3] at H
    have c3b0 := eq_true c3
    have c3b1 : decide (t400.size + 1 ≤ 9223372036854775807) = true := decide_eq_true c3
    try have c3b2 : (9223372036854775807 < t400.size + 1) = False := eq_false (Nat.not_lt.2 c3)
    by_cases c4 : (t400 ++ (⟨#[58]⟩ : ByteArray)).size + a0.size ≤ 9223372036854775807
    · rw [if_pos c4] at H
      have c4b0 := eq_true c4
      try have c4n := c4
      try simp only [ByteArray.size_append, show (⟨#[58]⟩ : ByteArray).size = 1 from rfl] at c4n
      try have c4m := eq_false (Nat.not_lt.2 c4n)
      try have c4k := eq_true c4n
      have c4b1 : decide ((t400 ++ (⟨#[58]⟩ : ByteArray)).size + a0.size ≤ 9223372036854775807) = true := decide_eq_true c4
      try have c4b2 : (9223372036854775807 < (t400 ++ (⟨#[58]⟩ : ByteArray)).size + a0.size) = False := eq_false (Nat.not_lt.2 c4)
      by_cases c5 : ((t400 ++ (⟨#[58]⟩ : ByteArray)) ++ a0).size + 1 ≤ 9223372036854775807
      · rw [if_pos c5] at H
        have c5b0 := eq_true c5
        try have c5n := c5
        try simp only [ByteArray.size_append, show (⟨#[58]⟩ : ByteArray).size = 1 from rfl] at c5n
        try have c5m := eq_false (Nat.not_lt.2 c5n)
        try have c5k := eq_true c5n
        have c5b1 : decide (((t400 ++ (⟨#[58]⟩ : ByteArray)) ++ a0).size + 1 ≤ 9223372036854775807) = true := decide_eq_true c5
        try have c5b2 : (9223372036854775807 < ((t400 ++ (⟨#[58]⟩ : ByteArray)) ++ a0).size + 1) = False := eq_false (Nat.not_lt.2 c5)
        obtain rfl := Option.some.inj H
        go_enter Tryz.func23, Tryz.ntmps23
        go_wp2_with (first | ((with_reducible refine gate_callee (f := 20) rfl ?_); refine goesL_ (some 5) rfl rfl Tryz.func20 (by kernel_rfl) rfl #[.int .i64 (a0.size : Int)] rfl (by (try simp only [List.map_toArray, List.map_cons, List.map_nil]); first | done | rfl | (simp only [List.length_drop, List.length_take]; rfl)) ?_; (with_reducible refine (strconv_Itoa.calls (a0.size : Int) t400 _ A2.out).mono ?_); rintro e w6 ⟨rfl, hb⟩; refine ⟨_, rfl, ?_⟩; have n0_ := Aside0.mk (below_step (by repeat (first | (with_reducible first | exact HB.out | apply below_alloc | apply pw_below_drewN | apply below_drew1) | exact HB.out)) hb); clear HB; have HB := n0_; clear n0_; (try clear hb); (try clear hb2); (try clear hk); (try clear hi)))
        go_ret
        exact ⟨by first | rfl | (simp [errW_none, errW_some] <;> rfl) | (simp [*, errW_none, errW_some] <;> rfl), by repeat (first | (with_reducible first | exact HB.out | apply below_alloc | apply pw_below_drewN | apply below_drew1) | exact HB.out)⟩
      · rw [if_neg c5] at H
        exact absurd H (by simp)
    · rw [if_neg c4] at H
      exact absurd H (by simp)
  · rw [if_neg c3] at H
    exact absurd H (by simp)
end Go.Proofs.YtdhpcofnddkcaaaGreatDoor.S
