/- polyglotlaw18.ScriptReads: for every slice of bytes the call returns true and leaves it unchanged. (Text 4 of 9: what the law's proof rests on, joined; walks printed by the kit's print over given contracts, walks and plain laws by hand.) -/
import Derived.Test.YtdhpcofnddkcaaaGreatDoorRd0
import Derived.Test.YtdhpcofnddkcaaaGreatDoorRd1
import Derived.Test.YtdhpcofnddkcaaaGreatDoorRd2
namespace Go.Proofs.YtdhpcofnddkcaaaGreatDoor.S
open Go.RowKit Go.Proofs.YtdhpcofnddkcaaaGreatDoor.G Go.Proofs.YtdhpcofnddkcaaaGreatDoorW.PrintWords Go.Proofs.YtdhpcofnddkcaaaGreatDoorW.PrintLast Go.Proofs.YtdhpcofnddkcaaaGreatDoorW.PrintMore
attribute [local go_sem] max2_int min2_int max_two min_two max_three min_three max_four min_four
set_option linter.unusedVariables false
set_option linter.unusedSimpArgs false
namespace Sx7
theorem cells3 {w : World} {g : Nat} {t : TypeId} {a0 a1 a2 : Value} (h : w.heap[g]? = some (.cells #[a0, a1, a2] t (0, 0))) : w.cell? ⟨g, 0, none⟩ = some a0 ∧ w.cell? ⟨g, 1, none⟩ = some a1 ∧ w.cell? ⟨g, 2, none⟩ = some a2 := ⟨(blk_cell h 0).trans rfl, (blk_cell h 1).trans rfl, (blk_cell h 2).trans rfl⟩
theorem cellsF3 {w : World} {g : Nat} {t : TypeId} {a0 a1 a2 : Value} (h : w.heap[g]? = some (.cells #[a0, a1, a2] t (0, 0))) : w.cell? ⟨g, 0, none⟩ = some a0 ∧ w.cell? ⟨g, 1, none⟩ = some a1 ∧ w.cell? ⟨g, 2, none⟩ = some a2 ∧ w.frozen? ⟨g, 0, none⟩ = false ∧ w.frozen? ⟨g, 1, none⟩ = false ∧ w.frozen? ⟨g, 2, none⟩ = false := ⟨(blk_cell h 0).trans rfl, (blk_cell h 1).trans rfl, (blk_cell h 2).trans rfl, blk_frozen h 0, blk_frozen h 1, blk_frozen h 2⟩
theorem cells12 {w : World} {g : Nat} {t : TypeId} {a0 a1 a2 a3 a4 a5 a6 a7 a8 a9 a10 a11 : Value} (h : w.heap[g]? = some (.cells #[a0, a1, a2, a3, a4, a5, a6, a7, a8, a9, a10, a11] t (0, 0))) : w.cell? ⟨g, 0, none⟩ = some a0 ∧ w.cell? ⟨g, 1, none⟩ = some a1 ∧ w.cell? ⟨g, 2, none⟩ = some a2 ∧ w.cell? ⟨g, 3, none⟩ = some a3 ∧ w.cell? ⟨g, 4, none⟩ = some a4 ∧ w.cell? ⟨g, 5, none⟩ = some a5 ∧ w.cell? ⟨g, 6, none⟩ = some a6 ∧ w.cell? ⟨g, 7, none⟩ = some a7 ∧ w.cell? ⟨g, 8, none⟩ = some a8 ∧ w.cell? ⟨g, 9, none⟩ = some a9 ∧ w.cell? ⟨g, 10, none⟩ = some a10 ∧ w.cell? ⟨g, 11, none⟩ = some a11 := ⟨(blk_cell h 0).trans rfl, (blk_cell h 1).trans rfl, (blk_cell h 2).trans rfl, (blk_cell h 3).trans rfl, (blk_cell h 4).trans rfl, (blk_cell h 5).trans rfl, (blk_cell h 6).trans rfl, (blk_cell h 7).trans rfl, (blk_cell h 8).trans rfl, (blk_cell h 9).trans rfl, (blk_cell h 10).trans rfl, (blk_cell h 11).trans rfl⟩
theorem cellsF12 {w : World} {g : Nat} {t : TypeId} {a0 a1 a2 a3 a4 a5 a6 a7 a8 a9 a10 a11 : Value} (h : w.heap[g]? = some (.cells #[a0, a1, a2, a3, a4, a5, a6, a7, a8, a9, a10, a11] t (0, 0))) : w.cell? ⟨g, 0, none⟩ = some a0 ∧ w.cell? ⟨g, 1, none⟩ = some a1 ∧ w.cell? ⟨g, 2, none⟩ = some a2 ∧ w.cell? ⟨g, 3, none⟩ = some a3 ∧ w.cell? ⟨g, 4, none⟩ = some a4 ∧ w.cell? ⟨g, 5, none⟩ = some a5 ∧ w.cell? ⟨g, 6, none⟩ = some a6 ∧ w.cell? ⟨g, 7, none⟩ = some a7 ∧ w.cell? ⟨g, 8, none⟩ = some a8 ∧ w.cell? ⟨g, 9, none⟩ = some a9 ∧ w.cell? ⟨g, 10, none⟩ = some a10 ∧ w.cell? ⟨g, 11, none⟩ = some a11 ∧ w.frozen? ⟨g, 0, none⟩ = false ∧ w.frozen? ⟨g, 1, none⟩ = false ∧ w.frozen? ⟨g, 2, none⟩ = false ∧ w.frozen? ⟨g, 3, none⟩ = false ∧ w.frozen? ⟨g, 4, none⟩ = false ∧ w.frozen? ⟨g, 5, none⟩ = false ∧ w.frozen? ⟨g, 6, none⟩ = false ∧ w.frozen? ⟨g, 7, none⟩ = false ∧ w.frozen? ⟨g, 8, none⟩ = false ∧ w.frozen? ⟨g, 9, none⟩ = false ∧ w.frozen? ⟨g, 10, none⟩ = false ∧ w.frozen? ⟨g, 11, none⟩ = false := ⟨(blk_cell h 0).trans rfl, (blk_cell h 1).trans rfl, (blk_cell h 2).trans rfl, (blk_cell h 3).trans rfl, (blk_cell h 4).trans rfl, (blk_cell h 5).trans rfl, (blk_cell h 6).trans rfl, (blk_cell h 7).trans rfl, (blk_cell h 8).trans rfl, (blk_cell h 9).trans rfl, (blk_cell h 10).trans rfl, (blk_cell h 11).trans rfl, blk_frozen h 0, blk_frozen h 1, blk_frozen h 2, blk_frozen h 3, blk_frozen h 4, blk_frozen h 5, blk_frozen h 6, blk_frozen h 7, blk_frozen h 8, blk_frozen h 9, blk_frozen h 10, blk_frozen h 11⟩
theorem q0_ {p_ : Prop} (h_ : p_ := by (with_reducible repeat (first | refine blk_drewN ?_ _ | refine blk_drew ?_ | refine blk_alloc ?_ _)); refine blk_put (cs := #[.int .i64 0, .string (⟨#[]⟩ : ByteArray), .bool false, .string (⟨#[]⟩ : ByteArray), .int .i64 0, .int .i64 0, .int .i64 0, .int .i64 0, .bool false, .bool false, .int .i64 0, .int .i64 0]) ?_ 11 _ rfl; (with_reducible repeat (first | refine blk_drewN ?_ _ | refine blk_drew ?_ | refine blk_alloc ?_ _)); refine blk_put (cs := #[.int .i64 0, .string (⟨#[]⟩ : ByteArray), .bool false, .string (⟨#[]⟩ : ByteArray), .int .i64 0, .int .i64 0, .int .i64 0, .int .i64 0, .bool false, .bool false, .int .i64 0, .int .i64 0]) ?_ 10 _ rfl; (with_reducible repeat (first | refine blk_drewN ?_ _ | refine blk_drew ?_ | refine blk_alloc ?_ _)); refine blk_put (cs := #[.int .i64 0, .string (⟨#[]⟩ : ByteArray), .bool false, .string (⟨#[]⟩ : ByteArray), .int .i64 0, .int .i64 0, .int .i64 0, .int .i64 0, .bool false, .bool false, .int .i64 0, .int .i64 0]) ?_ 9 _ rfl; (with_reducible repeat (first | refine blk_drewN ?_ _ | refine blk_drew ?_ | refine blk_alloc ?_ _)); refine blk_put (cs := #[.int .i64 0, .string (⟨#[]⟩ : ByteArray), .bool false, .string (⟨#[]⟩ : ByteArray), .int .i64 0, .int .i64 0, .int .i64 0, .int .i64 0, .bool false, .bool false, .int .i64 0, .int .i64 0]) ?_ 8 _ rfl; (with_reducible repeat (first | refine blk_drewN ?_ _ | refine blk_drew ?_ | refine blk_alloc ?_ _)); refine blk_put (cs := #[.int .i64 0, .string (⟨#[]⟩ : ByteArray), .bool false, .string (⟨#[]⟩ : ByteArray), .int .i64 0, .int .i64 0, .int .i64 0, .int .i64 0, .bool false, .bool false, .int .i64 0, .int .i64 0]) ?_ 7 _ rfl; (with_reducible repeat (first | refine blk_drewN ?_ _ | refine blk_drew ?_ | refine blk_alloc ?_ _)); refine blk_put (cs := #[.int .i64 0, .string (⟨#[]⟩ : ByteArray), .bool false, .string (⟨#[]⟩ : ByteArray), .int .i64 0, .int .i64 0, .int .i64 0, .int .i64 0, .bool false, .bool false, .int .i64 0, .int .i64 0]) ?_ 6 _ rfl; (with_reducible repeat (first | refine blk_drewN ?_ _ | refine blk_drew ?_ | refine blk_alloc ?_ _)); refine blk_put (cs := #[.int .i64 0, .string (⟨#[]⟩ : ByteArray), .bool false, .string (⟨#[]⟩ : ByteArray), .int .i64 0, .int .i64 0, .int .i64 0, .int .i64 0, .bool false, .bool false, .int .i64 0, .int .i64 0]) ?_ 5 _ rfl; (with_reducible repeat (first | refine blk_drewN ?_ _ | refine blk_drew ?_ | refine blk_alloc ?_ _)); refine blk_put (cs := #[.int .i64 0, .string (⟨#[]⟩ : ByteArray), .bool false, .string (⟨#[]⟩ : ByteArray), .int .i64 0, .int .i64 0, .int .i64 0, .int .i64 0, .bool false, .bool false, .int .i64 0, .int .i64 0]) ?_ 4 _ rfl; (with_reducible repeat (first | refine blk_drewN ?_ _ | refine blk_drew ?_ | refine blk_alloc ?_ _)); refine blk_put (cs := #[.int .i64 0, .string (⟨#[]⟩ : ByteArray), .bool false, .string (⟨#[]⟩ : ByteArray), .int .i64 0, .int .i64 0, .int .i64 0, .int .i64 0, .bool false, .bool false, .int .i64 0, .int .i64 0]) ?_ 3 _ rfl; (with_reducible repeat (first | refine blk_drewN ?_ _ | refine blk_drew ?_ | refine blk_alloc ?_ _)); refine blk_put (cs := #[.int .i64 0, .string (⟨#[]⟩ : ByteArray), .bool false, .string (⟨#[]⟩ : ByteArray), .int .i64 0, .int .i64 0, .int .i64 0, .int .i64 0, .bool false, .bool false, .int .i64 0, .int .i64 0]) ?_ 2 _ rfl; (with_reducible repeat (first | refine blk_drewN ?_ _ | refine blk_drew ?_ | refine blk_alloc ?_ _)); refine blk_put (cs := #[.int .i64 0, .string (⟨#[]⟩ : ByteArray), .bool false, .string (⟨#[]⟩ : ByteArray), .int .i64 0, .int .i64 0, .int .i64 0, .int .i64 0, .bool false, .bool false, .int .i64 0, .int .i64 0]) ?_ 1 _ rfl; (with_reducible repeat (first | refine blk_drewN ?_ _ | refine blk_drew ?_ | refine blk_alloc ?_ _)); refine blk_put (cs := #[.int .i64 0, .string (⟨#[]⟩ : ByteArray), .bool false, .string (⟨#[]⟩ : ByteArray), .int .i64 0, .int .i64 0, .int .i64 0, .int .i64 0, .bool false, .bool false, .int .i64 0, .int .i64 0]) ?_ 0 _ rfl; (with_reducible repeat (first | refine blk_drewN ?_ _ | refine blk_drew ?_ | refine blk_alloc ?_ _)); exact BK148.out) : p_ := h_
theorem q1_ {p_ : Prop} (h_ : p_ := by (with_reducible repeat (first | refine blk_drewN ?_ _ | refine blk_drew ?_ | refine blk_alloc ?_ _)); exact BK147.out) : p_ := h_
theorem q2_ {p_ : Prop} (h_ : p_ := by repeat (first | (with_reducible first | exact HB.out | apply below_alloc | apply pw_below_drewN | apply below_drew1 | refine below_set ?_ GE147.out | refine below_set ?_ GE148.out) | exact HB.out)) : p_ := h_
theorem q3_ {p_ : Prop} (h_ : p_ := by repeat (first | (with_reducible first | exact HB.out | apply below_alloc | apply pw_below_drewN | apply below_drew1 | refine below_set ?_ GE147.out) | exact HB.out)) : p_ := h_
theorem q4_ {p_ : Prop} (h_ : p_ := by repeat (first | (with_reducible first | exact HB.out | apply below_alloc | apply pw_below_drewN | apply below_drew1) | exact HB.out)) : p_ := h_
theorem q5_ {p_ : Prop} (h_ : p_ := by (with_reducible repeat (first | refine blk_drewN ?_ _ | refine blk_drew ?_ | refine blk_alloc ?_ _)); exact BK148.out) : p_ := h_
theorem q6_ {p_ : Prop} (h_ : p_ := by rw [hg]; exact Nat.ne_of_lt (blk_lt (g := gb147) (o := .cells #[.string a0_0, .int .i64 a0_1, .string a0_2] 44 (0, 0)) q1_)) : p_ := h_
theorem q7_ {p_ : Prop} (h_ : p_ := by rw [hg]; exact Nat.ne_of_gt (blk_lt (g := gb147) (o := .cells #[.string a0_0, .int .i64 a0_1, .string a0_2] 44 (0, 0)) q1_)) : p_ := h_
theorem q8_ {p_ : Prop} (h_ : p_ := by (try simp only [List.map_toArray, List.map_cons, List.map_nil]); first | done | rfl | (simp only [List.length_drop, List.length_take]; rfl)) : p_ := h_
theorem q9_ {p_ : Prop} (h_ : p_ := by first | rfl | (simp [errW_none, errW_some] <;> rfl) | (simp [*, errW_none, errW_some] <;> rfl)) : p_ := h_
theorem q10_ {p_ : Prop} (h_ : p_ := by repeat (first | (with_reducible first | exact HB.out | apply below_alloc | apply pw_below_drewN | apply below_drew1 | refine below_set ?_ GE147.out | refine below_set ?_ GE148.out | refine below_set ?_ GE165.out) | exact HB.out)) : p_ := h_
theorem q11_ {p_ : Prop} (h_ : p_ := by rw [hg]; exact (below_size q4_)) : p_ := h_
theorem q12_ {p_ : Prop} (h_ : p_ := by rw [hg]; exact (below_size q3_)) : p_ := h_
theorem q13_ {p_ : Prop} (h_ : p_ := by rw [hg]; exact Nat.ne_of_lt (blk_lt (g := gb148) (o := .cells #[.int .i64 0, .string (⟨#[]⟩ : ByteArray), .bool false, .string (⟨#[]⟩ : ByteArray), .int .i64 0, .int .i64 0, .int .i64 0, .int .i64 0, .bool false, .bool false, .int .i64 0, .int .i64 0] 51 (0, 0)) q5_)) : p_ := h_
theorem q14_ {p_ : Prop} (h_ : p_ := by rw [hg]; exact Nat.ne_of_gt (blk_lt (g := gb148) (o := .cells #[.int .i64 0, .string (⟨#[]⟩ : ByteArray), .bool false, .string (⟨#[]⟩ : ByteArray), .int .i64 0, .int .i64 0, .int .i64 0, .int .i64 0, .bool false, .bool false, .int .i64 0, .int .i64 0] 51 (0, 0)) q5_)) : p_ := h_
theorem u0_ {p_ : Prop} (h_ : p_ := by first | (go_simp; done) | (go_simp; rfl)) : p_ := h_
end Sx7
open Sx7
def script_Arg_Value.f (a0_0 : ByteArray) (a0_1 : Int) (a0_2 : ByteArray) : Option (Int × ByteArray × Bool × ByteArray × Int × Int × Int × Int × Bool × Bool × Int × Int × Bool) := if a0_1 = 0 then ((value_Str.f a0_2).bind fun bt149 => (some (bt149.1, bt149.2.1, bt149.2.2.1, bt149.2.2.2.1, bt149.2.2.2.2.1, bt149.2.2.2.2.2.1, bt149.2.2.2.2.2.2.1, bt149.2.2.2.2.2.2.2.1, bt149.2.2.2.2.2.2.2.2.1, bt149.2.2.2.2.2.2.2.2.2.1, bt149.2.2.2.2.2.2.2.2.2.2.1, bt149.2.2.2.2.2.2.2.2.2.2.2, true))) else (if a0_1 = 1 then ((dec_Parse.f a0_2).bind fun bt161 => (if bt161.2.2.2 = true then ((value_Num.f bt161.1 bt161.2.1 bt161.2.2.1).bind fun bt166 => (some (bt166.1, bt166.2.1, bt166.2.2.1, bt166.2.2.2.1, bt166.2.2.2.2.1, bt166.2.2.2.2.2.1, bt166.2.2.2.2.2.2.1, bt166.2.2.2.2.2.2.2.1, bt166.2.2.2.2.2.2.2.2.1, bt166.2.2.2.2.2.2.2.2.2.1, bt166.2.2.2.2.2.2.2.2.2.2.1, bt166.2.2.2.2.2.2.2.2.2.2.2, true))) else (some (0, (⟨#[]⟩ : ByteArray), false, (⟨#[]⟩ : ByteArray), 0, 0, 0, 0, false, false, 0, 0, false)))) else (if a0_1 = 2 then ((script_seconds.f a0_2).bind fun bt178 => (if bt178.2 = true then ((value_At.f bt178.1).bind fun bt180 => (some (bt180.1, bt180.2.1, bt180.2.2.1, bt180.2.2.2.1, bt180.2.2.2.2.1, bt180.2.2.2.2.2.1, bt180.2.2.2.2.2.2.1, bt180.2.2.2.2.2.2.2.1, bt180.2.2.2.2.2.2.2.2.1, bt180.2.2.2.2.2.2.2.2.2.1, bt180.2.2.2.2.2.2.2.2.2.2.1, bt180.2.2.2.2.2.2.2.2.2.2.2, true))) else (some (0, (⟨#[]⟩ : ByteArray), false, (⟨#[]⟩ : ByteArray), 0, 0, 0, 0, false, false, 0, 0, false)))) else (some (0, (⟨#[]⟩ : ByteArray), false, (⟨#[]⟩ : ByteArray), 0, 0, 0, 0, false, false, 0, 0, false))))
set_option maxHeartbeats 8000000 in
set_option maxRecDepth 100000 in
theorem script_Arg_Value.calls (a0_0 : ByteArray) (a0_1 : Int) (a0_2 : ByteArray) (r1 : Int) (r2 : ByteArray) (r3 : Bool) (r4 : ByteArray) (r5 : Int) (r6 : Int) (r7 : Int) (r8 : Int) (r9 : Bool) (r10 : Bool) (r11 : Int) (r12 : Int) (r13 : Bool) (w : World) (h : script_Arg_Value.f a0_0 a0_1 a0_2 = some (r1, r2, r3, r4, r5, r6, r7, r8, r9, r10, r11, r12, r13)) (HT0_ : Tab_ w := by exact Tab_.step HT0_ (by repeat (first | (with_reducible first | exact HB.out | apply below_alloc | apply pw_below_drewN | apply below_drew1 | refine below_set ?_ (Aside0.out (by assumption))) | exact HB.out))) (HP0_ : TabP_ w := by exact TabP_.step HP0_ (by repeat (first | (with_reducible first | exact HB.out | apply below_alloc | apply pw_below_drewN | apply below_drew1 | refine below_set ?_ (Aside0.out (by assumption))) | exact HB.out))) (HE0_ : TabE_ w := by exact TabE_.step HE0_ (by repeat (first | (with_reducible first | exact HB.out | apply below_alloc | apply pw_below_drewN | apply below_drew1 | refine below_set ?_ (Aside0.out (by assumption))) | exact HB.out))) :
  Calls Tryz.prog 17 #[.agg #[.string a0_0, .int .i64 a0_1, .string a0_2]] w fun e w' => e = .returned (.tuple #[.agg #[.int .i64 r1, .string r2, .bool r3, .string r4, .int .i64 r5, .int .i64 r6, .int .i64 r7, .int .i64 r8, .bool r9, .bool r10, .int .i64 r11, .int .i64 r12], .bool r13]) ∧ Below w.heap.size w w' := by
 have hu44 := Tryz.underlying44
 have hu51 := Tryz.underlying51
 have hu46 := Tryz.underlying46
 have HB := Aside0.mk (Below.refl w.heap.size w)
 have H : (if a0_1 = 0 then ((value_Str.f a0_2).bind fun bt149 => (some (bt149.1, bt149.2.1, bt149.2.2.1, bt149.2.2.2.1, bt149.2.2.2.2.1, bt149.2.2.2.2.2.1, bt149.2.2.2.2.2.2.1, bt149.2.2.2.2.2.2.2.1, bt149.2.2.2.2.2.2.2.2.1, bt149.2.2.2.2.2.2.2.2.2.1, bt149.2.2.2.2.2.2.2.2.2.2.1, bt149.2.2.2.2.2.2.2.2.2.2.2, true))) else (if a0_1 = 1 then ((dec_Parse.f a0_2).bind fun bt161 => (if bt161.2.2.2 = true then ((value_Num.f bt161.1 bt161.2.1 bt161.2.2.1).bind fun bt166 => (some (bt166.1, bt166.2.1, bt166.2.2.1, bt166.2.2.2.1, bt166.2.2.2.2.1, bt166.2.2.2.2.2.1, bt166.2.2.2.2.2.2.1, bt166.2.2.2.2.2.2.2.1, bt166.2.2.2.2.2.2.2.2.1, bt166.2.2.2.2.2.2.2.2.2.1, bt166.2.2.2.2.2.2.2.2.2.2.1, bt166.2.2.2.2.2.2.2.2.2.2.2, true))) else (some (0, (⟨#[]⟩ : ByteArray), false, (⟨#[]⟩ : ByteArray), 0, 0, 0, 0, false, false, 0, 0, false)))) else (if a0_1 = 2 then ((script_seconds.f a0_2).bind fun bt178 => (if bt178.2 = true then ((value_At.f bt178.1).bind fun bt180 => (some (bt180.1, bt180.2.1, bt180.2.2.1, bt180.2.2.2.1, bt180.2.2.2.2.1, bt180.2.2.2.2.2.1, bt180.2.2.2.2.2.2.1, bt180.2.2.2.2.2.2.2.1, bt180.2.2.2.2.2.2.2.2.1, bt180.2.2.2.2.2.2.2.2.2.1, bt180.2.2.2.2.2.2.2.2.2.2.1, bt180.2.2.2.2.2.2.2.2.2.2.2, true))) else (some (0, (⟨#[]⟩ : ByteArray), false, (⟨#[]⟩ : ByteArray), 0, 0, 0, 0, false, false, 0, 0, false)))) else (some (0, (⟨#[]⟩ : ByteArray), false, (⟨#[]⟩ : ByteArray), 0, 0, 0, 0, false, false, 0, 0, false))))) = some (r1, r2, r3, r4, r5, r6, r7, r8, r9, r10, r11, r12, r13) := h
 clear h
 by_cases c2 : a0_1 = 0
 ·rw [if_pos c2] at H
  have c2b0 : (a0_1 == 0) = true := beq_iff_eq.mpr c2
  have c2b1 : (a0_1 != 0) = false := bne_eq_false_iff_eq.mpr c2
  clear c2
  replace H := Option.bind_eq_some_iff.mp H
  obtain ⟨⟨t149, t150, t151, t152, t153, t154, t155, t156, t157, t158, t159, t160⟩, A30, H⟩ := H
  replace H : (some (t149, t150, t151, t152, t153, t154, t155, t156, t157, t158, t159, t160, true)) = some (r1, r2, r3, r4, r5, r6, r7, r8, r9, r10, r11, r12, r13) := H
  have A3 := Aside0.mk A30
  clear A30
  simp only [Option.some.injEq, Prod.mk.injEq] at H
  obtain ⟨rfl, rfl, rfl, rfl, rfl, rfl, rfl, rfl, rfl, rfl, rfl, rfl, rfl⟩ := H
  go_enter Tryz.func17, Tryz.ntmps17
  go_wp2_with (first | ((with_reducible refine gate_dst (N := 1) rfl ?_); refine box_event ?hg (N := 1) ?hd (cs := #[.string a0_0, .int .i64 a0_1, .string a0_2]) (t := 44) ?hr ?_; (case hd => rfl); (case hg => rfl); (case hr => exact u0_); intro gb147 hg w4 hbox hb; have BK147 := Aside0.mk (hbox); have GW147 := Aside0.mk ((q11_ : w.heap.size ≤ gb147)); have GE147 := Aside0.mk ((q11_ : w.heap.size ≤ gb147)); replace HB := Aside0.mk (below_step q4_ hb); clear hb hbox hg) | ((with_reducible refine gate_dst (N := 2) rfl ?_); refine box_event ?hg (N := 2) ?hd (cs := #[.int .i64 0, .string (⟨#[]⟩ : ByteArray), .bool false, .string (⟨#[]⟩ : ByteArray), .int .i64 0, .int .i64 0, .int .i64 0, .int .i64 0, .bool false, .bool false, .int .i64 0, .int .i64 0]) (t := 51) ?hr ?_; (case hd => rfl); (case hg => rfl); (case hr => exact u0_); intro gb148 hg w5 hbox hb; have BK148 := Aside0.mk (hbox); have GW148 := Aside0.mk ((q12_ : w.heap.size ≤ gb148)); have GE148 := Aside0.mk ((q12_ : w.heap.size ≤ gb148)); replace HB := Aside0.mk (below_step q3_ hb); have NB147_148 := Aside0.mk ((q6_ : gb147 ≠ gb148)); have NB148_147 := Aside0.mk ((q7_ : gb148 ≠ gb147)); replace BK147 := Aside0.mk (blk_below (g := gb147) (o := .cells #[.string a0_0, .int .i64 a0_1, .string a0_2] 44 (0, 0)) q1_ hb); clear hb hbox hg; have hnb6 := NB147_148.out; have hnc6 := NB148_147.out; obtain ⟨hcz7_0, hcz7_1, hcz7_2, hfz7_0, hfz7_1, hfz7_2⟩ := cellsF3 BK147.out) | ((with_reducible refine gate_callee (f := 26) rfl ?_); refine goesL_ (some 14) rfl rfl Tryz.func26 (by kernel_rfl) rfl #[.string a0_2] rfl q8_ ?_; (with_reducible refine (value_Str.calls a0_2 t149 t150 t151 t152 t153 t154 t155 t156 t157 t158 t159 t160 _ A3.out).mono ?_); rintro e w8 ⟨rfl, hb⟩; refine ⟨_, rfl, ?_⟩; replace BK147 := Aside0.mk (blk_below (g := gb147) (o := .cells #[.string a0_0, .int .i64 a0_1, .string a0_2] 44 (0, 0)) q1_ hb); replace BK148 := Aside0.mk (blk_below (g := gb148) (o := .cells #[.int .i64 0, .string (⟨#[]⟩ : ByteArray), .bool false, .string (⟨#[]⟩ : ByteArray), .int .i64 0, .int .i64 0, .int .i64 0, .int .i64 0, .bool false, .bool false, .int .i64 0, .int .i64 0] 51 (0, 0)) q5_ hb); replace HB := Aside0.mk (below_step q2_ hb); (try clear hb); (try clear hb2); (try clear hk); (try clear hi); obtain ⟨hcz9_0, hcz9_1, hcz9_2, hcz9_3, hcz9_4, hcz9_5, hcz9_6, hcz9_7, hcz9_8, hcz9_9, hcz9_10, hcz9_11, hfz9_0, hfz9_1, hfz9_2, hfz9_3, hfz9_4, hfz9_5, hfz9_6, hfz9_7, hfz9_8, hfz9_9, hfz9_10, hfz9_11⟩ := cellsF12 BK148.out))
  refine bodyPost_ret (results_ct rfl _ _ gb148 51 #[.int .i64 t149, .string t150, .bool t151, .string t152, .int .i64 t153, .int .i64 t154, .int .i64 t155, .int .i64 t156, .bool t157, .bool t158, .int .i64 t159, .int .i64 t160] (0, 0) _ rfl (by (with_reducible repeat (first | refine blk_drewN ?_ _ | refine blk_drew ?_ | refine blk_alloc ?_ _)); refine blk_put (cs := #[.int .i64 t149, .string t150, .bool t151, .string t152, .int .i64 t153, .int .i64 t154, .int .i64 t155, .int .i64 t156, .bool t157, .bool t158, .int .i64 t159, .int .i64 0]) ?_ 11 _ rfl; (with_reducible repeat (first | refine blk_drewN ?_ _ | refine blk_drew ?_ | refine blk_alloc ?_ _)); refine blk_put (cs := #[.int .i64 t149, .string t150, .bool t151, .string t152, .int .i64 t153, .int .i64 t154, .int .i64 t155, .int .i64 t156, .bool t157, .bool t158, .int .i64 0, .int .i64 0]) ?_ 10 _ rfl; (with_reducible repeat (first | refine blk_drewN ?_ _ | refine blk_drew ?_ | refine blk_alloc ?_ _)); refine blk_put (cs := #[.int .i64 t149, .string t150, .bool t151, .string t152, .int .i64 t153, .int .i64 t154, .int .i64 t155, .int .i64 t156, .bool t157, .bool false, .int .i64 0, .int .i64 0]) ?_ 9 _ rfl; (with_reducible repeat (first | refine blk_drewN ?_ _ | refine blk_drew ?_ | refine blk_alloc ?_ _)); refine blk_put (cs := #[.int .i64 t149, .string t150, .bool t151, .string t152, .int .i64 t153, .int .i64 t154, .int .i64 t155, .int .i64 t156, .bool false, .bool false, .int .i64 0, .int .i64 0]) ?_ 8 _ rfl; (with_reducible repeat (first | refine blk_drewN ?_ _ | refine blk_drew ?_ | refine blk_alloc ?_ _)); refine blk_put (cs := #[.int .i64 t149, .string t150, .bool t151, .string t152, .int .i64 t153, .int .i64 t154, .int .i64 t155, .int .i64 0, .bool false, .bool false, .int .i64 0, .int .i64 0]) ?_ 7 _ rfl; (with_reducible repeat (first | refine blk_drewN ?_ _ | refine blk_drew ?_ | refine blk_alloc ?_ _)); refine blk_put (cs := #[.int .i64 t149, .string t150, .bool t151, .string t152, .int .i64 t153, .int .i64 t154, .int .i64 0, .int .i64 0, .bool false, .bool false, .int .i64 0, .int .i64 0]) ?_ 6 _ rfl; (with_reducible repeat (first | refine blk_drewN ?_ _ | refine blk_drew ?_ | refine blk_alloc ?_ _)); refine blk_put (cs := #[.int .i64 t149, .string t150, .bool t151, .string t152, .int .i64 t153, .int .i64 0, .int .i64 0, .int .i64 0, .bool false, .bool false, .int .i64 0, .int .i64 0]) ?_ 5 _ rfl; (with_reducible repeat (first | refine blk_drewN ?_ _ | refine blk_drew ?_ | refine blk_alloc ?_ _)); refine blk_put (cs := #[.int .i64 t149, .string t150, .bool t151, .string t152, .int .i64 0, .int .i64 0, .int .i64 0, .int .i64 0, .bool false, .bool false, .int .i64 0, .int .i64 0]) ?_ 4 _ rfl; (with_reducible repeat (first | refine blk_drewN ?_ _ | refine blk_drew ?_ | refine blk_alloc ?_ _)); refine blk_put (cs := #[.int .i64 t149, .string t150, .bool t151, .string (⟨#[]⟩ : ByteArray), .int .i64 0, .int .i64 0, .int .i64 0, .int .i64 0, .bool false, .bool false, .int .i64 0, .int .i64 0]) ?_ 3 _ rfl; (with_reducible repeat (first | refine blk_drewN ?_ _ | refine blk_drew ?_ | refine blk_alloc ?_ _)); refine blk_put (cs := #[.int .i64 t149, .string t150, .bool false, .string (⟨#[]⟩ : ByteArray), .int .i64 0, .int .i64 0, .int .i64 0, .int .i64 0, .bool false, .bool false, .int .i64 0, .int .i64 0]) ?_ 2 _ rfl; (with_reducible repeat (first | refine blk_drewN ?_ _ | refine blk_drew ?_ | refine blk_alloc ?_ _)); refine blk_put (cs := #[.int .i64 t149, .string (⟨#[]⟩ : ByteArray), .bool false, .string (⟨#[]⟩ : ByteArray), .int .i64 0, .int .i64 0, .int .i64 0, .int .i64 0, .bool false, .bool false, .int .i64 0, .int .i64 0]) ?_ 1 _ rfl; (with_reducible repeat (first | refine blk_drewN ?_ _ | refine blk_drew ?_ | refine blk_alloc ?_ _)); refine blk_put (cs := #[.int .i64 0, .string (⟨#[]⟩ : ByteArray), .bool false, .string (⟨#[]⟩ : ByteArray), .int .i64 0, .int .i64 0, .int .i64 0, .int .i64 0, .bool false, .bool false, .int .i64 0, .int .i64 0]) ?_ 0 _ rfl; (with_reducible repeat (first | refine blk_drewN ?_ _ | refine blk_drew ?_ | refine blk_alloc ?_ _)); exact BK148.out) Tryz.underlying51 rfl (by kernel_rfl)) rfl ?_
  exact ⟨q9_, q2_⟩
 ·rw [if_neg c2] at H
  have c2b0 : (a0_1 == 0) = false := beq_eq_false_iff_ne.mpr c2
  have c2b1 : (a0_1 != 0) = true := bne_iff_ne.mpr c2
  by_cases c10 : a0_1 = 1
  ·rw [if_pos c10] at H
   have c10b0 : (a0_1 == 1) = true := beq_iff_eq.mpr c10
   have c10b1 : (a0_1 != 1) = false := bne_eq_false_iff_eq.mpr c10
   clear c10
   replace H := Option.bind_eq_some_iff.mp H
   obtain ⟨⟨t161, t162, t163, t164⟩, A110, H⟩ := H
   replace H : (if t164 = true then ((value_Num.f t161 t162 t163).bind fun bt166 => (some (bt166.1, bt166.2.1, bt166.2.2.1, bt166.2.2.2.1, bt166.2.2.2.2.1, bt166.2.2.2.2.2.1, bt166.2.2.2.2.2.2.1, bt166.2.2.2.2.2.2.2.1, bt166.2.2.2.2.2.2.2.2.1, bt166.2.2.2.2.2.2.2.2.2.1, bt166.2.2.2.2.2.2.2.2.2.2.1, bt166.2.2.2.2.2.2.2.2.2.2.2, true))) else (some (0, (⟨#[]⟩ : ByteArray), false, (⟨#[]⟩ : ByteArray), 0, 0, 0, 0, false, false, 0, 0, false))) = some (r1, r2, r3, r4, r5, r6, r7, r8, r9, r10, r11, r12, r13) := H
   have A11 := Aside0.mk A110
   clear A110
   by_cases c12 : t164 = true
   ·subst c12
    have H1 : ((value_Num.f t161 t162 t163).bind fun bt166 => (some (bt166.1, bt166.2.1, bt166.2.2.1, bt166.2.2.2.1, bt166.2.2.2.2.1, bt166.2.2.2.2.2.1, bt166.2.2.2.2.2.2.1, bt166.2.2.2.2.2.2.2.1, bt166.2.2.2.2.2.2.2.2.1, bt166.2.2.2.2.2.2.2.2.2.1, bt166.2.2.2.2.2.2.2.2.2.2.1, bt166.2.2.2.2.2.2.2.2.2.2.2, true))) = some (r1, r2, r3, r4, r5, r6, r7, r8, r9, r10, r11, r12, r13) := by rw [if_pos rfl] at H; exact H
    clear H
    have H := H1
    clear H1
    replace H := Option.bind_eq_some_iff.mp H
    obtain ⟨⟨t166, t167, t168, t169, t170, t171, t172, t173, t174, t175, t176, t177⟩, A130, H⟩ := H
    replace H : (some (t166, t167, t168, t169, t170, t171, t172, t173, t174, t175, t176, t177, true)) = some (r1, r2, r3, r4, r5, r6, r7, r8, r9, r10, r11, r12, r13) := H
    have A13 := Aside0.mk A130
    clear A130
    simp only [Option.some.injEq, Prod.mk.injEq] at H
    obtain ⟨rfl, rfl, rfl, rfl, rfl, rfl, rfl, rfl, rfl, rfl, rfl, rfl, rfl⟩ := H
    go_enter Tryz.func17, Tryz.ntmps17
    go_wp2_with (first | ((with_reducible refine gate_dst (N := 1) rfl ?_); refine box_event ?hg (N := 1) ?hd (cs := #[.string a0_0, .int .i64 a0_1, .string a0_2]) (t := 44) ?hr ?_; (case hd => rfl); (case hg => rfl); (case hr => exact u0_); intro gb147 hg w14 hbox hb; have BK147 := Aside0.mk (hbox); have GW147 := Aside0.mk ((q11_ : w.heap.size ≤ gb147)); have GE147 := Aside0.mk ((q11_ : w.heap.size ≤ gb147)); replace HB := Aside0.mk (below_step q4_ hb); clear hb hbox hg) | ((with_reducible refine gate_dst (N := 2) rfl ?_); refine box_event ?hg (N := 2) ?hd (cs := #[.int .i64 0, .string (⟨#[]⟩ : ByteArray), .bool false, .string (⟨#[]⟩ : ByteArray), .int .i64 0, .int .i64 0, .int .i64 0, .int .i64 0, .bool false, .bool false, .int .i64 0, .int .i64 0]) (t := 51) ?hr ?_; (case hd => rfl); (case hg => rfl); (case hr => exact u0_); intro gb148 hg w15 hbox hb; have BK148 := Aside0.mk (hbox); have GW148 := Aside0.mk ((q12_ : w.heap.size ≤ gb148)); have GE148 := Aside0.mk ((q12_ : w.heap.size ≤ gb148)); replace HB := Aside0.mk (below_step q3_ hb); have NB147_148 := Aside0.mk ((q6_ : gb147 ≠ gb148)); have NB148_147 := Aside0.mk ((q7_ : gb148 ≠ gb147)); replace BK147 := Aside0.mk (blk_below (g := gb147) (o := .cells #[.string a0_0, .int .i64 a0_1, .string a0_2] 44 (0, 0)) q1_ hb); clear hb hbox hg; have hnb16 := NB147_148.out; have hnc16 := NB148_147.out; obtain ⟨hcz17_0, hcz17_1, hcz17_2, hfz17_0, hfz17_1, hfz17_2⟩ := cellsF3 BK147.out) | ((with_reducible refine gate_callee (f := 27) rfl ?_); refine goesL_ (some 20) rfl rfl Tryz.func27 (by kernel_rfl) rfl #[.string a0_2] rfl q8_ ?_; (with_reducible refine (dec_Parse.calls a0_2 t161 t162 t163 true _ A11.out).mono ?_); rintro e w18 ⟨rfl, hb⟩; refine ⟨_, rfl, ?_⟩; replace BK147 := Aside0.mk (blk_below (g := gb147) (o := .cells #[.string a0_0, .int .i64 a0_1, .string a0_2] 44 (0, 0)) q1_ hb); replace BK148 := Aside0.mk (blk_below (g := gb148) (o := .cells #[.int .i64 0, .string (⟨#[]⟩ : ByteArray), .bool false, .string (⟨#[]⟩ : ByteArray), .int .i64 0, .int .i64 0, .int .i64 0, .int .i64 0, .bool false, .bool false, .int .i64 0, .int .i64 0] 51 (0, 0)) q5_ hb); replace HB := Aside0.mk (below_step q2_ hb); (try clear hb); (try clear hb2); (try clear hk); (try clear hi)) | ((with_reducible refine gate_dst (N := 4) rfl ?_); refine box_event ?hg (N := 4) ?hd (cs := #[.bool false, .string (⟨#[]⟩ : ByteArray), .int .i64 0]) (t := 46) ?hr ?_; (case hd => rfl); (case hg => rfl); (case hr => exact u0_); intro gb165 hg w19 hbox hb; have BK165 := Aside0.mk (hbox); have GW165 := Aside0.mk (((by rw [hg]; exact (below_size q2_)) : w.heap.size ≤ gb165)); have GE165 := Aside0.mk (((by rw [hg]; exact (below_size q2_)) : w.heap.size ≤ gb165)); replace HB := Aside0.mk (below_step q2_ hb); have NB147_165 := Aside0.mk ((q6_ : gb147 ≠ gb165)); have NB165_147 := Aside0.mk ((q7_ : gb165 ≠ gb147)); replace BK147 := Aside0.mk (blk_below (g := gb147) (o := .cells #[.string a0_0, .int .i64 a0_1, .string a0_2] 44 (0, 0)) q1_ hb); have NB148_165 := Aside0.mk ((q13_ : gb148 ≠ gb165)); have NB165_148 := Aside0.mk ((q14_ : gb165 ≠ gb148)); replace BK148 := Aside0.mk (blk_below (g := gb148) (o := .cells #[.int .i64 0, .string (⟨#[]⟩ : ByteArray), .bool false, .string (⟨#[]⟩ : ByteArray), .int .i64 0, .int .i64 0, .int .i64 0, .int .i64 0, .bool false, .bool false, .int .i64 0, .int .i64 0] 51 (0, 0)) q5_ hb); clear hb hbox hg; have hnb20 := NB165_147.out; have hnc20 := NB147_165.out; have hnb21 := NB165_148.out; have hnc21 := NB148_165.out; obtain ⟨hcz22_0, hcz22_1, hcz22_2, hfz22_0, hfz22_1, hfz22_2⟩ := cellsF3 BK165.out) | ((with_reducible refine gate_callee (f := 28) rfl ?_); refine goesL_ (some 27) rfl rfl Tryz.func28 (by kernel_rfl) rfl #[.agg #[.bool t161, .string t162, .int .i64 t163]] rfl q8_ ?_; (with_reducible refine (value_Num.calls t161 t162 t163 t166 t167 t168 t169 t170 t171 t172 t173 t174 t175 t176 t177 _ A13.out).mono ?_); rintro e w23 ⟨rfl, hb⟩; refine ⟨_, rfl, ?_⟩; replace BK147 := Aside0.mk (blk_below (g := gb147) (o := .cells #[.string a0_0, .int .i64 a0_1, .string a0_2] 44 (0, 0)) (by (with_reducible repeat (first | refine blk_drewN ?_ _ | refine blk_drew ?_ | refine blk_alloc ?_ _)); refine blk_far ?_ NB147_165.out _; (with_reducible repeat (first | refine blk_drewN ?_ _ | refine blk_drew ?_ | refine blk_alloc ?_ _)); refine blk_far ?_ NB147_165.out _; (with_reducible repeat (first | refine blk_drewN ?_ _ | refine blk_drew ?_ | refine blk_alloc ?_ _)); refine blk_far ?_ NB147_165.out _; (with_reducible repeat (first | refine blk_drewN ?_ _ | refine blk_drew ?_ | refine blk_alloc ?_ _)); exact BK147.out) hb); replace BK148 := Aside0.mk (blk_below (g := gb148) (o := .cells #[.int .i64 0, .string (⟨#[]⟩ : ByteArray), .bool false, .string (⟨#[]⟩ : ByteArray), .int .i64 0, .int .i64 0, .int .i64 0, .int .i64 0, .bool false, .bool false, .int .i64 0, .int .i64 0] 51 (0, 0)) (by (with_reducible repeat (first | refine blk_drewN ?_ _ | refine blk_drew ?_ | refine blk_alloc ?_ _)); refine blk_far ?_ NB148_165.out _; (with_reducible repeat (first | refine blk_drewN ?_ _ | refine blk_drew ?_ | refine blk_alloc ?_ _)); refine blk_far ?_ NB148_165.out _; (with_reducible repeat (first | refine blk_drewN ?_ _ | refine blk_drew ?_ | refine blk_alloc ?_ _)); refine blk_far ?_ NB148_165.out _; (with_reducible repeat (first | refine blk_drewN ?_ _ | refine blk_drew ?_ | refine blk_alloc ?_ _)); exact BK148.out) hb); replace BK165 := Aside0.mk (blk_below (g := gb165) (o := .cells #[.bool t161, .string t162, .int .i64 t163] 46 (0, 0)) (by (with_reducible repeat (first | refine blk_drewN ?_ _ | refine blk_drew ?_ | refine blk_alloc ?_ _)); refine blk_put (cs := #[.bool t161, .string t162, .int .i64 0]) ?_ 2 _ rfl; (with_reducible repeat (first | refine blk_drewN ?_ _ | refine blk_drew ?_ | refine blk_alloc ?_ _)); refine blk_put (cs := #[.bool t161, .string (⟨#[]⟩ : ByteArray), .int .i64 0]) ?_ 1 _ rfl; (with_reducible repeat (first | refine blk_drewN ?_ _ | refine blk_drew ?_ | refine blk_alloc ?_ _)); refine blk_put (cs := #[.bool false, .string (⟨#[]⟩ : ByteArray), .int .i64 0]) ?_ 0 _ rfl; (with_reducible repeat (first | refine blk_drewN ?_ _ | refine blk_drew ?_ | refine blk_alloc ?_ _)); exact BK165.out) hb); replace HB := Aside0.mk (below_step q10_ hb); (try clear hb); (try clear hb2); (try clear hk); (try clear hi); obtain ⟨hcz24_0, hcz24_1, hcz24_2, hcz24_3, hcz24_4, hcz24_5, hcz24_6, hcz24_7, hcz24_8, hcz24_9, hcz24_10, hcz24_11, hfz24_0, hfz24_1, hfz24_2, hfz24_3, hfz24_4, hfz24_5, hfz24_6, hfz24_7, hfz24_8, hfz24_9, hfz24_10, hfz24_11⟩ := cellsF12 BK148.out))
    refine bodyPost_ret (results_ct rfl _ _ gb148 51 #[.int .i64 t166, .string t167, .bool t168, .string t169, .int .i64 t170, .int .i64 t171, .int .i64 t172, .int .i64 t173, .bool t174, .bool t175, .int .i64 t176, .int .i64 t177] (0, 0) _ rfl (by (with_reducible repeat (first | refine blk_drewN ?_ _ | refine blk_drew ?_ | refine blk_alloc ?_ _)); refine blk_put (cs := #[.int .i64 t166, .string t167, .bool t168, .string t169, .int .i64 t170, .int .i64 t171, .int .i64 t172, .int .i64 t173, .bool t174, .bool t175, .int .i64 t176, .int .i64 0]) ?_ 11 _ rfl; (with_reducible repeat (first | refine blk_drewN ?_ _ | refine blk_drew ?_ | refine blk_alloc ?_ _)); refine blk_put (cs := #[.int .i64 t166, .string t167, .bool t168, .string t169, .int .i64 t170, .int .i64 t171, .int .i64 t172, .int .i64 t173, .bool t174, .bool t175, .int .i64 0, .int .i64 0]) ?_ 10 _ rfl; (with_reducible repeat (first | refine blk_drewN ?_ _ | refine blk_drew ?_ | refine blk_alloc ?_ _)); refine blk_put (cs := #[.int .i64 t166, .string t167, .bool t168, .string t169, .int .i64 t170, .int .i64 t171, .int .i64 t172, .int .i64 t173, .bool t174, .bool false, .int .i64 0, .int .i64 0]) ?_ 9 _ rfl; (with_reducible repeat (first | refine blk_drewN ?_ _ | refine blk_drew ?_ | refine blk_alloc ?_ _)); refine blk_put (cs := #[.int .i64 t166, .string t167, .bool t168, .string t169, .int .i64 t170, .int .i64 t171, .int .i64 t172, .int .i64 t173, .bool false, .bool false, .int .i64 0, .int .i64 0]) ?_ 8 _ rfl; (with_reducible repeat (first | refine blk_drewN ?_ _ | refine blk_drew ?_ | refine blk_alloc ?_ _)); refine blk_put (cs := #[.int .i64 t166, .string t167, .bool t168, .string t169, .int .i64 t170, .int .i64 t171, .int .i64 t172, .int .i64 0, .bool false, .bool false, .int .i64 0, .int .i64 0]) ?_ 7 _ rfl; (with_reducible repeat (first | refine blk_drewN ?_ _ | refine blk_drew ?_ | refine blk_alloc ?_ _)); refine blk_put (cs := #[.int .i64 t166, .string t167, .bool t168, .string t169, .int .i64 t170, .int .i64 t171, .int .i64 0, .int .i64 0, .bool false, .bool false, .int .i64 0, .int .i64 0]) ?_ 6 _ rfl; (with_reducible repeat (first | refine blk_drewN ?_ _ | refine blk_drew ?_ | refine blk_alloc ?_ _)); refine blk_put (cs := #[.int .i64 t166, .string t167, .bool t168, .string t169, .int .i64 t170, .int .i64 0, .int .i64 0, .int .i64 0, .bool false, .bool false, .int .i64 0, .int .i64 0]) ?_ 5 _ rfl; (with_reducible repeat (first | refine blk_drewN ?_ _ | refine blk_drew ?_ | refine blk_alloc ?_ _)); refine blk_put (cs := #[.int .i64 t166, .string t167, .bool t168, .string t169, .int .i64 0, .int .i64 0, .int .i64 0, .int .i64 0, .bool false, .bool false, .int .i64 0, .int .i64 0]) ?_ 4 _ rfl; (with_reducible repeat (first | refine blk_drewN ?_ _ | refine blk_drew ?_ | refine blk_alloc ?_ _)); refine blk_put (cs := #[.int .i64 t166, .string t167, .bool t168, .string (⟨#[]⟩ : ByteArray), .int .i64 0, .int .i64 0, .int .i64 0, .int .i64 0, .bool false, .bool false, .int .i64 0, .int .i64 0]) ?_ 3 _ rfl; (with_reducible repeat (first | refine blk_drewN ?_ _ | refine blk_drew ?_ | refine blk_alloc ?_ _)); refine blk_put (cs := #[.int .i64 t166, .string t167, .bool false, .string (⟨#[]⟩ : ByteArray), .int .i64 0, .int .i64 0, .int .i64 0, .int .i64 0, .bool false, .bool false, .int .i64 0, .int .i64 0]) ?_ 2 _ rfl; (with_reducible repeat (first | refine blk_drewN ?_ _ | refine blk_drew ?_ | refine blk_alloc ?_ _)); refine blk_put (cs := #[.int .i64 t166, .string (⟨#[]⟩ : ByteArray), .bool false, .string (⟨#[]⟩ : ByteArray), .int .i64 0, .int .i64 0, .int .i64 0, .int .i64 0, .bool false, .bool false, .int .i64 0, .int .i64 0]) ?_ 1 _ rfl; (with_reducible repeat (first | refine blk_drewN ?_ _ | refine blk_drew ?_ | refine blk_alloc ?_ _)); refine blk_put (cs := #[.int .i64 0, .string (⟨#[]⟩ : ByteArray), .bool false, .string (⟨#[]⟩ : ByteArray), .int .i64 0, .int .i64 0, .int .i64 0, .int .i64 0, .bool false, .bool false, .int .i64 0, .int .i64 0]) ?_ 0 _ rfl; (with_reducible repeat (first | refine blk_drewN ?_ _ | refine blk_drew ?_ | refine blk_alloc ?_ _)); exact BK148.out) Tryz.underlying51 rfl (by kernel_rfl)) rfl ?_
    exact ⟨q9_, q10_⟩
   ·replace c12 := Bool.eq_false_iff.mpr c12
    subst c12
    have H1 : (some (0, (⟨#[]⟩ : ByteArray), false, (⟨#[]⟩ : ByteArray), 0, 0, 0, 0, false, false, 0, 0, false)) = some (r1, r2, r3, r4, r5, r6, r7, r8, r9, r10, r11, r12, r13) := by rw [if_neg (show ¬ (false = true) by decide)] at H; exact H
    clear H
    have H := H1
    clear H1
    simp only [Option.some.injEq, Prod.mk.injEq] at H
    obtain ⟨rfl, rfl, rfl, rfl, rfl, rfl, rfl, rfl, rfl, rfl, rfl, rfl, rfl⟩ := H
    go_enter Tryz.func17, Tryz.ntmps17
    go_wp2_with (first | ((with_reducible refine gate_dst (N := 1) rfl ?_); refine box_event ?hg (N := 1) ?hd (cs := #[.string a0_0, .int .i64 a0_1, .string a0_2]) (t := 44) ?hr ?_; (case hd => rfl); (case hg => rfl); (case hr => exact u0_); intro gb147 hg w25 hbox hb; have BK147 := Aside0.mk (hbox); have GW147 := Aside0.mk ((q11_ : w.heap.size ≤ gb147)); have GE147 := Aside0.mk ((q11_ : w.heap.size ≤ gb147)); replace HB := Aside0.mk (below_step q4_ hb); clear hb hbox hg) | ((with_reducible refine gate_dst (N := 2) rfl ?_); refine box_event ?hg (N := 2) ?hd (cs := #[.int .i64 0, .string (⟨#[]⟩ : ByteArray), .bool false, .string (⟨#[]⟩ : ByteArray), .int .i64 0, .int .i64 0, .int .i64 0, .int .i64 0, .bool false, .bool false, .int .i64 0, .int .i64 0]) (t := 51) ?hr ?_; (case hd => rfl); (case hg => rfl); (case hr => exact u0_); intro gb148 hg w26 hbox hb; have BK148 := Aside0.mk (hbox); have GW148 := Aside0.mk ((q12_ : w.heap.size ≤ gb148)); have GE148 := Aside0.mk ((q12_ : w.heap.size ≤ gb148)); replace HB := Aside0.mk (below_step q3_ hb); have NB147_148 := Aside0.mk ((q6_ : gb147 ≠ gb148)); have NB148_147 := Aside0.mk ((q7_ : gb148 ≠ gb147)); replace BK147 := Aside0.mk (blk_below (g := gb147) (o := .cells #[.string a0_0, .int .i64 a0_1, .string a0_2] 44 (0, 0)) q1_ hb); clear hb hbox hg; have hnb27 := NB147_148.out; have hnc27 := NB148_147.out; obtain ⟨hcz28_0, hcz28_1, hcz28_2, hfz28_0, hfz28_1, hfz28_2⟩ := cellsF3 BK147.out) | ((with_reducible refine gate_callee (f := 27) rfl ?_); refine goesL_ (some 20) rfl rfl Tryz.func27 (by kernel_rfl) rfl #[.string a0_2] rfl q8_ ?_; (with_reducible refine (dec_Parse.calls a0_2 t161 t162 t163 false _ A11.out).mono ?_); rintro e w29 ⟨rfl, hb⟩; refine ⟨_, rfl, ?_⟩; replace BK147 := Aside0.mk (blk_below (g := gb147) (o := .cells #[.string a0_0, .int .i64 a0_1, .string a0_2] 44 (0, 0)) q1_ hb); replace BK148 := Aside0.mk (blk_below (g := gb148) (o := .cells #[.int .i64 0, .string (⟨#[]⟩ : ByteArray), .bool false, .string (⟨#[]⟩ : ByteArray), .int .i64 0, .int .i64 0, .int .i64 0, .int .i64 0, .bool false, .bool false, .int .i64 0, .int .i64 0] 51 (0, 0)) q5_ hb); replace HB := Aside0.mk (below_step q2_ hb); (try clear hb); (try clear hb2); (try clear hk); (try clear hi)) | ((with_reducible refine gate_dst (N := 4) rfl ?_); refine box_event ?hg (N := 4) ?hd (cs := #[.bool false, .string (⟨#[]⟩ : ByteArray), .int .i64 0]) (t := 46) ?hr ?_; (case hd => rfl); (case hg => rfl); (case hr => exact u0_); intro gb165 hg w30 hbox hb; have BK165 := Aside0.mk (hbox); have GW165 := Aside0.mk (((by rw [hg]; exact (below_size q2_)) : w.heap.size ≤ gb165)); have GE165 := Aside0.mk (((by rw [hg]; exact (below_size q2_)) : w.heap.size ≤ gb165)); replace HB := Aside0.mk (below_step q2_ hb); have NB147_165 := Aside0.mk ((q6_ : gb147 ≠ gb165)); have NB165_147 := Aside0.mk ((q7_ : gb165 ≠ gb147)); replace BK147 := Aside0.mk (blk_below (g := gb147) (o := .cells #[.string a0_0, .int .i64 a0_1, .string a0_2] 44 (0, 0)) q1_ hb); have NB148_165 := Aside0.mk ((q13_ : gb148 ≠ gb165)); have NB165_148 := Aside0.mk ((q14_ : gb165 ≠ gb148)); replace BK148 := Aside0.mk (blk_below (g := gb148) (o := .cells #[.int .i64 0, .string (⟨#[]⟩ : ByteArray), .bool false, .string (⟨#[]⟩ : ByteArray), .int .i64 0, .int .i64 0, .int .i64 0, .int .i64 0, .bool false, .bool false, .int .i64 0, .int .i64 0] 51 (0, 0)) q5_ hb); clear hb hbox hg; have hnb31 := NB165_147.out; have hnc31 := NB147_165.out; have hnb32 := NB165_148.out; have hnc32 := NB148_165.out; obtain ⟨hcz33_0, hcz33_1, hcz33_2, hfz33_0, hfz33_1, hfz33_2⟩ := cellsF3 BK165.out; obtain ⟨hcz34_0, hcz34_1, hcz34_2, hcz34_3, hcz34_4, hcz34_5, hcz34_6, hcz34_7, hcz34_8, hcz34_9, hcz34_10, hcz34_11, hfz34_0, hfz34_1, hfz34_2, hfz34_3, hfz34_4, hfz34_5, hfz34_6, hfz34_7, hfz34_8, hfz34_9, hfz34_10, hfz34_11⟩ := cellsF12 BK148.out))
    refine bodyPost_ret (results_ct rfl _ _ gb148 51 #[.int .i64 0, .string (⟨#[]⟩ : ByteArray), .bool false, .string (⟨#[]⟩ : ByteArray), .int .i64 0, .int .i64 0, .int .i64 0, .int .i64 0, .bool false, .bool false, .int .i64 0, .int .i64 0] (0, 0) _ rfl (by (with_reducible repeat (first | refine blk_drewN ?_ _ | refine blk_drew ?_ | refine blk_alloc ?_ _)); refine blk_put (cs := #[.int .i64 0, .string (⟨#[]⟩ : ByteArray), .bool false, .string (⟨#[]⟩ : ByteArray), .int .i64 0, .int .i64 0, .int .i64 0, .int .i64 0, .bool false, .bool false, .int .i64 0, .int .i64 0]) ?_ 11 _ rfl; (with_reducible repeat (first | refine blk_drewN ?_ _ | refine blk_drew ?_ | refine blk_alloc ?_ _)); refine blk_put (cs := #[.int .i64 0, .string (⟨#[]⟩ : ByteArray), .bool false, .string (⟨#[]⟩ : ByteArray), .int .i64 0, .int .i64 0, .int .i64 0, .int .i64 0, .bool false, .bool false, .int .i64 0, .int .i64 0]) ?_ 10 _ rfl; (with_reducible repeat (first | refine blk_drewN ?_ _ | refine blk_drew ?_ | refine blk_alloc ?_ _)); refine blk_put (cs := #[.int .i64 0, .string (⟨#[]⟩ : ByteArray), .bool false, .string (⟨#[]⟩ : ByteArray), .int .i64 0, .int .i64 0, .int .i64 0, .int .i64 0, .bool false, .bool false, .int .i64 0, .int .i64 0]) ?_ 9 _ rfl; (with_reducible repeat (first | refine blk_drewN ?_ _ | refine blk_drew ?_ | refine blk_alloc ?_ _)); refine blk_put (cs := #[.int .i64 0, .string (⟨#[]⟩ : ByteArray), .bool false, .string (⟨#[]⟩ : ByteArray), .int .i64 0, .int .i64 0, .int .i64 0, .int .i64 0, .bool false, .bool false, .int .i64 0, .int .i64 0]) ?_ 8 _ rfl; (with_reducible repeat (first | refine blk_drewN ?_ _ | refine blk_drew ?_ | refine blk_alloc ?_ _)); refine blk_put (cs := #[.int .i64 0, .string (⟨#[]⟩ : ByteArray), .bool false, .string (⟨#[]⟩ : ByteArray), .int .i64 0, .int .i64 0, .int .i64 0, .int .i64 0, .bool false, .bool false, .int .i64 0, .int .i64 0]) ?_ 7 _ rfl; (with_reducible repeat (first | refine blk_drewN ?_ _ | refine blk_drew ?_ | refine blk_alloc ?_ _)); refine blk_put (cs := #[.int .i64 0, .string (⟨#[]⟩ : ByteArray), .bool false, .string (⟨#[]⟩ : ByteArray), .int .i64 0, .int .i64 0, .int .i64 0, .int .i64 0, .bool false, .bool false, .int .i64 0, .int .i64 0]) ?_ 6 _ rfl; (with_reducible repeat (first | refine blk_drewN ?_ _ | refine blk_drew ?_ | refine blk_alloc ?_ _)); refine blk_put (cs := #[.int .i64 0, .string (⟨#[]⟩ : ByteArray), .bool false, .string (⟨#[]⟩ : ByteArray), .int .i64 0, .int .i64 0, .int .i64 0, .int .i64 0, .bool false, .bool false, .int .i64 0, .int .i64 0]) ?_ 5 _ rfl; (with_reducible repeat (first | refine blk_drewN ?_ _ | refine blk_drew ?_ | refine blk_alloc ?_ _)); refine blk_put (cs := #[.int .i64 0, .string (⟨#[]⟩ : ByteArray), .bool false, .string (⟨#[]⟩ : ByteArray), .int .i64 0, .int .i64 0, .int .i64 0, .int .i64 0, .bool false, .bool false, .int .i64 0, .int .i64 0]) ?_ 4 _ rfl; (with_reducible repeat (first | refine blk_drewN ?_ _ | refine blk_drew ?_ | refine blk_alloc ?_ _)); refine blk_put (cs := #[.int .i64 0, .string (⟨#[]⟩ : ByteArray), .bool false, .string (⟨#[]⟩ : ByteArray), .int .i64 0, .int .i64 0, .int .i64 0, .int .i64 0, .bool false, .bool false, .int .i64 0, .int .i64 0]) ?_ 3 _ rfl; (with_reducible repeat (first | refine blk_drewN ?_ _ | refine blk_drew ?_ | refine blk_alloc ?_ _)); refine blk_put (cs := #[.int .i64 0, .string (⟨#[]⟩ : ByteArray), .bool false, .string (⟨#[]⟩ : ByteArray), .int .i64 0, .int .i64 0, .int .i64 0, .int .i64 0, .bool false, .bool false, .int .i64 0, .int .i64 0]) ?_ 2 _ rfl; (with_reducible repeat (first | refine blk_drewN ?_ _ | refine blk_drew ?_ | refine blk_alloc ?_ _)); refine blk_put (cs := #[.int .i64 0, .string (⟨#[]⟩ : ByteArray), .bool false, .string (⟨#[]⟩ : ByteArray), .int .i64 0, .int .i64 0, .int .i64 0, .int .i64 0, .bool false, .bool false, .int .i64 0, .int .i64 0]) ?_ 1 _ rfl; (with_reducible repeat (first | refine blk_drewN ?_ _ | refine blk_drew ?_ | refine blk_alloc ?_ _)); refine blk_put (cs := #[.int .i64 0, .string (⟨#[]⟩ : ByteArray), .bool false, .string (⟨#[]⟩ : ByteArray), .int .i64 0, .int .i64 0, .int .i64 0, .int .i64 0, .bool false, .bool false, .int .i64 0, .int .i64 0]) ?_ 0 _ rfl; (with_reducible repeat (first | refine blk_drewN ?_ _ | refine blk_drew ?_ | refine blk_alloc ?_ _)); refine blk_far ?_ NB148_165.out _; (with_reducible repeat (first | refine blk_drewN ?_ _ | refine blk_drew ?_ | refine blk_alloc ?_ _)); refine blk_far ?_ NB148_165.out _; (with_reducible repeat (first | refine blk_drewN ?_ _ | refine blk_drew ?_ | refine blk_alloc ?_ _)); refine blk_far ?_ NB148_165.out _; (with_reducible repeat (first | refine blk_drewN ?_ _ | refine blk_drew ?_ | refine blk_alloc ?_ _)); exact BK148.out) Tryz.underlying51 rfl (by kernel_rfl)) rfl ?_
    exact ⟨q9_, q10_⟩
  ·rw [if_neg c10] at H
   have c10b0 : (a0_1 == 1) = false := beq_eq_false_iff_ne.mpr c10
   have c10b1 : (a0_1 != 1) = true := bne_iff_ne.mpr c10
   by_cases c35 : a0_1 = 2
   ·rw [if_pos c35] at H
    have c35b0 : (a0_1 == 2) = true := beq_iff_eq.mpr c35
    have c35b1 : (a0_1 != 2) = false := bne_eq_false_iff_eq.mpr c35
    clear c35
    replace H := Option.bind_eq_some_iff.mp H
    obtain ⟨⟨t178, t179⟩, A360, H⟩ := H
    replace H : (if t179 = true then ((value_At.f t178).bind fun bt180 => (some (bt180.1, bt180.2.1, bt180.2.2.1, bt180.2.2.2.1, bt180.2.2.2.2.1, bt180.2.2.2.2.2.1, bt180.2.2.2.2.2.2.1, bt180.2.2.2.2.2.2.2.1, bt180.2.2.2.2.2.2.2.2.1, bt180.2.2.2.2.2.2.2.2.2.1, bt180.2.2.2.2.2.2.2.2.2.2.1, bt180.2.2.2.2.2.2.2.2.2.2.2, true))) else (some (0, (⟨#[]⟩ : ByteArray), false, (⟨#[]⟩ : ByteArray), 0, 0, 0, 0, false, false, 0, 0, false))) = some (r1, r2, r3, r4, r5, r6, r7, r8, r9, r10, r11, r12, r13) := H
    have A36 := Aside0.mk A360
    clear A360
    by_cases c37 : t179 = true
    ·subst c37
     have H1 : ((value_At.f t178).bind fun bt180 => (some (bt180.1, bt180.2.1, bt180.2.2.1, bt180.2.2.2.1, bt180.2.2.2.2.1, bt180.2.2.2.2.2.1, bt180.2.2.2.2.2.2.1, bt180.2.2.2.2.2.2.2.1, bt180.2.2.2.2.2.2.2.2.1, bt180.2.2.2.2.2.2.2.2.2.1, bt180.2.2.2.2.2.2.2.2.2.2.1, bt180.2.2.2.2.2.2.2.2.2.2.2, true))) = some (r1, r2, r3, r4, r5, r6, r7, r8, r9, r10, r11, r12, r13) := by rw [if_pos rfl] at H; exact H
     clear H
     have H := H1
     clear H1
     replace H := Option.bind_eq_some_iff.mp H
     obtain ⟨⟨t180, t181, t182, t183, t184, t185, t186, t187, t188, t189, t190, t191⟩, A380, H⟩ := H
     replace H : (some (t180, t181, t182, t183, t184, t185, t186, t187, t188, t189, t190, t191, true)) = some (r1, r2, r3, r4, r5, r6, r7, r8, r9, r10, r11, r12, r13) := H
     have A38 := Aside0.mk A380
     clear A380
     simp only [Option.some.injEq, Prod.mk.injEq] at H
     obtain ⟨rfl, rfl, rfl, rfl, rfl, rfl, rfl, rfl, rfl, rfl, rfl, rfl, rfl⟩ := H
     go_enter Tryz.func17, Tryz.ntmps17
     go_wp2_with (first | ((with_reducible refine gate_dst (N := 1) rfl ?_); refine box_event ?hg (N := 1) ?hd (cs := #[.string a0_0, .int .i64 a0_1, .string a0_2]) (t := 44) ?hr ?_; (case hd => rfl); (case hg => rfl); (case hr => exact u0_); intro gb147 hg w39 hbox hb; have BK147 := Aside0.mk (hbox); have GW147 := Aside0.mk ((q11_ : w.heap.size ≤ gb147)); have GE147 := Aside0.mk ((q11_ : w.heap.size ≤ gb147)); replace HB := Aside0.mk (below_step q4_ hb); clear hb hbox hg) | ((with_reducible refine gate_dst (N := 2) rfl ?_); refine box_event ?hg (N := 2) ?hd (cs := #[.int .i64 0, .string (⟨#[]⟩ : ByteArray), .bool false, .string (⟨#[]⟩ : ByteArray), .int .i64 0, .int .i64 0, .int .i64 0, .int .i64 0, .bool false, .bool false, .int .i64 0, .int .i64 0]) (t := 51) ?hr ?_; (case hd => rfl); (case hg => rfl); (case hr => exact u0_); intro gb148 hg w40 hbox hb; have BK148 := Aside0.mk (hbox); have GW148 := Aside0.mk ((q12_ : w.heap.size ≤ gb148)); have GE148 := Aside0.mk ((q12_ : w.heap.size ≤ gb148)); replace HB := Aside0.mk (below_step q3_ hb); have NB147_148 := Aside0.mk ((q6_ : gb147 ≠ gb148)); have NB148_147 := Aside0.mk ((q7_ : gb148 ≠ gb147)); replace BK147 := Aside0.mk (blk_below (g := gb147) (o := .cells #[.string a0_0, .int .i64 a0_1, .string a0_2] 44 (0, 0)) q1_ hb); clear hb hbox hg; have hnb41 := NB147_148.out; have hnc41 := NB148_147.out; obtain ⟨hcz42_0, hcz42_1, hcz42_2, hfz42_0, hfz42_1, hfz42_2⟩ := cellsF3 BK147.out) | ((with_reducible refine gate_callee (f := 29) rfl ?_); refine goesL_ (some 33) rfl rfl Tryz.func29 (by kernel_rfl) rfl #[.string a0_2] rfl q8_ ?_; (with_reducible refine (script_seconds.calls a0_2 t178 true _ A36.out).mono ?_); rintro e w43 ⟨rfl, hb⟩; refine ⟨_, rfl, ?_⟩; replace BK147 := Aside0.mk (blk_below (g := gb147) (o := .cells #[.string a0_0, .int .i64 a0_1, .string a0_2] 44 (0, 0)) q1_ hb); replace BK148 := Aside0.mk (blk_below (g := gb148) (o := .cells #[.int .i64 0, .string (⟨#[]⟩ : ByteArray), .bool false, .string (⟨#[]⟩ : ByteArray), .int .i64 0, .int .i64 0, .int .i64 0, .int .i64 0, .bool false, .bool false, .int .i64 0, .int .i64 0] 51 (0, 0)) q5_ hb); replace HB := Aside0.mk (below_step q2_ hb); (try clear hb); (try clear hb2); (try clear hk); (try clear hi)) | ((with_reducible refine gate_callee (f := 30) rfl ?_); refine goesL_ (some 38) rfl rfl Tryz.func30 (by kernel_rfl) rfl #[.int .i64 t178] rfl q8_ ?_; (with_reducible refine (value_At.calls t178 t180 t181 t182 t183 t184 t185 t186 t187 t188 t189 t190 t191 _ A38.out).mono ?_); rintro e w44 ⟨rfl, hb⟩; refine ⟨_, rfl, ?_⟩; replace BK147 := Aside0.mk (blk_below (g := gb147) (o := .cells #[.string a0_0, .int .i64 a0_1, .string a0_2] 44 (0, 0)) q1_ hb); replace BK148 := Aside0.mk (blk_below (g := gb148) (o := .cells #[.int .i64 0, .string (⟨#[]⟩ : ByteArray), .bool false, .string (⟨#[]⟩ : ByteArray), .int .i64 0, .int .i64 0, .int .i64 0, .int .i64 0, .bool false, .bool false, .int .i64 0, .int .i64 0] 51 (0, 0)) q5_ hb); replace HB := Aside0.mk (below_step q2_ hb); (try clear hb); (try clear hb2); (try clear hk); (try clear hi); obtain ⟨hcz45_0, hcz45_1, hcz45_2, hcz45_3, hcz45_4, hcz45_5, hcz45_6, hcz45_7, hcz45_8, hcz45_9, hcz45_10, hcz45_11, hfz45_0, hfz45_1, hfz45_2, hfz45_3, hfz45_4, hfz45_5, hfz45_6, hfz45_7, hfz45_8, hfz45_9, hfz45_10, hfz45_11⟩ := cellsF12 BK148.out))
     refine bodyPost_ret (results_ct rfl _ _ gb148 51 #[.int .i64 t180, .string t181, .bool t182, .string t183, .int .i64 t184, .int .i64 t185, .int .i64 t186, .int .i64 t187, .bool t188, .bool t189, .int .i64 t190, .int .i64 t191] (0, 0) _ rfl (by (with_reducible repeat (first | refine blk_drewN ?_ _ | refine blk_drew ?_ | refine blk_alloc ?_ _)); refine blk_put (cs := #[.int .i64 t180, .string t181, .bool t182, .string t183, .int .i64 t184, .int .i64 t185, .int .i64 t186, .int .i64 t187, .bool t188, .bool t189, .int .i64 t190, .int .i64 0]) ?_ 11 _ rfl; (with_reducible repeat (first | refine blk_drewN ?_ _ | refine blk_drew ?_ | refine blk_alloc ?_ _)); refine blk_put (cs := #[.int .i64 t180, .string t181, .bool t182, .string t183, .int .i64 t184, .int .i64 t185, .int .i64 t186, .int .i64 t187, .bool t188, .bool t189, .int .i64 0, .int .i64 0]) ?_ 10 _ rfl; (with_reducible repeat (first | refine blk_drewN ?_ _ | refine blk_drew ?_ | refine blk_alloc ?_ _)); refine blk_put (cs := #[.int .i64 t180, .string t181, .bool t182, .string t183, .int .i64 t184, .int .i64 t185, .int .i64 t186, .int .i64 t187, .bool t188, .bool false, .int .i64 0, .int .i64 0]) ?_ 9 _ rfl; (with_reducible repeat (first | refine blk_drewN ?_ _ | refine blk_drew ?_ | refine blk_alloc ?_ _)); refine blk_put (cs := #[.int .i64 t180, .string t181, .bool t182, .string t183, .int .i64 t184, .int .i64 t185, .int .i64 t186, .int .i64 t187, .bool false, .bool false, .int .i64 0, .int .i64 0]) ?_ 8 _ rfl; (with_reducible repeat (first | refine blk_drewN ?_ _ | refine blk_drew ?_ | refine blk_alloc ?_ _)); refine blk_put (cs := #[.int .i64 t180, .string t181, .bool t182, .string t183, .int .i64 t184, .int .i64 t185, .int .i64 t186, .int .i64 0, .bool false, .bool false, .int .i64 0, .int .i64 0]) ?_ 7 _ rfl; (with_reducible repeat (first | refine blk_drewN ?_ _ | refine blk_drew ?_ | refine blk_alloc ?_ _)); refine blk_put (cs := #[.int .i64 t180, .string t181, .bool t182, .string t183, .int .i64 t184, .int .i64 t185, .int .i64 0, .int .i64 0, .bool false, .bool false, .int .i64 0, .int .i64 0]) ?_ 6 _ rfl; (with_reducible repeat (first | refine blk_drewN ?_ _ | refine blk_drew ?_ | refine blk_alloc ?_ _)); refine blk_put (cs := #[.int .i64 t180, .string t181, .bool t182, .string t183, .int .i64 t184, .int .i64 0, .int .i64 0, .int .i64 0, .bool false, .bool false, .int .i64 0, .int .i64 0]) ?_ 5 _ rfl; (with_reducible repeat (first | refine blk_drewN ?_ _ | refine blk_drew ?_ | refine blk_alloc ?_ _)); refine blk_put (cs := #[.int .i64 t180, .string t181, .bool t182, .string t183, .int .i64 0, .int .i64 0, .int .i64 0, .int .i64 0, .bool false, .bool false, .int .i64 0, .int .i64 0]) ?_ 4 _ rfl; (with_reducible repeat (first | refine blk_drewN ?_ _ | refine blk_drew ?_ | refine blk_alloc ?_ _)); refine blk_put (cs := #[.int .i64 t180, .string t181, .bool t182, .string (⟨#[]⟩ : ByteArray), .int .i64 0, .int .i64 0, .int .i64 0, .int .i64 0, .bool false, .bool false, .int .i64 0, .int .i64 0]) ?_ 3 _ rfl; (with_reducible repeat (first | refine blk_drewN ?_ _ | refine blk_drew ?_ | refine blk_alloc ?_ _)); refine blk_put (cs := #[.int .i64 t180, .string t181, .bool false, .string (⟨#[]⟩ : ByteArray), .int .i64 0, .int .i64 0, .int .i64 0, .int .i64 0, .bool false, .bool false, .int .i64 0, .int .i64 0]) ?_ 2 _ rfl; (with_reducible repeat (first | refine blk_drewN ?_ _ | refine blk_drew ?_ | refine blk_alloc ?_ _)); refine blk_put (cs := #[.int .i64 t180, .string (⟨#[]⟩ : ByteArray), .bool false, .string (⟨#[]⟩ : ByteArray), .int .i64 0, .int .i64 0, .int .i64 0, .int .i64 0, .bool false, .bool false, .int .i64 0, .int .i64 0]) ?_ 1 _ rfl; (with_reducible repeat (first | refine blk_drewN ?_ _ | refine blk_drew ?_ | refine blk_alloc ?_ _)); refine blk_put (cs := #[.int .i64 0, .string (⟨#[]⟩ : ByteArray), .bool false, .string (⟨#[]⟩ : ByteArray), .int .i64 0, .int .i64 0, .int .i64 0, .int .i64 0, .bool false, .bool false, .int .i64 0, .int .i64 0]) ?_ 0 _ rfl; (with_reducible repeat (first | refine blk_drewN ?_ _ | refine blk_drew ?_ | refine blk_alloc ?_ _)); exact BK148.out) Tryz.underlying51 rfl (by kernel_rfl)) rfl ?_
     exact ⟨q9_, q2_⟩
    ·replace c37 := Bool.eq_false_iff.mpr c37
     subst c37
     have H1 : (some (0, (⟨#[]⟩ : ByteArray), false, (⟨#[]⟩ : ByteArray), 0, 0, 0, 0, false, false, 0, 0, false)) = some (r1, r2, r3, r4, r5, r6, r7, r8, r9, r10, r11, r12, r13) := by rw [if_neg (show ¬ (false = true) by decide)] at H; exact H
     clear H
     have H := H1
     clear H1
     simp only [Option.some.injEq, Prod.mk.injEq] at H
     obtain ⟨rfl, rfl, rfl, rfl, rfl, rfl, rfl, rfl, rfl, rfl, rfl, rfl, rfl⟩ := H
     go_enter Tryz.func17, Tryz.ntmps17
     go_wp2_with (first | ((with_reducible refine gate_dst (N := 1) rfl ?_); refine box_event ?hg (N := 1) ?hd (cs := #[.string a0_0, .int .i64 a0_1, .string a0_2]) (t := 44) ?hr ?_; (case hd => rfl); (case hg => rfl); (case hr => exact u0_); intro gb147 hg w46 hbox hb; have BK147 := Aside0.mk (hbox); have GW147 := Aside0.mk ((q11_ : w.heap.size ≤ gb147)); have GE147 := Aside0.mk ((q11_ : w.heap.size ≤ gb147)); replace HB := Aside0.mk (below_step q4_ hb); clear hb hbox hg) | ((with_reducible refine gate_dst (N := 2) rfl ?_); refine box_event ?hg (N := 2) ?hd (cs := #[.int .i64 0, .string (⟨#[]⟩ : ByteArray), .bool false, .string (⟨#[]⟩ : ByteArray), .int .i64 0, .int .i64 0, .int .i64 0, .int .i64 0, .bool false, .bool false, .int .i64 0, .int .i64 0]) (t := 51) ?hr ?_; (case hd => rfl); (case hg => rfl); (case hr => exact u0_); intro gb148 hg w47 hbox hb; have BK148 := Aside0.mk (hbox); have GW148 := Aside0.mk ((q12_ : w.heap.size ≤ gb148)); have GE148 := Aside0.mk ((q12_ : w.heap.size ≤ gb148)); replace HB := Aside0.mk (below_step q3_ hb); have NB147_148 := Aside0.mk ((q6_ : gb147 ≠ gb148)); have NB148_147 := Aside0.mk ((q7_ : gb148 ≠ gb147)); replace BK147 := Aside0.mk (blk_below (g := gb147) (o := .cells #[.string a0_0, .int .i64 a0_1, .string a0_2] 44 (0, 0)) q1_ hb); clear hb hbox hg; have hnb48 := NB147_148.out; have hnc48 := NB148_147.out; obtain ⟨hcz49_0, hcz49_1, hcz49_2, hfz49_0, hfz49_1, hfz49_2⟩ := cellsF3 BK147.out) | ((with_reducible refine gate_callee (f := 29) rfl ?_); refine goesL_ (some 33) rfl rfl Tryz.func29 (by kernel_rfl) rfl #[.string a0_2] rfl q8_ ?_; (with_reducible refine (script_seconds.calls a0_2 t178 false _ A36.out).mono ?_); rintro e w50 ⟨rfl, hb⟩; refine ⟨_, rfl, ?_⟩; replace BK147 := Aside0.mk (blk_below (g := gb147) (o := .cells #[.string a0_0, .int .i64 a0_1, .string a0_2] 44 (0, 0)) q1_ hb); replace BK148 := Aside0.mk (blk_below (g := gb148) (o := .cells #[.int .i64 0, .string (⟨#[]⟩ : ByteArray), .bool false, .string (⟨#[]⟩ : ByteArray), .int .i64 0, .int .i64 0, .int .i64 0, .int .i64 0, .bool false, .bool false, .int .i64 0, .int .i64 0] 51 (0, 0)) q5_ hb); replace HB := Aside0.mk (below_step q2_ hb); (try clear hb); (try clear hb2); (try clear hk); (try clear hi); obtain ⟨hcz51_0, hcz51_1, hcz51_2, hcz51_3, hcz51_4, hcz51_5, hcz51_6, hcz51_7, hcz51_8, hcz51_9, hcz51_10, hcz51_11, hfz51_0, hfz51_1, hfz51_2, hfz51_3, hfz51_4, hfz51_5, hfz51_6, hfz51_7, hfz51_8, hfz51_9, hfz51_10, hfz51_11⟩ := cellsF12 BK148.out))
     refine bodyPost_ret (results_ct rfl _ _ gb148 51 #[.int .i64 0, .string (⟨#[]⟩ : ByteArray), .bool false, .string (⟨#[]⟩ : ByteArray), .int .i64 0, .int .i64 0, .int .i64 0, .int .i64 0, .bool false, .bool false, .int .i64 0, .int .i64 0] (0, 0) _ rfl q0_ Tryz.underlying51 rfl (by kernel_rfl)) rfl ?_
     exact ⟨q9_, q2_⟩
   ·rw [if_neg c35] at H
    have c35b0 : (a0_1 == 2) = false := beq_eq_false_iff_ne.mpr c35
    have c35b1 : (a0_1 != 2) = true := bne_iff_ne.mpr c35
    simp only [Option.some.injEq, Prod.mk.injEq] at H
    obtain ⟨rfl, rfl, rfl, rfl, rfl, rfl, rfl, rfl, rfl, rfl, rfl, rfl, rfl⟩ := H
    go_enter Tryz.func17, Tryz.ntmps17
    go_wp2_with (first | ((with_reducible refine gate_dst (N := 1) rfl ?_); refine box_event ?hg (N := 1) ?hd (cs := #[.string a0_0, .int .i64 a0_1, .string a0_2]) (t := 44) ?hr ?_; (case hd => rfl); (case hg => rfl); (case hr => exact u0_); intro gb147 hg w52 hbox hb; have BK147 := Aside0.mk (hbox); have GW147 := Aside0.mk ((q11_ : w.heap.size ≤ gb147)); have GE147 := Aside0.mk ((q11_ : w.heap.size ≤ gb147)); replace HB := Aside0.mk (below_step q4_ hb); clear hb hbox hg) | ((with_reducible refine gate_dst (N := 2) rfl ?_); refine box_event ?hg (N := 2) ?hd (cs := #[.int .i64 0, .string (⟨#[]⟩ : ByteArray), .bool false, .string (⟨#[]⟩ : ByteArray), .int .i64 0, .int .i64 0, .int .i64 0, .int .i64 0, .bool false, .bool false, .int .i64 0, .int .i64 0]) (t := 51) ?hr ?_; (case hd => rfl); (case hg => rfl); (case hr => exact u0_); intro gb148 hg w53 hbox hb; have BK148 := Aside0.mk (hbox); have GW148 := Aside0.mk ((q12_ : w.heap.size ≤ gb148)); have GE148 := Aside0.mk ((q12_ : w.heap.size ≤ gb148)); replace HB := Aside0.mk (below_step q3_ hb); have NB147_148 := Aside0.mk ((q6_ : gb147 ≠ gb148)); have NB148_147 := Aside0.mk ((q7_ : gb148 ≠ gb147)); replace BK147 := Aside0.mk (blk_below (g := gb147) (o := .cells #[.string a0_0, .int .i64 a0_1, .string a0_2] 44 (0, 0)) q1_ hb); clear hb hbox hg; have hnb54 := NB147_148.out; have hnc54 := NB148_147.out; obtain ⟨hcz55_0, hcz55_1, hcz55_2, hfz55_0, hfz55_1, hfz55_2⟩ := cellsF3 BK147.out; obtain ⟨hcz56_0, hcz56_1, hcz56_2, hcz56_3, hcz56_4, hcz56_5, hcz56_6, hcz56_7, hcz56_8, hcz56_9, hcz56_10, hcz56_11, hfz56_0, hfz56_1, hfz56_2, hfz56_3, hfz56_4, hfz56_5, hfz56_6, hfz56_7, hfz56_8, hfz56_9, hfz56_10, hfz56_11⟩ := cellsF12 BK148.out))
    refine bodyPost_ret (results_ct rfl _ _ gb148 51 #[.int .i64 0, .string (⟨#[]⟩ : ByteArray), .bool false, .string (⟨#[]⟩ : ByteArray), .int .i64 0, .int .i64 0, .int .i64 0, .int .i64 0, .bool false, .bool false, .int .i64 0, .int .i64 0] (0, 0) _ rfl q0_ Tryz.underlying51 rfl (by kernel_rfl)) rfl ?_
    exact ⟨q9_, q2_⟩
end Go.Proofs.YtdhpcofnddkcaaaGreatDoor.S
namespace Go.Proofs.YtdhpcofnddkcaaaGreatDoor.S
open Go.RowKit Go.Proofs.YtdhpcofnddkcaaaGreatDoor.G Go.Proofs.YtdhpcofnddkcaaaGreatDoorW.PrintWords Go.Proofs.YtdhpcofnddkcaaaGreatDoorW.PrintLast Go.Proofs.YtdhpcofnddkcaaaGreatDoorW.PrintMore
set_option linter.unusedVariables false
set_option linter.unusedSimpArgs false
theorem isSome_ite {α : Type} (c : Prop) [Decidable c] (x : α) : (if c then some x else none).isSome = decide c := by
  by_cases h : c
  · rw [if_pos h, decide_eq_true h]; rfl
  · rw [if_neg h, decide_eq_false h]; rfl
theorem parseV_flag (neg : Bool) (R : List UInt8) : (parseV neg R).2.2.2 = (parseL R).isSome := by
  unfold parseV
  cases parseL R <;> rfl
theorem empty_ne {α : Type} (l : List α) : (!l.isEmpty) = decide (l ≠ []) := by cases l <;> rfl
theorem numL_parse (s : ByteArray) : (parseV (negOf s) (restOf s)).2.2.2 = numL (bl s) := by
  rw [parseV_flag]
  unfold parseL numL restOf
  show _ = (!(ahead (Lib.trimPrefix (bl s) [45])).isEmpty && (ahead (Lib.trimPrefix (bl s) [45])).all isDig && _)
  generalize Lib.trimPrefix (bl s) [45] = R
  cases hB : behind R with
  | nil =>
    have hR : R = ahead R := by
      have := ahead_behind R
      rw [hB, List.append_nil] at this
      exact this
    rw [← hR, empty_ne]
    show (if R ≠ [] ∧ digs R = true ∧ R.length ≤ 40 then some (R, 0) else none).isSome = (decide (R ≠ []) && digs R && decide (R.length ≤ 40))
    rw [isSome_ite, Bool.eq_iff_iff]
    simp only [decide_eq_true_eq, Bool.and_eq_true, and_assoc]
  | cons z P =>
    rw [empty_ne]
    show (if digs (ahead R) = true ∧ ahead R ≠ [] ∧ P ≠ [] ∧ digs P = true ∧ (ahead R ++ P).length ≤ 40 then some (ahead R ++ P, P.length) else none).isSome = (decide (ahead R ≠ []) && digs (ahead R) && (!P.isEmpty && digs P && decide ((ahead R).length + P.length ≤ 40)))
    rw [isSome_ite, Bool.eq_iff_iff, empty_ne, List.length_append]
    simp only [decide_eq_true_eq, Bool.and_eq_true]
    exact ⟨fun ⟨a, b, c, d, e⟩ => ⟨⟨b, a⟩, ⟨⟨c, d⟩, e⟩⟩, fun ⟨⟨b, a⟩, ⟨⟨c, d⟩, e⟩⟩ => ⟨a, b, c, d, e⟩⟩
theorem bl_lb (s : ByteArray) : bl s = Net.lb s := rfl
abbrev VT := Int × ByteArray × Bool × ByteArray × Int × Int × Int × Int × Bool × Bool × Int × Int × Bool
def noV : VT := (0, ⟨#[]⟩, false, ⟨#[]⟩, 0, 0, 0, 0, false, false, 0, 0, false)
def valF (kind : Int) (text : ByteArray) : VT :=
  if kind = 0 then (0, text, false, ⟨#[]⟩, 0, 0, 0, 0, false, false, 0, 0, true)
  else if kind = 1 then (if numL (bl text) = true then (1, ⟨#[]⟩, (parseV (negOf text) (restOf text)).1, (parseV (negOf text) (restOf text)).2.1, (parseV (negOf text) (restOf text)).2.2.1, 1, 0, 3, false, false, 0, 0, true) else noV)
  else if kind = 2 then (match Net.momL (bl text) with
    | some n => (2, ⟨#[]⟩, false, ⟨#[]⟩, 0, 0, 0, 0, false, false, n, 0, true)
    | none => noV)
  else noV
theorem valF_ok (name : ByteArray) (kind : Int) (text : ByteArray) : (valF kind text).2.2.2.2.2.2.2.2.2.2.2.2 = okA (name, kind, text) := by
  unfold valF okA
  show _ = (if kind = 0 then true else if kind = 1 then numL (bl text) else if kind = 2 then (Net.momL (bl text)).isSome else false)
  by_cases h0 : kind = 0
  · rw [if_pos h0, if_pos h0]
  · rw [if_neg h0, if_neg h0]
    by_cases h1 : kind = 1
    · rw [if_pos h1, if_pos h1]
      cases numL (bl text) <;> rfl
    · rw [if_neg h1, if_neg h1]
      by_cases h2 : kind = 2
      · rw [if_pos h2, if_pos h2]
        cases Net.momL (bl text) <;> rfl
      · rw [if_neg h2, if_neg h2]
        rfl
theorem value_f (name : ByteArray) (kind : Int) (text : ByteArray) (hs : text.size ≤ 100000) : script_Arg_Value.f name kind text = some (valF kind text) := by
  unfold script_Arg_Value.f valF
  by_cases h0 : kind = 0
  · rw [if_pos h0, if_pos h0]
    rfl
  · rw [if_neg h0, if_neg h0]
    by_cases h1 : kind = 1
    · rw [if_pos h1, if_pos h1, parse_ok text hs, Option.bind_some, ← numL_parse]
      cases (parseV (negOf text) (restOf text)).2.2.2 <;> rfl
    · rw [if_neg h1, if_neg h1]
      by_cases h2 : kind = 2
      · rw [if_pos h2, if_pos h2]
        obtain ⟨v, b, hf, hm⟩ := seconds_mom text (by omega)
        rw [hf, Option.bind_some]
        show (if b = true then _ else _) = _
        have hm' : (match Net.momL (bl text) with | some n => v = n ∧ b = true | none => b = false) := hm
        revert hm'
        cases Net.momL (bl text) with
        | none =>
          intro hm'
          have hm'' : b = false := hm'
          subst hm''
          rfl
        | some n =>
          intro hm'
          obtain ⟨rfl, rfl⟩ := hm'
          rfl
      · rw [if_neg h2, if_neg h2]
        rfl
end Go.Proofs.YtdhpcofnddkcaaaGreatDoor.S
namespace Go.Proofs.YtdhpcofnddkcaaaGreatDoor.S
open Go.RowKit Go.Proofs.YtdhpcofnddkcaaaGreatDoor.G Go.Proofs.YtdhpcofnddkcaaaGreatDoorW.PrintWords Go.Proofs.YtdhpcofnddkcaaaGreatDoorW.PrintLast Go.Proofs.YtdhpcofnddkcaaaGreatDoorW.PrintMore
attribute [local go_sem] max2_int min2_int max_two min_two max_three min_three max_four min_four
set_option linter.unusedVariables false
set_option linter.unusedSimpArgs false
namespace Sx11
theorem q0_ {p_ : Prop} (h_ : p_ := by repeat (first | exact Drawn0.refl _ | apply Drawn0.step)) : p_ := h_
theorem q1_ {p_ : Prop} (h_ : p_ := by first | rfl | (simp; done) | (simp [*]; done)) : p_ := h_
theorem q2_ {p_ : Prop} (h_ : p_ := by first | (with_reducible assumption) | assumption) : p_ := h_
theorem q3_ {p_ : Prop} (h_ : p_ := by have := HJ1.out; have := HJ5.out; first | omega | exact Nat.le_refl _) : p_ := h_
end Sx11
open Sx11
mutual
def polyglotlaw18_moment.j0 : Nat → ByteArray → ByteArray → Bool → Option (Int × Bool)
 | 0, _, _, _ => none
 | k + 1, x0, x4, x14 => if x14 = true then (if 1 ≤ (x4.size : Int) then (if (x4.extract 1 x4.size).toList = ([48] : List UInt8) then (some (0, false)) else (polyglotlaw18_moment.j1 k x0 (x4.extract 1 x4.size))) else (none)) else (polyglotlaw18_moment.j1 k x0 x4)
def polyglotlaw18_moment.j1 : Nat → ByteArray → ByteArray → Option (Int × Bool)
 | 0, _, _ => none
 | k + 1, x0, x4 => if x4.toList = ([] : List UInt8) then (polyglotlaw18_moment.j2 k x0 x4 true) else (if (x4.size : Int) > 16 then (polyglotlaw18_moment.j2 k x0 x4 true) else (if (x4.size : Int) > 1 then (if 0 < (x4.size : Int) then (polyglotlaw18_moment.j2 k x0 x4 ((bt x4 0) == 48)) else (none)) else (polyglotlaw18_moment.j2 k x0 x4 false)))
def polyglotlaw18_moment.j2 : Nat → ByteArray → ByteArray → Bool → Option (Int × Bool)
 | 0, _, _, _ => none
 | k + 1, x0, x4, x35 => if x35 = true then (some (0, false)) else (polyglotlaw18_moment.l0 k x0 x4 0 0)
def polyglotlaw18_moment.l0 : Nat → ByteArray → ByteArray → Int → Int → Option (Int × Bool)
 | 0, _, _, _, _ => none
 | k + 1, x0, x4, x5, x6 => if x6 < (x4.size : Int) then (if 0 ≤ x6 then (if (bt x4 x6) < 48 then (some (0, false)) else (if (bt x4 x6) > 57 then (some (0, false)) else (polyglotlaw18_moment.l0 k x0 x4 (wrap64 ((wrap64 (10 * x5)) + (((bt x4 x6) - 48) % 256))) (wrap64 (x6 + 1))))) else (none)) else (if x4.toList = x0.toList then (if x5 ≥ (-9007199254740992) then (some (x5, decide (x5 ≤ 9007199254740992))) else (some (x5, false))) else (if (wrap64 (-x5)) ≥ (-9007199254740992) then (some (wrap64 (-x5), decide ((wrap64 (-x5)) ≤ 9007199254740992))) else (some (wrap64 (-x5), false))))
end
def polyglotlaw18_moment.f (k : Nat) (a0 : ByteArray) : Option (Int × Bool) := if a0.toList = ([] : List UInt8) then (polyglotlaw18_moment.j0 k a0 a0 false) else (if 0 < (a0.size : Int) then (polyglotlaw18_moment.j0 k a0 a0 ((bt a0 0) == 45)) else (none))
theorem polyglotlaw18_moment.mono_l : ∀ k, (∀ y0 y1 y2, LeO (polyglotlaw18_moment.j0 k y0 y1 y2) (polyglotlaw18_moment.j0 (k + 1) y0 y1 y2)) ∧ (∀ y0 y1, LeO (polyglotlaw18_moment.j1 k y0 y1) (polyglotlaw18_moment.j1 (k + 1) y0 y1)) ∧ (∀ y0 y1 y2, LeO (polyglotlaw18_moment.j2 k y0 y1 y2) (polyglotlaw18_moment.j2 (k + 1) y0 y1 y2)) ∧ (∀ y0 y1 y2 y3, LeO (polyglotlaw18_moment.l0 k y0 y1 y2 y3) (polyglotlaw18_moment.l0 (k + 1) y0 y1 y2 y3))
 | 0 => ⟨fun _ _ _ r h => by simp [polyglotlaw18_moment.j0] at h, fun _ _ r h => by simp [polyglotlaw18_moment.j1] at h, fun _ _ _ r h => by simp [polyglotlaw18_moment.j2] at h, fun _ _ _ _ r h => by simp [polyglotlaw18_moment.l0] at h⟩
 | k + 1 => by
  obtain ⟨ih0, ih1, ih2, ih3⟩ := polyglotlaw18_moment.mono_l k
  refine ⟨?_, ?_, ?_, ?_⟩
  ·intro y0 y1 y2
   unfold polyglotlaw18_moment.j0
   repeat' first
   | (with_reducible exact ih0 _ _ _)
   | (with_reducible exact ih1 _ _)
   | (with_reducible exact ih2 _ _ _)
   | (with_reducible exact ih3 _ _ _ _)
   | (with_reducible exact LeO.refl _)
   | (with_reducible exact LeO.none _)
   | (with_reducible refine LeO.ite ?_ ?_)
   | (with_reducible refine LeO.bind ?_ (fun _ => ?_))
   | exact ih0 _ _ _
   | exact ih1 _ _
   | exact ih2 _ _ _
   | exact ih3 _ _ _ _
   | exact LeO.none _
   | refine LeO.ite ?_ ?_
   | refine LeO.bind ?_ (fun _ => ?_)
  ·intro y0 y1
   unfold polyglotlaw18_moment.j1
   repeat' first
   | (with_reducible exact ih0 _ _ _)
   | (with_reducible exact ih1 _ _)
   | (with_reducible exact ih2 _ _ _)
   | (with_reducible exact ih3 _ _ _ _)
   | (with_reducible exact LeO.refl _)
   | (with_reducible exact LeO.none _)
   | (with_reducible refine LeO.ite ?_ ?_)
   | (with_reducible refine LeO.bind ?_ (fun _ => ?_))
   | exact ih0 _ _ _
   | exact ih1 _ _
   | exact ih2 _ _ _
   | exact ih3 _ _ _ _
   | exact LeO.none _
   | refine LeO.ite ?_ ?_
   | refine LeO.bind ?_ (fun _ => ?_)
  ·intro y0 y1 y2
   unfold polyglotlaw18_moment.j2
   repeat' first
   | (with_reducible exact ih0 _ _ _)
   | (with_reducible exact ih1 _ _)
   | (with_reducible exact ih2 _ _ _)
   | (with_reducible exact ih3 _ _ _ _)
   | (with_reducible exact LeO.refl _)
   | (with_reducible exact LeO.none _)
   | (with_reducible refine LeO.ite ?_ ?_)
   | (with_reducible refine LeO.bind ?_ (fun _ => ?_))
   | exact ih0 _ _ _
   | exact ih1 _ _
   | exact ih2 _ _ _
   | exact ih3 _ _ _ _
   | exact LeO.none _
   | refine LeO.ite ?_ ?_
   | refine LeO.bind ?_ (fun _ => ?_)
  ·intro y0 y1 y2 y3
   unfold polyglotlaw18_moment.l0
   repeat' first
   | (with_reducible exact ih0 _ _ _)
   | (with_reducible exact ih1 _ _)
   | (with_reducible exact ih2 _ _ _)
   | (with_reducible exact ih3 _ _ _ _)
   | (with_reducible exact LeO.refl _)
   | (with_reducible exact LeO.none _)
   | (with_reducible refine LeO.ite ?_ ?_)
   | (with_reducible refine LeO.bind ?_ (fun _ => ?_))
   | exact ih0 _ _ _
   | exact ih1 _ _
   | exact ih2 _ _ _
   | exact ih3 _ _ _ _
   | exact LeO.none _
   | refine LeO.ite ?_ ?_
   | refine LeO.bind ?_ (fun _ => ?_)
theorem polyglotlaw18_moment.mono : ∀ a0 k, LeO (polyglotlaw18_moment.f k a0) (polyglotlaw18_moment.f (k + 1) a0) := by
 intro a0 k
 obtain ⟨ih0, ih1, ih2, ih3⟩ := polyglotlaw18_moment.mono_l k
 unfold polyglotlaw18_moment.f
 repeat' first
   | (with_reducible exact ih0 _ _ _)
   | (with_reducible exact ih1 _ _)
   | (with_reducible exact ih2 _ _ _)
   | (with_reducible exact ih3 _ _ _ _)
   | (with_reducible exact LeO.refl _)
   | (with_reducible exact LeO.none _)
   | (with_reducible refine LeO.ite ?_ ?_)
   | (with_reducible refine LeO.bind ?_ (fun _ => ?_))
   | exact ih0 _ _ _
   | exact ih1 _ _
   | exact ih2 _ _ _
   | exact ih3 _ _ _ _
   | exact LeO.none _
   | refine LeO.ite ?_ ?_
   | refine LeO.bind ?_ (fun _ => ?_)
set_option maxHeartbeats 8000000 in
set_option maxRecDepth 100000 in
theorem polyglotlaw18_moment.calls (k : Nat) (a0 : ByteArray) (r1 : Int) (r2 : Bool) (w : World) (h : polyglotlaw18_moment.f k a0 = some (r1, r2)) :
  Calls Tryz.prog 32 #[.string a0] w fun e w' => e = .returned (.tuple #[.int .i64 r1, .bool r2]) ∧ Drawn0 w w' := by
 have H : (if a0.toList = ([] : List UInt8) then (polyglotlaw18_moment.j0 k a0 a0 false) else (if 0 < (a0.size : Int) then (polyglotlaw18_moment.j0 k a0 a0 ((bt a0 0) == 45)) else (none))) = some (r1, r2) := h
 clear h
 have HC2 := Aside0.mk H
 clear H
 go_enter Tryz.func32, Tryz.ntmps32
 go_upto_region 2 with (fail)
 go_cut [14] (fun v14 wc => ∃ (kq : Nat) (x14_1 : Bool), v14 = .bool x14_1 ∧ Aside0 (polyglotlaw18_moment.j0 kq a0 a0 x14_1 = some (r1, r2)) ∧ Aside0 (kq ≤ k) ∧ Drawn0 w wc)
 case first =>
  have H := HC2.out
  clear HC2
  by_cases c3 : a0.toList = ([] : List UInt8)
  ·rw [if_pos c3] at H
   have c3b0 : (a0.toList == ([] : List UInt8)) = true := beq_iff_eq.mpr c3
   have c3b1 : (a0.toList != ([] : List UInt8)) = false := bne_eq_false_iff_eq.mpr c3
   clear c3
   (first | rw [c3b0] | (simp only [i64_w, i32_w]; rw [c3b0]) | skip)
   have H' := Aside0.mk H
   clear H
   go_wp2
   go_meet
   case rel => exact ⟨_, (false), q1_, H', ⟨(by first | omega | exact Nat.le_refl _)⟩, q0_⟩
  ·rw [if_neg c3] at H
   have c3b0 : (a0.toList == ([] : List UInt8)) = false := beq_eq_false_iff_ne.mpr c3
   have c3b1 : (a0.toList != ([] : List UInt8)) = true := bne_iff_ne.mpr c3
   (first | rw [c3b0] | (simp only [i64_w, i32_w]; rw [c3b0]) | skip)
   by_cases c4 : 0 < (a0.size : Int)
   ·rw [if_pos c4] at H
    have c4b0 : decide (0 < (a0.size : Int)) = true := decide_eq_true c4
    have c4b1 : decide (0 < a0.size) = true := decide_eq_true (by omega)
    clear c4
    have H' := Aside0.mk H
    clear H
    have p5 : 0 ≤ (0 : Int) := (by omega)
    have q5 : 0 < a0.size := (by have : (0 : Int) < (a0.size : Int) := of_decide_eq_true q2_; omega)
    have hx5 : ∀ h : 0 < a0.size, ((a0[0]'h).toNat : Int) = bt a0 0 := bt_at a0 0
    clear p5
    have qi5 : (0 < (a0.size : Int)) = True := eq_true (of_decide_eq_true q2_)
    replace q5 := eq_true q5
    go_wp2
    go_meet
    case rel => exact ⟨_, (((bt a0 0) == 45)), q1_, H', ⟨(by first | omega | exact Nat.le_refl _)⟩, q0_⟩
   ·rw [if_neg c4] at H
    exact absurd H (by simp)
 case rest =>
  clear HC2
  try clear p2
  try clear c3
  try clear c3b0
  try clear c3b1
  try clear c4
  try clear c4b0
  try clear c4b1
  try clear p5
  try clear q5
  try clear hx5
  try clear qi5
  try clear p5
  try clear q5
  obtain ⟨kq, x14_1, rfl, HA, HJ1, ⟨mc1, rfl⟩⟩ := hcut
  cases kq with
  | zero => exact absurd HA.out (by simp [polyglotlaw18_moment.j0])
  | succ kj1 =>
   have H := HA.out
   clear HA
   simp only [polyglotlaw18_moment.j0] at H
   have HC6 := Aside0.mk H
   clear H
   go_upto_if 14 with (fail)
   go_cut [4] (fun v4 wc => ∃ (kq : Nat) (x4_5 : ByteArray), v4 = .string x4_5 ∧ Aside0 (polyglotlaw18_moment.j1 kq a0 x4_5 = some (r1, r2)) ∧ Aside0 (kq ≤ kj1) ∧ Drawn0 w wc)
   case first =>
    have H := HC6.out
    clear HC6
    by_cases c7 : x14_1 = true
    ·subst c7
     have H1 : (if 1 ≤ (a0.size : Int) then (if (a0.extract 1 a0.size).toList = ([48] : List UInt8) then (some (0, false)) else (polyglotlaw18_moment.j1 kj1 a0 (a0.extract 1 a0.size))) else (none)) = some (r1, r2) := by rw [if_pos rfl] at H; exact H
     clear H
     have H := H1
     clear H1
     by_cases c8 : 1 ≤ (a0.size : Int)
     ·rw [if_pos c8] at H
      have c8b0 := eq_true c8
      have c8b1 : decide (1 ≤ (a0.size : Int)) = true := decide_eq_true c8
      clear c8
      by_cases c9 : (a0.extract 1 a0.size).toList = ([48] : List UInt8)
      ·rw [if_pos c9] at H
       have c9b0 : ((a0.extract 1 a0.size).toList == ([48] : List UInt8)) = true := beq_iff_eq.mpr c9
       have c9b1 : ((a0.extract 1 a0.size).toList != ([48] : List UInt8)) = false := bne_eq_false_iff_eq.mpr c9
       clear c9
       (first | rw [c9b0] | (simp only [i64_w, i32_w]; rw [c9b0]) | skip)
       simp only [Option.some.injEq, Prod.mk.injEq] at H
       obtain ⟨rfl, rfl⟩ := H
       go_wp2
       go_ret2
       exact ⟨q1_, q0_⟩
      ·rw [if_neg c9] at H
       have c9b0 : ((a0.extract 1 a0.size).toList == ([48] : List UInt8)) = false := beq_eq_false_iff_ne.mpr c9
       have c9b1 : ((a0.extract 1 a0.size).toList != ([48] : List UInt8)) = true := bne_iff_ne.mpr c9
       (first | rw [c9b0] | (simp only [i64_w, i32_w]; rw [c9b0]) | skip)
       have H' := Aside0.mk H
       clear H
       go_wp2
       go_meet
       case rel => exact ⟨_, (a0.extract 1 a0.size), q1_, H', ⟨(by have := HJ1.out; first | omega | exact Nat.le_refl _)⟩, q0_⟩
     ·rw [if_neg c8] at H
      exact absurd H (by simp)
    ·replace c7 := Bool.eq_false_iff.mpr c7
     subst c7
     have H1 : (polyglotlaw18_moment.j1 kj1 a0 a0) = some (r1, r2) := by rw [if_neg (show ¬ (false = true) by decide)] at H; exact H
     clear H
     have H := H1
     clear H1
     have H' := Aside0.mk H
     clear H
     go_wp2
     go_meet
     case rel => exact ⟨_, (a0), q1_, H', ⟨(by have := HJ1.out; first | omega | exact Nat.le_refl _)⟩, q0_⟩
   case rest =>
    clear HC6
    try clear c1
    try clear p2
    try clear c3
    try clear c3b0
    try clear c3b1
    try clear c4
    try clear c4b0
    try clear c4b1
    try clear p5
    try clear q5
    try clear hx5
    try clear qi5
    try clear c7
    try clear c8
    try clear c8b0
    try clear c8b1
    try clear c9
    try clear c9b0
    try clear c9b1
    try clear p2
    try clear p5
    try clear q5
    obtain ⟨kq, x4_5, rfl, HA, HJ5, ⟨mc5, rfl⟩⟩ := hcut
    cases kq with
    | zero => exact absurd HA.out (by simp [polyglotlaw18_moment.j1])
    | succ kj5 =>
     have H := HA.out
     clear HA
     simp only [polyglotlaw18_moment.j1] at H
     have HC10 := Aside0.mk H
     clear H
     go_upto_region 6 with (fail)
     go_cut [35] (fun v35 wc => ∃ (kq : Nat) (x35_9 : Bool), v35 = .bool x35_9 ∧ Aside0 (polyglotlaw18_moment.j2 kq a0 x4_5 x35_9 = some (r1, r2)) ∧ Aside0 (kq ≤ kj5) ∧ Drawn0 w wc)
     case first =>
      have H := HC10.out
      clear HC10
      by_cases c11 : x4_5.toList = ([] : List UInt8)
      ·rw [if_pos c11] at H
       have c11b0 : (x4_5.toList == ([] : List UInt8)) = true := beq_iff_eq.mpr c11
       have c11b1 : (x4_5.toList != ([] : List UInt8)) = false := bne_eq_false_iff_eq.mpr c11
       clear c11
       (first | rw [c11b0] | (simp only [i64_w, i32_w]; rw [c11b0]) | skip)
       have H' := Aside0.mk H
       clear H
       go_wp2
       go_meet
       case rel => exact ⟨_, (true), q1_, H', ⟨q3_⟩, q0_⟩
      ·rw [if_neg c11] at H
       have c11b0 : (x4_5.toList == ([] : List UInt8)) = false := beq_eq_false_iff_ne.mpr c11
       have c11b1 : (x4_5.toList != ([] : List UInt8)) = true := bne_iff_ne.mpr c11
       (first | rw [c11b0] | (simp only [i64_w, i32_w]; rw [c11b0]) | skip)
       by_cases c12 : (x4_5.size : Int) > 16
       ·rw [if_pos c12] at H
        have c12b0 : decide (16 < (x4_5.size : Int)) = true := decide_eq_true c12
        have c12b1 : decide (16 < x4_5.size) = true := decide_eq_true (by omega)
        clear c12
        have H' := Aside0.mk H
        clear H
        go_wp2
        go_meet
        case rel => exact ⟨_, (true), q1_, H', ⟨q3_⟩, q0_⟩
       ·rw [if_neg c12] at H
        have c12b0 : decide (16 < (x4_5.size : Int)) = false := decide_eq_false c12
        have c12b1 : decide (16 < x4_5.size) = false := decide_eq_false (by omega)
        clear c12
        by_cases c13 : (x4_5.size : Int) > 1
        ·rw [if_pos c13] at H
         have c13b0 : decide (1 < (x4_5.size : Int)) = true := decide_eq_true c13
         have c13b1 : decide (1 < x4_5.size) = true := decide_eq_true (by omega)
         clear c13
         by_cases c14 : 0 < (x4_5.size : Int)
         ·rw [if_pos c14] at H
          have c14b0 : decide (0 < (x4_5.size : Int)) = true := decide_eq_true c14
          have c14b1 : decide (0 < x4_5.size) = true := decide_eq_true (by omega)
          clear c14
          have H' := Aside0.mk H
          clear H
          have p15 : 0 ≤ (0 : Int) := (by omega)
          have q15 : 0 < x4_5.size := (by have : (0 : Int) < (x4_5.size : Int) := of_decide_eq_true q2_; omega)
          have hx15 : ∀ h : 0 < x4_5.size, ((x4_5[0]'h).toNat : Int) = bt x4_5 0 := bt_at x4_5 0
          clear p15
          have qi15 : (0 < (x4_5.size : Int)) = True := eq_true (of_decide_eq_true q2_)
          replace q15 := eq_true q15
          go_wp2
          go_meet
          case rel => exact ⟨_, (((bt x4_5 0) == 48)), q1_, H', ⟨q3_⟩, q0_⟩
         ·rw [if_neg c14] at H
          exact absurd H (by simp)
        ·rw [if_neg c13] at H
         have c13b0 : decide (1 < (x4_5.size : Int)) = false := decide_eq_false c13
         have c13b1 : decide (1 < x4_5.size) = false := decide_eq_false (by omega)
         clear c13
         have H' := Aside0.mk H
         clear H
         go_wp2
         go_meet
         case rel => exact ⟨_, (false), q1_, H', ⟨q3_⟩, q0_⟩
     case rest =>
      clear HC10
      try clear c1
      try clear p1
      try clear q1
      try clear hx1
      try clear qi1
      try clear p2
      try clear c3
      try clear c3b0
      try clear c3b1
      try clear c4
      try clear c4b0
      try clear c4b1
      try clear c5
      try clear p5
      try clear q5
      try clear hx5
      try clear qi5
      try clear c7
      try clear c8
      try clear c8b0
      try clear c8b1
      try clear c9
      try clear c9b0
      try clear c9b1
      try clear c11
      try clear c11b0
      try clear c11b1
      try clear c12
      try clear c12b0
      try clear c12b1
      try clear c13
      try clear c13b0
      try clear c13b1
      try clear c14
      try clear c14b0
      try clear c14b1
      try clear p15
      try clear q15
      try clear hx15
      try clear qi15
      try clear p15
      try clear p2
      try clear p5
      try clear q15
      try clear q5
      obtain ⟨kq, x35_9, rfl, HA, HJ9, ⟨mc9, rfl⟩⟩ := hcut
      cases kq with
      | zero => exact absurd HA.out (by simp [polyglotlaw18_moment.j2])
      | succ kj9 =>
       have H := HA.out
       clear HA
       simp only [polyglotlaw18_moment.j2] at H
       by_cases c16 : x35_9 = true
       ·subst c16
        have H1 : (some (0, false)) = some (r1, r2) := by rw [if_pos rfl] at H; exact H
        clear H
        have H := H1
        clear H1
        simp only [Option.some.injEq, Prod.mk.injEq] at H
        obtain ⟨rfl, rfl⟩ := H
        go_wp2
        go_ret2
        exact ⟨q1_, q0_⟩
       ·replace c16 := Bool.eq_false_iff.mpr c16
        subst c16
        have H1 : (polyglotlaw18_moment.l0 kj9 a0 x4_5 0 0) = some (r1, r2) := by rw [if_neg (show ¬ (false = true) by decide)] at H; exact H
        clear H
        have H := H1
        clear H1
        have H' := Aside0.mk H
        clear H
        go_wp2
        go_loopg [5, 6] kj9 (fun kq v5 v6 w' => ∃ (x5_4 : Int) (x6_4 : Int), v5 = .int .i64 x5_4 ∧ v6 = .int .i64 x6_4 ∧ Aside0 (polyglotlaw18_moment.l0 kq a0 x4_5 x5_4 x6_4 = some (r1, r2)) ∧ Aside0 (kq ≤ kj9) ∧ Drawn0 w w')
        case atStart => exact ⟨(0), (0), q1_, q1_, H', ⟨Nat.le_refl _⟩, q0_⟩
        case round =>
         clear H'
         try clear c1
         try clear p1
         try clear q1
         try clear hx1
         try clear qi1
         try clear p2
         try clear c3
         try clear c3b0
         try clear c3b1
         try clear c4
         try clear c4b0
         try clear c4b1
         try clear c5
         try clear p5
         try clear q5
         try clear hx5
         try clear qi5
         try clear c7
         try clear c8
         try clear c8b0
         try clear c8b1
         try clear c9
         try clear c9b0
         try clear c9b1
         try clear c11
         try clear c11b0
         try clear c11b1
         try clear c12
         try clear c12b0
         try clear c12b1
         try clear c13
         try clear c13b0
         try clear c13b1
         try clear c14
         try clear c14b0
         try clear c14b1
         try clear p15
         try clear q15
         try clear hx15
         try clear qi15
         try clear c16
         try clear p1
         try clear p15
         try clear p2
         try clear p5
         try clear q1
         try clear q15
         try clear q5
         obtain ⟨x5_4, x6_4, rfl, rfl, HA, HK4, ⟨m4, rfl⟩⟩ := hrel
         cases gk with
         | zero => exact absurd HA.out (by simp [polyglotlaw18_moment.l0])
         | succ k4 =>
          have H := HA.out
          clear HA
          simp only [polyglotlaw18_moment.l0] at H
          by_cases c17 : x6_4 < (x4_5.size : Int)
          ·rw [if_pos c17] at H
           have c17b0 : decide (x6_4 < (x4_5.size : Int)) = true := decide_eq_true c17
           clear c17
           by_cases c18 : 0 ≤ x6_4
           ·rw [if_pos c18] at H
            have c18b0 : decide (0 ≤ x6_4) = true := decide_eq_true c18
            clear c18
            by_cases c20 : (bt x4_5 x6_4) < 48
            ·rw [if_pos c20] at H
             have c20b0 : decide ((bt x4_5 x6_4) < 48) = true := decide_eq_true c20
             clear c20
             simp only [Option.some.injEq, Prod.mk.injEq] at H
             obtain ⟨rfl, rfl⟩ := H
             have p19 : 0 ≤ (x6_4 : Int) := of_decide_eq_true q2_
             have q19 : x6_4 < (x4_5.size : Int) := of_decide_eq_true q2_
             have hx19 := bt_at x4_5 x6_4
             replace p19 := eq_true p19
             replace q19 := eq_true q19
             go_wp2
             go_ret2
             exact ⟨q1_, q0_⟩
            ·rw [if_neg c20] at H
             have c20b0 : decide ((bt x4_5 x6_4) < 48) = false := decide_eq_false c20
             clear c20
             by_cases c22 : (bt x4_5 x6_4) > 57
             ·rw [if_pos c22] at H
              have c22b0 : decide (57 < (bt x4_5 x6_4)) = true := decide_eq_true c22
              clear c22
              simp only [Option.some.injEq, Prod.mk.injEq] at H
              obtain ⟨rfl, rfl⟩ := H
              have p19 : 0 ≤ (x6_4 : Int) := of_decide_eq_true q2_
              have q19 : x6_4 < (x4_5.size : Int) := of_decide_eq_true q2_
              have hx19 := bt_at x4_5 x6_4
              replace p19 := eq_true p19
              replace q19 := eq_true q19
              have p21 : 0 ≤ (x6_4 : Int) := of_decide_eq_true q2_
              have q21 : x6_4 < (x4_5.size : Int) := of_decide_eq_true q2_
              have hx21 := bt_at x4_5 x6_4
              replace p21 := eq_true p21
              replace q21 := eq_true q21
              go_wp2
              go_ret2
              exact ⟨q1_, q0_⟩
             ·rw [if_neg c22] at H
              have c22b0 : decide (57 < (bt x4_5 x6_4)) = false := decide_eq_false c22
              clear c22
              have H' := Aside0.mk H
              clear H
              have p19 : 0 ≤ (x6_4 : Int) := of_decide_eq_true q2_
              have q19 : x6_4 < (x4_5.size : Int) := of_decide_eq_true q2_
              have hx19 := bt_at x4_5 x6_4
              replace p19 := eq_true p19
              replace q19 := eq_true q19
              have p21 : 0 ≤ (x6_4 : Int) := of_decide_eq_true q2_
              have q21 : x6_4 < (x4_5.size : Int) := of_decide_eq_true q2_
              have hx21 := bt_at x4_5 x6_4
              replace p21 := eq_true p21
              replace q21 := eq_true q21
              have p23 : 0 ≤ (x6_4 : Int) := of_decide_eq_true q2_
              have q23 : x6_4 < (x4_5.size : Int) := of_decide_eq_true q2_
              have hx23 := bt_at x4_5 x6_4
              replace p23 := eq_true p23
              replace q23 := eq_true q23
              go_wp2
              go_roundg k4
              case measure => have := HJ1.out; have := HJ5.out; have := HJ9.out; have := HK4.out; omega
              case rel => exact ⟨(wrap64 ((wrap64 (10 * x5_4)) + (((bt x4_5 x6_4) - 48) % 256))), (wrap64 (x6_4 + 1)), q1_, q1_, H', ⟨(by have := HJ1.out; have := HJ5.out; have := HJ9.out; have := HK4.out; omega)⟩, q0_⟩
           ·rw [if_neg c18] at H
            exact absurd H (by simp)
          ·rw [if_neg c17] at H
           have c17b0 : decide (x6_4 < (x4_5.size : Int)) = false := decide_eq_false c17
           clear c17
           by_cases c24 : x4_5.toList = a0.toList
           ·rw [if_pos c24] at H
            have c24b0 : (x4_5.toList == a0.toList) = true := beq_iff_eq.mpr c24
            have c24b1 : (x4_5.toList != a0.toList) = false := bne_eq_false_iff_eq.mpr c24
            clear c24
            by_cases c25 : x5_4 ≥ (-9007199254740992)
            ·rw [if_pos c25] at H
             have c25b0 : decide ((-9007199254740992) ≤ x5_4) = true := decide_eq_true c25
             clear c25
             simp only [Option.some.injEq, Prod.mk.injEq] at H
             obtain ⟨rfl, rfl⟩ := H
             go_wp2
             go_ret2
             exact ⟨q1_, q0_⟩
            ·rw [if_neg c25] at H
             have c25b0 : decide ((-9007199254740992) ≤ x5_4) = false := decide_eq_false c25
             clear c25
             simp only [Option.some.injEq, Prod.mk.injEq] at H
             obtain ⟨rfl, rfl⟩ := H
             go_wp2
             go_ret2
             exact ⟨q1_, q0_⟩
           ·rw [if_neg c24] at H
            have c24b0 : (x4_5.toList == a0.toList) = false := beq_eq_false_iff_ne.mpr c24
            have c24b1 : (x4_5.toList != a0.toList) = true := bne_iff_ne.mpr c24
            by_cases c26 : (wrap64 (-x5_4)) ≥ (-9007199254740992)
            ·rw [if_pos c26] at H
             have c26b0 : decide ((-9007199254740992) ≤ (wrap64 (-x5_4))) = true := decide_eq_true c26
             clear c26
             simp only [Option.some.injEq, Prod.mk.injEq] at H
             obtain ⟨rfl, rfl⟩ := H
             go_wp2
             go_ret2
             exact ⟨q1_, q0_⟩
            ·rw [if_neg c26] at H
             have c26b0 : decide ((-9007199254740992) ≤ (wrap64 (-x5_4))) = false := decide_eq_false c26
             clear c26
             simp only [Option.some.injEq, Prod.mk.injEq] at H
             obtain ⟨rfl, rfl⟩ := H
             go_wp2
             go_ret2
             exact ⟨q1_, q0_⟩
end Go.Proofs.YtdhpcofnddkcaaaGreatDoor.S
namespace Go.Proofs.YtdhpcofnddkcaaaGreatDoor.S
open Go.RowKit Go.Proofs.YtdhpcofnddkcaaaGreatDoor.G Go.Proofs.YtdhpcofnddkcaaaGreatDoorW.PrintWords Go.Proofs.YtdhpcofnddkcaaaGreatDoorW.PrintLast Go.Proofs.YtdhpcofnddkcaaaGreatDoorW.PrintMore
attribute [local go_sem] max2_int min2_int max_two min_two max_three min_three max_four min_four
set_option linter.unusedVariables false
set_option linter.unusedSimpArgs false
namespace Sx12
theorem cells3 {w : World} {g : Nat} {t : TypeId} {a0 a1 a2 : Value} (h : w.heap[g]? = some (.cells #[a0, a1, a2] t (0, 0))) : w.cell? ⟨g, 0, none⟩ = some a0 ∧ w.cell? ⟨g, 1, none⟩ = some a1 ∧ w.cell? ⟨g, 2, none⟩ = some a2 := ⟨(blk_cell h 0).trans rfl, (blk_cell h 1).trans rfl, (blk_cell h 2).trans rfl⟩
theorem cellsF3 {w : World} {g : Nat} {t : TypeId} {a0 a1 a2 : Value} (h : w.heap[g]? = some (.cells #[a0, a1, a2] t (0, 0))) : w.cell? ⟨g, 0, none⟩ = some a0 ∧ w.cell? ⟨g, 1, none⟩ = some a1 ∧ w.cell? ⟨g, 2, none⟩ = some a2 ∧ w.frozen? ⟨g, 0, none⟩ = false ∧ w.frozen? ⟨g, 1, none⟩ = false ∧ w.frozen? ⟨g, 2, none⟩ = false := ⟨(blk_cell h 0).trans rfl, (blk_cell h 1).trans rfl, (blk_cell h 2).trans rfl, blk_frozen h 0, blk_frozen h 1, blk_frozen h 2⟩
theorem cells12 {w : World} {g : Nat} {t : TypeId} {a0 a1 a2 a3 a4 a5 a6 a7 a8 a9 a10 a11 : Value} (h : w.heap[g]? = some (.cells #[a0, a1, a2, a3, a4, a5, a6, a7, a8, a9, a10, a11] t (0, 0))) : w.cell? ⟨g, 0, none⟩ = some a0 ∧ w.cell? ⟨g, 1, none⟩ = some a1 ∧ w.cell? ⟨g, 2, none⟩ = some a2 ∧ w.cell? ⟨g, 3, none⟩ = some a3 ∧ w.cell? ⟨g, 4, none⟩ = some a4 ∧ w.cell? ⟨g, 5, none⟩ = some a5 ∧ w.cell? ⟨g, 6, none⟩ = some a6 ∧ w.cell? ⟨g, 7, none⟩ = some a7 ∧ w.cell? ⟨g, 8, none⟩ = some a8 ∧ w.cell? ⟨g, 9, none⟩ = some a9 ∧ w.cell? ⟨g, 10, none⟩ = some a10 ∧ w.cell? ⟨g, 11, none⟩ = some a11 := ⟨(blk_cell h 0).trans rfl, (blk_cell h 1).trans rfl, (blk_cell h 2).trans rfl, (blk_cell h 3).trans rfl, (blk_cell h 4).trans rfl, (blk_cell h 5).trans rfl, (blk_cell h 6).trans rfl, (blk_cell h 7).trans rfl, (blk_cell h 8).trans rfl, (blk_cell h 9).trans rfl, (blk_cell h 10).trans rfl, (blk_cell h 11).trans rfl⟩
theorem cellsF12 {w : World} {g : Nat} {t : TypeId} {a0 a1 a2 a3 a4 a5 a6 a7 a8 a9 a10 a11 : Value} (h : w.heap[g]? = some (.cells #[a0, a1, a2, a3, a4, a5, a6, a7, a8, a9, a10, a11] t (0, 0))) : w.cell? ⟨g, 0, none⟩ = some a0 ∧ w.cell? ⟨g, 1, none⟩ = some a1 ∧ w.cell? ⟨g, 2, none⟩ = some a2 ∧ w.cell? ⟨g, 3, none⟩ = some a3 ∧ w.cell? ⟨g, 4, none⟩ = some a4 ∧ w.cell? ⟨g, 5, none⟩ = some a5 ∧ w.cell? ⟨g, 6, none⟩ = some a6 ∧ w.cell? ⟨g, 7, none⟩ = some a7 ∧ w.cell? ⟨g, 8, none⟩ = some a8 ∧ w.cell? ⟨g, 9, none⟩ = some a9 ∧ w.cell? ⟨g, 10, none⟩ = some a10 ∧ w.cell? ⟨g, 11, none⟩ = some a11 ∧ w.frozen? ⟨g, 0, none⟩ = false ∧ w.frozen? ⟨g, 1, none⟩ = false ∧ w.frozen? ⟨g, 2, none⟩ = false ∧ w.frozen? ⟨g, 3, none⟩ = false ∧ w.frozen? ⟨g, 4, none⟩ = false ∧ w.frozen? ⟨g, 5, none⟩ = false ∧ w.frozen? ⟨g, 6, none⟩ = false ∧ w.frozen? ⟨g, 7, none⟩ = false ∧ w.frozen? ⟨g, 8, none⟩ = false ∧ w.frozen? ⟨g, 9, none⟩ = false ∧ w.frozen? ⟨g, 10, none⟩ = false ∧ w.frozen? ⟨g, 11, none⟩ = false := ⟨(blk_cell h 0).trans rfl, (blk_cell h 1).trans rfl, (blk_cell h 2).trans rfl, (blk_cell h 3).trans rfl, (blk_cell h 4).trans rfl, (blk_cell h 5).trans rfl, (blk_cell h 6).trans rfl, (blk_cell h 7).trans rfl, (blk_cell h 8).trans rfl, (blk_cell h 9).trans rfl, (blk_cell h 10).trans rfl, (blk_cell h 11).trans rfl, blk_frozen h 0, blk_frozen h 1, blk_frozen h 2, blk_frozen h 3, blk_frozen h 4, blk_frozen h 5, blk_frozen h 6, blk_frozen h 7, blk_frozen h 8, blk_frozen h 9, blk_frozen h 10, blk_frozen h 11⟩
theorem q0_ {p_ : Prop} (h_ : p_ := by (with_reducible repeat (first | refine blk_drewN ?_ _ | refine blk_drew ?_ | refine blk_alloc ?_ _)); refine blk_put (cs := #[.int .i64 0, .string (⟨#[]⟩ : ByteArray), .bool false, .string (⟨#[]⟩ : ByteArray), .int .i64 0, .int .i64 0, .int .i64 0, .int .i64 0, .bool false, .bool false, .int .i64 0, .int .i64 0]) ?_ 11 _ rfl; (with_reducible repeat (first | refine blk_drewN ?_ _ | refine blk_drew ?_ | refine blk_alloc ?_ _)); refine blk_put (cs := #[.int .i64 0, .string (⟨#[]⟩ : ByteArray), .bool false, .string (⟨#[]⟩ : ByteArray), .int .i64 0, .int .i64 0, .int .i64 0, .int .i64 0, .bool false, .bool false, .int .i64 0, .int .i64 0]) ?_ 10 _ rfl; (with_reducible repeat (first | refine blk_drewN ?_ _ | refine blk_drew ?_ | refine blk_alloc ?_ _)); refine blk_put (cs := #[.int .i64 0, .string (⟨#[]⟩ : ByteArray), .bool false, .string (⟨#[]⟩ : ByteArray), .int .i64 0, .int .i64 0, .int .i64 0, .int .i64 0, .bool false, .bool false, .int .i64 0, .int .i64 0]) ?_ 9 _ rfl; (with_reducible repeat (first | refine blk_drewN ?_ _ | refine blk_drew ?_ | refine blk_alloc ?_ _)); refine blk_put (cs := #[.int .i64 0, .string (⟨#[]⟩ : ByteArray), .bool false, .string (⟨#[]⟩ : ByteArray), .int .i64 0, .int .i64 0, .int .i64 0, .int .i64 0, .bool false, .bool false, .int .i64 0, .int .i64 0]) ?_ 8 _ rfl; (with_reducible repeat (first | refine blk_drewN ?_ _ | refine blk_drew ?_ | refine blk_alloc ?_ _)); refine blk_put (cs := #[.int .i64 0, .string (⟨#[]⟩ : ByteArray), .bool false, .string (⟨#[]⟩ : ByteArray), .int .i64 0, .int .i64 0, .int .i64 0, .int .i64 0, .bool false, .bool false, .int .i64 0, .int .i64 0]) ?_ 7 _ rfl; (with_reducible repeat (first | refine blk_drewN ?_ _ | refine blk_drew ?_ | refine blk_alloc ?_ _)); refine blk_put (cs := #[.int .i64 0, .string (⟨#[]⟩ : ByteArray), .bool false, .string (⟨#[]⟩ : ByteArray), .int .i64 0, .int .i64 0, .int .i64 0, .int .i64 0, .bool false, .bool false, .int .i64 0, .int .i64 0]) ?_ 6 _ rfl; (with_reducible repeat (first | refine blk_drewN ?_ _ | refine blk_drew ?_ | refine blk_alloc ?_ _)); refine blk_put (cs := #[.int .i64 0, .string (⟨#[]⟩ : ByteArray), .bool false, .string (⟨#[]⟩ : ByteArray), .int .i64 0, .int .i64 0, .int .i64 0, .int .i64 0, .bool false, .bool false, .int .i64 0, .int .i64 0]) ?_ 5 _ rfl; (with_reducible repeat (first | refine blk_drewN ?_ _ | refine blk_drew ?_ | refine blk_alloc ?_ _)); refine blk_put (cs := #[.int .i64 0, .string (⟨#[]⟩ : ByteArray), .bool false, .string (⟨#[]⟩ : ByteArray), .int .i64 0, .int .i64 0, .int .i64 0, .int .i64 0, .bool false, .bool false, .int .i64 0, .int .i64 0]) ?_ 4 _ rfl; (with_reducible repeat (first | refine blk_drewN ?_ _ | refine blk_drew ?_ | refine blk_alloc ?_ _)); refine blk_put (cs := #[.int .i64 0, .string (⟨#[]⟩ : ByteArray), .bool false, .string (⟨#[]⟩ : ByteArray), .int .i64 0, .int .i64 0, .int .i64 0, .int .i64 0, .bool false, .bool false, .int .i64 0, .int .i64 0]) ?_ 3 _ rfl; (with_reducible repeat (first | refine blk_drewN ?_ _ | refine blk_drew ?_ | refine blk_alloc ?_ _)); refine blk_put (cs := #[.int .i64 0, .string (⟨#[]⟩ : ByteArray), .bool false, .string (⟨#[]⟩ : ByteArray), .int .i64 0, .int .i64 0, .int .i64 0, .int .i64 0, .bool false, .bool false, .int .i64 0, .int .i64 0]) ?_ 2 _ rfl; (with_reducible repeat (first | refine blk_drewN ?_ _ | refine blk_drew ?_ | refine blk_alloc ?_ _)); refine blk_put (cs := #[.int .i64 0, .string (⟨#[]⟩ : ByteArray), .bool false, .string (⟨#[]⟩ : ByteArray), .int .i64 0, .int .i64 0, .int .i64 0, .int .i64 0, .bool false, .bool false, .int .i64 0, .int .i64 0]) ?_ 1 _ rfl; (with_reducible repeat (first | refine blk_drewN ?_ _ | refine blk_drew ?_ | refine blk_alloc ?_ _)); refine blk_put (cs := #[.int .i64 0, .string (⟨#[]⟩ : ByteArray), .bool false, .string (⟨#[]⟩ : ByteArray), .int .i64 0, .int .i64 0, .int .i64 0, .int .i64 0, .bool false, .bool false, .int .i64 0, .int .i64 0]) ?_ 0 _ rfl; (with_reducible repeat (first | refine blk_drewN ?_ _ | refine blk_drew ?_ | refine blk_alloc ?_ _)); exact BK212.out) : p_ := h_
theorem q1_ {p_ : Prop} (h_ : p_ := by (with_reducible repeat (first | refine blk_drewN ?_ _ | refine blk_drew ?_ | refine blk_alloc ?_ _)); exact BK211.out) : p_ := h_
theorem q2_ {p_ : Prop} (h_ : p_ := by repeat (first | (with_reducible first | exact HB.out | apply below_alloc | apply pw_below_drewN | apply below_drew1 | refine below_set ?_ GE211.out | refine below_set ?_ GE212.out) | exact HB.out)) : p_ := h_
theorem q3_ {p_ : Prop} (h_ : p_ := by repeat (first | (with_reducible first | exact HB.out | apply below_alloc | apply pw_below_drewN | apply below_drew1 | refine below_set ?_ GE211.out) | exact HB.out)) : p_ := h_
theorem q4_ {p_ : Prop} (h_ : p_ := by repeat (first | (with_reducible first | exact HB.out | apply below_alloc | apply pw_below_drewN | apply below_drew1) | exact HB.out)) : p_ := h_
theorem q5_ {p_ : Prop} (h_ : p_ := by (with_reducible repeat (first | refine blk_drewN ?_ _ | refine blk_drew ?_ | refine blk_alloc ?_ _)); exact BK212.out) : p_ := h_
theorem q6_ {p_ : Prop} (h_ : p_ := by rw [hg]; exact Nat.ne_of_lt (blk_lt (g := gb211) (o := .cells #[.string a0_0, .int .i64 a0_1, .string a0_2] 44 (0, 0)) q1_)) : p_ := h_
theorem q7_ {p_ : Prop} (h_ : p_ := by rw [hg]; exact Nat.ne_of_gt (blk_lt (g := gb211) (o := .cells #[.string a0_0, .int .i64 a0_1, .string a0_2] 44 (0, 0)) q1_)) : p_ := h_
theorem q8_ {p_ : Prop} (h_ : p_ := by (try simp only [List.map_toArray, List.map_cons, List.map_nil]); first | done | rfl | (simp only [List.length_drop, List.length_take]; rfl)) : p_ := h_
theorem q9_ {p_ : Prop} (h_ : p_ := by first | rfl | (simp [errW_none, errW_some] <;> rfl) | (simp [*, errW_none, errW_some] <;> rfl)) : p_ := h_
theorem q10_ {p_ : Prop} (h_ : p_ := by repeat (first | (with_reducible first | exact HB.out | apply below_alloc | apply pw_below_drewN | apply below_drew1 | refine below_set ?_ GE211.out | refine below_set ?_ GE212.out | refine below_set ?_ GE229.out) | exact HB.out)) : p_ := h_
theorem q11_ {p_ : Prop} (h_ : p_ := by rw [hg]; exact (below_size q4_)) : p_ := h_
theorem q12_ {p_ : Prop} (h_ : p_ := by rw [hg]; exact (below_size q3_)) : p_ := h_
theorem q13_ {p_ : Prop} (h_ : p_ := by rw [hg]; exact Nat.ne_of_lt (blk_lt (g := gb212) (o := .cells #[.int .i64 0, .string (⟨#[]⟩ : ByteArray), .bool false, .string (⟨#[]⟩ : ByteArray), .int .i64 0, .int .i64 0, .int .i64 0, .int .i64 0, .bool false, .bool false, .int .i64 0, .int .i64 0] 51 (0, 0)) q5_)) : p_ := h_
theorem q14_ {p_ : Prop} (h_ : p_ := by rw [hg]; exact Nat.ne_of_gt (blk_lt (g := gb212) (o := .cells #[.int .i64 0, .string (⟨#[]⟩ : ByteArray), .bool false, .string (⟨#[]⟩ : ByteArray), .int .i64 0, .int .i64 0, .int .i64 0, .int .i64 0, .bool false, .bool false, .int .i64 0, .int .i64 0] 51 (0, 0)) q5_)) : p_ := h_
theorem u0_ {p_ : Prop} (h_ : p_ := by first | (go_simp; done) | (go_simp; rfl)) : p_ := h_
end Sx12
open Sx12
def polyglotlaw18_Value.f (k : Nat) (a0_0 : ByteArray) (a0_1 : Int) (a0_2 : ByteArray) : Option (Int × ByteArray × Bool × ByteArray × Int × Int × Int × Int × Bool × Bool × Int × Int × Bool) := if a0_1 = 0 then ((value_Str.f a0_2).bind fun bt213 => (some (bt213.1, bt213.2.1, bt213.2.2.1, bt213.2.2.2.1, bt213.2.2.2.2.1, bt213.2.2.2.2.2.1, bt213.2.2.2.2.2.2.1, bt213.2.2.2.2.2.2.2.1, bt213.2.2.2.2.2.2.2.2.1, bt213.2.2.2.2.2.2.2.2.2.1, bt213.2.2.2.2.2.2.2.2.2.2.1, bt213.2.2.2.2.2.2.2.2.2.2.2, true))) else (if a0_1 = 1 then ((polyglotlaw02_Parse.f k a0_2).bind fun bt225 => (if bt225.2.2.2 = true then ((value_Num.f bt225.1 bt225.2.1 bt225.2.2.1).bind fun bt230 => (some (bt230.1, bt230.2.1, bt230.2.2.1, bt230.2.2.2.1, bt230.2.2.2.2.1, bt230.2.2.2.2.2.1, bt230.2.2.2.2.2.2.1, bt230.2.2.2.2.2.2.2.1, bt230.2.2.2.2.2.2.2.2.1, bt230.2.2.2.2.2.2.2.2.2.1, bt230.2.2.2.2.2.2.2.2.2.2.1, bt230.2.2.2.2.2.2.2.2.2.2.2, true))) else (some (0, (⟨#[]⟩ : ByteArray), false, (⟨#[]⟩ : ByteArray), 0, 0, 0, 0, false, false, 0, 0, false)))) else (if a0_1 = 2 then ((polyglotlaw18_moment.f k a0_2).bind fun bt242 => (if bt242.2 = true then ((value_At.f bt242.1).bind fun bt244 => (some (bt244.1, bt244.2.1, bt244.2.2.1, bt244.2.2.2.1, bt244.2.2.2.2.1, bt244.2.2.2.2.2.1, bt244.2.2.2.2.2.2.1, bt244.2.2.2.2.2.2.2.1, bt244.2.2.2.2.2.2.2.2.1, bt244.2.2.2.2.2.2.2.2.2.1, bt244.2.2.2.2.2.2.2.2.2.2.1, bt244.2.2.2.2.2.2.2.2.2.2.2, true))) else (some (0, (⟨#[]⟩ : ByteArray), false, (⟨#[]⟩ : ByteArray), 0, 0, 0, 0, false, false, 0, 0, false)))) else (some (0, (⟨#[]⟩ : ByteArray), false, (⟨#[]⟩ : ByteArray), 0, 0, 0, 0, false, false, 0, 0, false))))
theorem polyglotlaw18_Value.mono : ∀ a0 a1 a2 k, LeO (polyglotlaw18_Value.f k a0 a1 a2) (polyglotlaw18_Value.f (k + 1) a0 a1 a2) := by
 intro a0 a1 a2 k
 unfold polyglotlaw18_Value.f
 repeat' first
   | (with_reducible exact polyglotlaw02_Parse.mono _ _)
   | (with_reducible exact polyglotlaw18_moment.mono _ _)
   | (with_reducible exact LeO.refl _)
   | (with_reducible exact LeO.none _)
   | (with_reducible refine LeO.ite ?_ ?_)
   | (with_reducible refine LeO.bind ?_ (fun _ => ?_))
   | exact polyglotlaw02_Parse.mono _ _
   | exact polyglotlaw18_moment.mono _ _
   | exact LeO.none _
   | refine LeO.ite ?_ ?_
   | refine LeO.bind ?_ (fun _ => ?_)
set_option maxHeartbeats 8000000 in
set_option maxRecDepth 100000 in
theorem polyglotlaw18_Value.calls (k : Nat) (a0_0 : ByteArray) (a0_1 : Int) (a0_2 : ByteArray) (r1 : Int) (r2 : ByteArray) (r3 : Bool) (r4 : ByteArray) (r5 : Int) (r6 : Int) (r7 : Int) (r8 : Int) (r9 : Bool) (r10 : Bool) (r11 : Int) (r12 : Int) (r13 : Bool) (w : World) (h : polyglotlaw18_Value.f k a0_0 a0_1 a0_2 = some (r1, r2, r3, r4, r5, r6, r7, r8, r9, r10, r11, r12, r13)) :
  Calls Tryz.prog 18 #[.agg #[.string a0_0, .int .i64 a0_1, .string a0_2]] w fun e w' => e = .returned (.tuple #[.agg #[.int .i64 r1, .string r2, .bool r3, .string r4, .int .i64 r5, .int .i64 r6, .int .i64 r7, .int .i64 r8, .bool r9, .bool r10, .int .i64 r11, .int .i64 r12], .bool r13]) ∧ Below w.heap.size w w' := by
 have hu44 := Tryz.underlying44
 have hu51 := Tryz.underlying51
 have hu46 := Tryz.underlying46
 have HB := Aside0.mk (Below.refl w.heap.size w)
 have H : (if a0_1 = 0 then ((value_Str.f a0_2).bind fun bt213 => (some (bt213.1, bt213.2.1, bt213.2.2.1, bt213.2.2.2.1, bt213.2.2.2.2.1, bt213.2.2.2.2.2.1, bt213.2.2.2.2.2.2.1, bt213.2.2.2.2.2.2.2.1, bt213.2.2.2.2.2.2.2.2.1, bt213.2.2.2.2.2.2.2.2.2.1, bt213.2.2.2.2.2.2.2.2.2.2.1, bt213.2.2.2.2.2.2.2.2.2.2.2, true))) else (if a0_1 = 1 then ((polyglotlaw02_Parse.f k a0_2).bind fun bt225 => (if bt225.2.2.2 = true then ((value_Num.f bt225.1 bt225.2.1 bt225.2.2.1).bind fun bt230 => (some (bt230.1, bt230.2.1, bt230.2.2.1, bt230.2.2.2.1, bt230.2.2.2.2.1, bt230.2.2.2.2.2.1, bt230.2.2.2.2.2.2.1, bt230.2.2.2.2.2.2.2.1, bt230.2.2.2.2.2.2.2.2.1, bt230.2.2.2.2.2.2.2.2.2.1, bt230.2.2.2.2.2.2.2.2.2.2.1, bt230.2.2.2.2.2.2.2.2.2.2.2, true))) else (some (0, (⟨#[]⟩ : ByteArray), false, (⟨#[]⟩ : ByteArray), 0, 0, 0, 0, false, false, 0, 0, false)))) else (if a0_1 = 2 then ((polyglotlaw18_moment.f k a0_2).bind fun bt242 => (if bt242.2 = true then ((value_At.f bt242.1).bind fun bt244 => (some (bt244.1, bt244.2.1, bt244.2.2.1, bt244.2.2.2.1, bt244.2.2.2.2.1, bt244.2.2.2.2.2.1, bt244.2.2.2.2.2.2.1, bt244.2.2.2.2.2.2.2.1, bt244.2.2.2.2.2.2.2.2.1, bt244.2.2.2.2.2.2.2.2.2.1, bt244.2.2.2.2.2.2.2.2.2.2.1, bt244.2.2.2.2.2.2.2.2.2.2.2, true))) else (some (0, (⟨#[]⟩ : ByteArray), false, (⟨#[]⟩ : ByteArray), 0, 0, 0, 0, false, false, 0, 0, false)))) else (some (0, (⟨#[]⟩ : ByteArray), false, (⟨#[]⟩ : ByteArray), 0, 0, 0, 0, false, false, 0, 0, false))))) = some (r1, r2, r3, r4, r5, r6, r7, r8, r9, r10, r11, r12, r13) := h
 clear h
 by_cases c2 : a0_1 = 0
 ·rw [if_pos c2] at H
  have c2b0 : (a0_1 == 0) = true := beq_iff_eq.mpr c2
  have c2b1 : (a0_1 != 0) = false := bne_eq_false_iff_eq.mpr c2
  clear c2
  replace H := Option.bind_eq_some_iff.mp H
  obtain ⟨⟨t213, t214, t215, t216, t217, t218, t219, t220, t221, t222, t223, t224⟩, A30, H⟩ := H
  replace H : (some (t213, t214, t215, t216, t217, t218, t219, t220, t221, t222, t223, t224, true)) = some (r1, r2, r3, r4, r5, r6, r7, r8, r9, r10, r11, r12, r13) := H
  have A3 := Aside0.mk A30
  clear A30
  simp only [Option.some.injEq, Prod.mk.injEq] at H
  obtain ⟨rfl, rfl, rfl, rfl, rfl, rfl, rfl, rfl, rfl, rfl, rfl, rfl, rfl⟩ := H
  go_enter Tryz.func18, Tryz.ntmps18
  go_wp2_with (first | ((with_reducible refine gate_dst (N := 1) rfl ?_); refine box_event ?hg (N := 1) ?hd (cs := #[.string a0_0, .int .i64 a0_1, .string a0_2]) (t := 44) ?hr ?_; (case hd => rfl); (case hg => rfl); (case hr => exact u0_); intro gb211 hg w4 hbox hb; have BK211 := Aside0.mk (hbox); have GW211 := Aside0.mk ((q11_ : w.heap.size ≤ gb211)); have GE211 := Aside0.mk ((q11_ : w.heap.size ≤ gb211)); replace HB := Aside0.mk (below_step q4_ hb); clear hb hbox hg) | ((with_reducible refine gate_dst (N := 2) rfl ?_); refine box_event ?hg (N := 2) ?hd (cs := #[.int .i64 0, .string (⟨#[]⟩ : ByteArray), .bool false, .string (⟨#[]⟩ : ByteArray), .int .i64 0, .int .i64 0, .int .i64 0, .int .i64 0, .bool false, .bool false, .int .i64 0, .int .i64 0]) (t := 51) ?hr ?_; (case hd => rfl); (case hg => rfl); (case hr => exact u0_); intro gb212 hg w5 hbox hb; have BK212 := Aside0.mk (hbox); have GW212 := Aside0.mk ((q12_ : w.heap.size ≤ gb212)); have GE212 := Aside0.mk ((q12_ : w.heap.size ≤ gb212)); replace HB := Aside0.mk (below_step q3_ hb); have NB211_212 := Aside0.mk ((q6_ : gb211 ≠ gb212)); have NB212_211 := Aside0.mk ((q7_ : gb212 ≠ gb211)); replace BK211 := Aside0.mk (blk_below (g := gb211) (o := .cells #[.string a0_0, .int .i64 a0_1, .string a0_2] 44 (0, 0)) q1_ hb); clear hb hbox hg; have hnb6 := NB211_212.out; have hnc6 := NB212_211.out; obtain ⟨hcz7_0, hcz7_1, hcz7_2, hfz7_0, hfz7_1, hfz7_2⟩ := cellsF3 BK211.out) | ((with_reducible refine gate_callee (f := 26) rfl ?_); refine goesL_ (some 14) rfl rfl Tryz.func26 (by kernel_rfl) rfl #[.string a0_2] rfl q8_ ?_; (with_reducible refine (value_Str.calls a0_2 t213 t214 t215 t216 t217 t218 t219 t220 t221 t222 t223 t224 _ A3.out).mono ?_); rintro e w8 ⟨rfl, hb⟩; refine ⟨_, rfl, ?_⟩; replace BK211 := Aside0.mk (blk_below (g := gb211) (o := .cells #[.string a0_0, .int .i64 a0_1, .string a0_2] 44 (0, 0)) q1_ hb); replace BK212 := Aside0.mk (blk_below (g := gb212) (o := .cells #[.int .i64 0, .string (⟨#[]⟩ : ByteArray), .bool false, .string (⟨#[]⟩ : ByteArray), .int .i64 0, .int .i64 0, .int .i64 0, .int .i64 0, .bool false, .bool false, .int .i64 0, .int .i64 0] 51 (0, 0)) q5_ hb); replace HB := Aside0.mk (below_step q2_ hb); (try clear hb); (try clear hb2); (try clear hk); (try clear hi); obtain ⟨hcz9_0, hcz9_1, hcz9_2, hcz9_3, hcz9_4, hcz9_5, hcz9_6, hcz9_7, hcz9_8, hcz9_9, hcz9_10, hcz9_11, hfz9_0, hfz9_1, hfz9_2, hfz9_3, hfz9_4, hfz9_5, hfz9_6, hfz9_7, hfz9_8, hfz9_9, hfz9_10, hfz9_11⟩ := cellsF12 BK212.out))
  refine bodyPost_ret (results_ct rfl _ _ gb212 51 #[.int .i64 t213, .string t214, .bool t215, .string t216, .int .i64 t217, .int .i64 t218, .int .i64 t219, .int .i64 t220, .bool t221, .bool t222, .int .i64 t223, .int .i64 t224] (0, 0) _ rfl (by (with_reducible repeat (first | refine blk_drewN ?_ _ | refine blk_drew ?_ | refine blk_alloc ?_ _)); refine blk_put (cs := #[.int .i64 t213, .string t214, .bool t215, .string t216, .int .i64 t217, .int .i64 t218, .int .i64 t219, .int .i64 t220, .bool t221, .bool t222, .int .i64 t223, .int .i64 0]) ?_ 11 _ rfl; (with_reducible repeat (first | refine blk_drewN ?_ _ | refine blk_drew ?_ | refine blk_alloc ?_ _)); refine blk_put (cs := #[.int .i64 t213, .string t214, .bool t215, .string t216, .int .i64 t217, .int .i64 t218, .int .i64 t219, .int .i64 t220, .bool t221, .bool t222, .int .i64 0, .int .i64 0]) ?_ 10 _ rfl; (with_reducible repeat (first | refine blk_drewN ?_ _ | refine blk_drew ?_ | refine blk_alloc ?_ _)); refine blk_put (cs := #[.int .i64 t213, .string t214, .bool t215, .string t216, .int .i64 t217, .int .i64 t218, .int .i64 t219, .int .i64 t220, .bool t221, .bool false, .int .i64 0, .int .i64 0]) ?_ 9 _ rfl; (with_reducible repeat (first | refine blk_drewN ?_ _ | refine blk_drew ?_ | refine blk_alloc ?_ _)); refine blk_put (cs := #[.int .i64 t213, .string t214, .bool t215, .string t216, .int .i64 t217, .int .i64 t218, .int .i64 t219, .int .i64 t220, .bool false, .bool false, .int .i64 0, .int .i64 0]) ?_ 8 _ rfl; (with_reducible repeat (first | refine blk_drewN ?_ _ | refine blk_drew ?_ | refine blk_alloc ?_ _)); refine blk_put (cs := #[.int .i64 t213, .string t214, .bool t215, .string t216, .int .i64 t217, .int .i64 t218, .int .i64 t219, .int .i64 0, .bool false, .bool false, .int .i64 0, .int .i64 0]) ?_ 7 _ rfl; (with_reducible repeat (first | refine blk_drewN ?_ _ | refine blk_drew ?_ | refine blk_alloc ?_ _)); refine blk_put (cs := #[.int .i64 t213, .string t214, .bool t215, .string t216, .int .i64 t217, .int .i64 t218, .int .i64 0, .int .i64 0, .bool false, .bool false, .int .i64 0, .int .i64 0]) ?_ 6 _ rfl; (with_reducible repeat (first | refine blk_drewN ?_ _ | refine blk_drew ?_ | refine blk_alloc ?_ _)); refine blk_put (cs := #[.int .i64 t213, .string t214, .bool t215, .string t216, .int .i64 t217, .int .i64 0, .int .i64 0, .int .i64 0, .bool false, .bool false, .int .i64 0, .int .i64 0]) ?_ 5 _ rfl; (with_reducible repeat (first | refine blk_drewN ?_ _ | refine blk_drew ?_ | refine blk_alloc ?_ _)); refine blk_put (cs := #[.int .i64 t213, .string t214, .bool t215, .string t216, .int .i64 0, .int .i64 0, .int .i64 0, .int .i64 0, .bool false, .bool false, .int .i64 0, .int .i64 0]) ?_ 4 _ rfl; (with_reducible repeat (first | refine blk_drewN ?_ _ | refine blk_drew ?_ | refine blk_alloc ?_ _)); refine blk_put (cs := #[.int .i64 t213, .string t214, .bool t215, .string (⟨#[]⟩ : ByteArray), .int .i64 0, .int .i64 0, .int .i64 0, .int .i64 0, .bool false, .bool false, .int .i64 0, .int .i64 0]) ?_ 3 _ rfl; (with_reducible repeat (first | refine blk_drewN ?_ _ | refine blk_drew ?_ | refine blk_alloc ?_ _)); refine blk_put (cs := #[.int .i64 t213, .string t214, .bool false, .string (⟨#[]⟩ : ByteArray), .int .i64 0, .int .i64 0, .int .i64 0, .int .i64 0, .bool false, .bool false, .int .i64 0, .int .i64 0]) ?_ 2 _ rfl; (with_reducible repeat (first | refine blk_drewN ?_ _ | refine blk_drew ?_ | refine blk_alloc ?_ _)); refine blk_put (cs := #[.int .i64 t213, .string (⟨#[]⟩ : ByteArray), .bool false, .string (⟨#[]⟩ : ByteArray), .int .i64 0, .int .i64 0, .int .i64 0, .int .i64 0, .bool false, .bool false, .int .i64 0, .int .i64 0]) ?_ 1 _ rfl; (with_reducible repeat (first | refine blk_drewN ?_ _ | refine blk_drew ?_ | refine blk_alloc ?_ _)); refine blk_put (cs := #[.int .i64 0, .string (⟨#[]⟩ : ByteArray), .bool false, .string (⟨#[]⟩ : ByteArray), .int .i64 0, .int .i64 0, .int .i64 0, .int .i64 0, .bool false, .bool false, .int .i64 0, .int .i64 0]) ?_ 0 _ rfl; (with_reducible repeat (first | refine blk_drewN ?_ _ | refine blk_drew ?_ | refine blk_alloc ?_ _)); exact BK212.out) Tryz.underlying51 rfl (by kernel_rfl)) rfl ?_
  exact ⟨q9_, q2_⟩
 ·rw [if_neg c2] at H
  have c2b0 : (a0_1 == 0) = false := beq_eq_false_iff_ne.mpr c2
  have c2b1 : (a0_1 != 0) = true := bne_iff_ne.mpr c2
  by_cases c10 : a0_1 = 1
  ·rw [if_pos c10] at H
   have c10b0 : (a0_1 == 1) = true := beq_iff_eq.mpr c10
   have c10b1 : (a0_1 != 1) = false := bne_eq_false_iff_eq.mpr c10
   clear c10
   replace H := Option.bind_eq_some_iff.mp H
   obtain ⟨⟨t225, t226, t227, t228⟩, A110, H⟩ := H
   replace H : (if t228 = true then ((value_Num.f t225 t226 t227).bind fun bt230 => (some (bt230.1, bt230.2.1, bt230.2.2.1, bt230.2.2.2.1, bt230.2.2.2.2.1, bt230.2.2.2.2.2.1, bt230.2.2.2.2.2.2.1, bt230.2.2.2.2.2.2.2.1, bt230.2.2.2.2.2.2.2.2.1, bt230.2.2.2.2.2.2.2.2.2.1, bt230.2.2.2.2.2.2.2.2.2.2.1, bt230.2.2.2.2.2.2.2.2.2.2.2, true))) else (some (0, (⟨#[]⟩ : ByteArray), false, (⟨#[]⟩ : ByteArray), 0, 0, 0, 0, false, false, 0, 0, false))) = some (r1, r2, r3, r4, r5, r6, r7, r8, r9, r10, r11, r12, r13) := H
   have A11 := Aside0.mk A110
   clear A110
   by_cases c12 : t228 = true
   ·subst c12
    have H1 : ((value_Num.f t225 t226 t227).bind fun bt230 => (some (bt230.1, bt230.2.1, bt230.2.2.1, bt230.2.2.2.1, bt230.2.2.2.2.1, bt230.2.2.2.2.2.1, bt230.2.2.2.2.2.2.1, bt230.2.2.2.2.2.2.2.1, bt230.2.2.2.2.2.2.2.2.1, bt230.2.2.2.2.2.2.2.2.2.1, bt230.2.2.2.2.2.2.2.2.2.2.1, bt230.2.2.2.2.2.2.2.2.2.2.2, true))) = some (r1, r2, r3, r4, r5, r6, r7, r8, r9, r10, r11, r12, r13) := by rw [if_pos rfl] at H; exact H
    clear H
    have H := H1
    clear H1
    replace H := Option.bind_eq_some_iff.mp H
    obtain ⟨⟨t230, t231, t232, t233, t234, t235, t236, t237, t238, t239, t240, t241⟩, A130, H⟩ := H
    replace H : (some (t230, t231, t232, t233, t234, t235, t236, t237, t238, t239, t240, t241, true)) = some (r1, r2, r3, r4, r5, r6, r7, r8, r9, r10, r11, r12, r13) := H
    have A13 := Aside0.mk A130
    clear A130
    simp only [Option.some.injEq, Prod.mk.injEq] at H
    obtain ⟨rfl, rfl, rfl, rfl, rfl, rfl, rfl, rfl, rfl, rfl, rfl, rfl, rfl⟩ := H
    go_enter Tryz.func18, Tryz.ntmps18
    go_wp2_with (first | ((with_reducible refine gate_dst (N := 1) rfl ?_); refine box_event ?hg (N := 1) ?hd (cs := #[.string a0_0, .int .i64 a0_1, .string a0_2]) (t := 44) ?hr ?_; (case hd => rfl); (case hg => rfl); (case hr => exact u0_); intro gb211 hg w14 hbox hb; have BK211 := Aside0.mk (hbox); have GW211 := Aside0.mk ((q11_ : w.heap.size ≤ gb211)); have GE211 := Aside0.mk ((q11_ : w.heap.size ≤ gb211)); replace HB := Aside0.mk (below_step q4_ hb); clear hb hbox hg) | ((with_reducible refine gate_dst (N := 2) rfl ?_); refine box_event ?hg (N := 2) ?hd (cs := #[.int .i64 0, .string (⟨#[]⟩ : ByteArray), .bool false, .string (⟨#[]⟩ : ByteArray), .int .i64 0, .int .i64 0, .int .i64 0, .int .i64 0, .bool false, .bool false, .int .i64 0, .int .i64 0]) (t := 51) ?hr ?_; (case hd => rfl); (case hg => rfl); (case hr => exact u0_); intro gb212 hg w15 hbox hb; have BK212 := Aside0.mk (hbox); have GW212 := Aside0.mk ((q12_ : w.heap.size ≤ gb212)); have GE212 := Aside0.mk ((q12_ : w.heap.size ≤ gb212)); replace HB := Aside0.mk (below_step q3_ hb); have NB211_212 := Aside0.mk ((q6_ : gb211 ≠ gb212)); have NB212_211 := Aside0.mk ((q7_ : gb212 ≠ gb211)); replace BK211 := Aside0.mk (blk_below (g := gb211) (o := .cells #[.string a0_0, .int .i64 a0_1, .string a0_2] 44 (0, 0)) q1_ hb); clear hb hbox hg; have hnb16 := NB211_212.out; have hnc16 := NB212_211.out; obtain ⟨hcz17_0, hcz17_1, hcz17_2, hfz17_0, hfz17_1, hfz17_2⟩ := cellsF3 BK211.out) | ((with_reducible refine gate_callee (f := 31) rfl ?_); refine goesL_ (some 20) rfl rfl Tryz.func31 (by kernel_rfl) rfl #[.string a0_2] rfl q8_ ?_; (with_reducible refine (polyglotlaw02_Parse.calls k a0_2 t225 t226 t227 true _ A11.out).mono ?_); rintro e w18 ⟨rfl, hb⟩; refine ⟨_, rfl, ?_⟩; replace BK211 := Aside0.mk (blk_below (g := gb211) (o := .cells #[.string a0_0, .int .i64 a0_1, .string a0_2] 44 (0, 0)) q1_ hb); replace BK212 := Aside0.mk (blk_below (g := gb212) (o := .cells #[.int .i64 0, .string (⟨#[]⟩ : ByteArray), .bool false, .string (⟨#[]⟩ : ByteArray), .int .i64 0, .int .i64 0, .int .i64 0, .int .i64 0, .bool false, .bool false, .int .i64 0, .int .i64 0] 51 (0, 0)) q5_ hb); replace HB := Aside0.mk (below_step q2_ hb); (try clear hb); (try clear hb2); (try clear hk); (try clear hi)) | ((with_reducible refine gate_dst (N := 4) rfl ?_); refine box_event ?hg (N := 4) ?hd (cs := #[.bool false, .string (⟨#[]⟩ : ByteArray), .int .i64 0]) (t := 46) ?hr ?_; (case hd => rfl); (case hg => rfl); (case hr => exact u0_); intro gb229 hg w19 hbox hb; have BK229 := Aside0.mk (hbox); have GW229 := Aside0.mk (((by rw [hg]; exact (below_size q2_)) : w.heap.size ≤ gb229)); have GE229 := Aside0.mk (((by rw [hg]; exact (below_size q2_)) : w.heap.size ≤ gb229)); replace HB := Aside0.mk (below_step q2_ hb); have NB211_229 := Aside0.mk ((q6_ : gb211 ≠ gb229)); have NB229_211 := Aside0.mk ((q7_ : gb229 ≠ gb211)); replace BK211 := Aside0.mk (blk_below (g := gb211) (o := .cells #[.string a0_0, .int .i64 a0_1, .string a0_2] 44 (0, 0)) q1_ hb); have NB212_229 := Aside0.mk ((q13_ : gb212 ≠ gb229)); have NB229_212 := Aside0.mk ((q14_ : gb229 ≠ gb212)); replace BK212 := Aside0.mk (blk_below (g := gb212) (o := .cells #[.int .i64 0, .string (⟨#[]⟩ : ByteArray), .bool false, .string (⟨#[]⟩ : ByteArray), .int .i64 0, .int .i64 0, .int .i64 0, .int .i64 0, .bool false, .bool false, .int .i64 0, .int .i64 0] 51 (0, 0)) q5_ hb); clear hb hbox hg; have hnb20 := NB229_211.out; have hnc20 := NB211_229.out; have hnb21 := NB229_212.out; have hnc21 := NB212_229.out; obtain ⟨hcz22_0, hcz22_1, hcz22_2, hfz22_0, hfz22_1, hfz22_2⟩ := cellsF3 BK229.out) | ((with_reducible refine gate_callee (f := 28) rfl ?_); refine goesL_ (some 25) rfl rfl Tryz.func28 (by kernel_rfl) rfl #[.agg #[.bool t225, .string t226, .int .i64 t227]] rfl q8_ ?_; (with_reducible refine (value_Num.calls t225 t226 t227 t230 t231 t232 t233 t234 t235 t236 t237 t238 t239 t240 t241 _ A13.out).mono ?_); rintro e w23 ⟨rfl, hb⟩; refine ⟨_, rfl, ?_⟩; replace BK211 := Aside0.mk (blk_below (g := gb211) (o := .cells #[.string a0_0, .int .i64 a0_1, .string a0_2] 44 (0, 0)) (by (with_reducible repeat (first | refine blk_drewN ?_ _ | refine blk_drew ?_ | refine blk_alloc ?_ _)); refine blk_far ?_ NB211_229.out _; (with_reducible repeat (first | refine blk_drewN ?_ _ | refine blk_drew ?_ | refine blk_alloc ?_ _)); refine blk_far ?_ NB211_229.out _; (with_reducible repeat (first | refine blk_drewN ?_ _ | refine blk_drew ?_ | refine blk_alloc ?_ _)); refine blk_far ?_ NB211_229.out _; (with_reducible repeat (first | refine blk_drewN ?_ _ | refine blk_drew ?_ | refine blk_alloc ?_ _)); exact BK211.out) hb); replace BK212 := Aside0.mk (blk_below (g := gb212) (o := .cells #[.int .i64 0, .string (⟨#[]⟩ : ByteArray), .bool false, .string (⟨#[]⟩ : ByteArray), .int .i64 0, .int .i64 0, .int .i64 0, .int .i64 0, .bool false, .bool false, .int .i64 0, .int .i64 0] 51 (0, 0)) (by (with_reducible repeat (first | refine blk_drewN ?_ _ | refine blk_drew ?_ | refine blk_alloc ?_ _)); refine blk_far ?_ NB212_229.out _; (with_reducible repeat (first | refine blk_drewN ?_ _ | refine blk_drew ?_ | refine blk_alloc ?_ _)); refine blk_far ?_ NB212_229.out _; (with_reducible repeat (first | refine blk_drewN ?_ _ | refine blk_drew ?_ | refine blk_alloc ?_ _)); refine blk_far ?_ NB212_229.out _; (with_reducible repeat (first | refine blk_drewN ?_ _ | refine blk_drew ?_ | refine blk_alloc ?_ _)); exact BK212.out) hb); replace BK229 := Aside0.mk (blk_below (g := gb229) (o := .cells #[.bool t225, .string t226, .int .i64 t227] 46 (0, 0)) (by (with_reducible repeat (first | refine blk_drewN ?_ _ | refine blk_drew ?_ | refine blk_alloc ?_ _)); refine blk_put (cs := #[.bool t225, .string t226, .int .i64 0]) ?_ 2 _ rfl; (with_reducible repeat (first | refine blk_drewN ?_ _ | refine blk_drew ?_ | refine blk_alloc ?_ _)); refine blk_put (cs := #[.bool t225, .string (⟨#[]⟩ : ByteArray), .int .i64 0]) ?_ 1 _ rfl; (with_reducible repeat (first | refine blk_drewN ?_ _ | refine blk_drew ?_ | refine blk_alloc ?_ _)); refine blk_put (cs := #[.bool false, .string (⟨#[]⟩ : ByteArray), .int .i64 0]) ?_ 0 _ rfl; (with_reducible repeat (first | refine blk_drewN ?_ _ | refine blk_drew ?_ | refine blk_alloc ?_ _)); exact BK229.out) hb); replace HB := Aside0.mk (below_step q10_ hb); (try clear hb); (try clear hb2); (try clear hk); (try clear hi); obtain ⟨hcz24_0, hcz24_1, hcz24_2, hcz24_3, hcz24_4, hcz24_5, hcz24_6, hcz24_7, hcz24_8, hcz24_9, hcz24_10, hcz24_11, hfz24_0, hfz24_1, hfz24_2, hfz24_3, hfz24_4, hfz24_5, hfz24_6, hfz24_7, hfz24_8, hfz24_9, hfz24_10, hfz24_11⟩ := cellsF12 BK212.out))
    refine bodyPost_ret (results_ct rfl _ _ gb212 51 #[.int .i64 t230, .string t231, .bool t232, .string t233, .int .i64 t234, .int .i64 t235, .int .i64 t236, .int .i64 t237, .bool t238, .bool t239, .int .i64 t240, .int .i64 t241] (0, 0) _ rfl (by (with_reducible repeat (first | refine blk_drewN ?_ _ | refine blk_drew ?_ | refine blk_alloc ?_ _)); refine blk_put (cs := #[.int .i64 t230, .string t231, .bool t232, .string t233, .int .i64 t234, .int .i64 t235, .int .i64 t236, .int .i64 t237, .bool t238, .bool t239, .int .i64 t240, .int .i64 0]) ?_ 11 _ rfl; (with_reducible repeat (first | refine blk_drewN ?_ _ | refine blk_drew ?_ | refine blk_alloc ?_ _)); refine blk_put (cs := #[.int .i64 t230, .string t231, .bool t232, .string t233, .int .i64 t234, .int .i64 t235, .int .i64 t236, .int .i64 t237, .bool t238, .bool t239, .int .i64 0, .int .i64 0]) ?_ 10 _ rfl; (with_reducible repeat (first | refine blk_drewN ?_ _ | refine blk_drew ?_ | refine blk_alloc ?_ _)); refine blk_put (cs := #[.int .i64 t230, .string t231, .bool t232, .string t233, .int .i64 t234, .int .i64 t235, .int .i64 t236, .int .i64 t237, .bool t238, .bool false, .int .i64 0, .int .i64 0]) ?_ 9 _ rfl; (with_reducible repeat (first | refine blk_drewN ?_ _ | refine blk_drew ?_ | refine blk_alloc ?_ _)); refine blk_put (cs := #[.int .i64 t230, .string t231, .bool t232, .string t233, .int .i64 t234, .int .i64 t235, .int .i64 t236, .int .i64 t237, .bool false, .bool false, .int .i64 0, .int .i64 0]) ?_ 8 _ rfl; (with_reducible repeat (first | refine blk_drewN ?_ _ | refine blk_drew ?_ | refine blk_alloc ?_ _)); refine blk_put (cs := #[.int .i64 t230, .string t231, .bool t232, .string t233, .int .i64 t234, .int .i64 t235, .int .i64 t236, .int .i64 0, .bool false, .bool false, .int .i64 0, .int .i64 0]) ?_ 7 _ rfl; (with_reducible repeat (first | refine blk_drewN ?_ _ | refine blk_drew ?_ | refine blk_alloc ?_ _)); refine blk_put (cs := #[.int .i64 t230, .string t231, .bool t232, .string t233, .int .i64 t234, .int .i64 t235, .int .i64 0, .int .i64 0, .bool false, .bool false, .int .i64 0, .int .i64 0]) ?_ 6 _ rfl; (with_reducible repeat (first | refine blk_drewN ?_ _ | refine blk_drew ?_ | refine blk_alloc ?_ _)); refine blk_put (cs := #[.int .i64 t230, .string t231, .bool t232, .string t233, .int .i64 t234, .int .i64 0, .int .i64 0, .int .i64 0, .bool false, .bool false, .int .i64 0, .int .i64 0]) ?_ 5 _ rfl; (with_reducible repeat (first | refine blk_drewN ?_ _ | refine blk_drew ?_ | refine blk_alloc ?_ _)); refine blk_put (cs := #[.int .i64 t230, .string t231, .bool t232, .string t233, .int .i64 0, .int .i64 0, .int .i64 0, .int .i64 0, .bool false, .bool false, .int .i64 0, .int .i64 0]) ?_ 4 _ rfl; (with_reducible repeat (first | refine blk_drewN ?_ _ | refine blk_drew ?_ | refine blk_alloc ?_ _)); refine blk_put (cs := #[.int .i64 t230, .string t231, .bool t232, .string (⟨#[]⟩ : ByteArray), .int .i64 0, .int .i64 0, .int .i64 0, .int .i64 0, .bool false, .bool false, .int .i64 0, .int .i64 0]) ?_ 3 _ rfl; (with_reducible repeat (first | refine blk_drewN ?_ _ | refine blk_drew ?_ | refine blk_alloc ?_ _)); refine blk_put (cs := #[.int .i64 t230, .string t231, .bool false, .string (⟨#[]⟩ : ByteArray), .int .i64 0, .int .i64 0, .int .i64 0, .int .i64 0, .bool false, .bool false, .int .i64 0, .int .i64 0]) ?_ 2 _ rfl; (with_reducible repeat (first | refine blk_drewN ?_ _ | refine blk_drew ?_ | refine blk_alloc ?_ _)); refine blk_put (cs := #[.int .i64 t230, .string (⟨#[]⟩ : ByteArray), .bool false, .string (⟨#[]⟩ : ByteArray), .int .i64 0, .int .i64 0, .int .i64 0, .int .i64 0, .bool false, .bool false, .int .i64 0, .int .i64 0]) ?_ 1 _ rfl; (with_reducible repeat (first | refine blk_drewN ?_ _ | refine blk_drew ?_ | refine blk_alloc ?_ _)); refine blk_put (cs := #[.int .i64 0, .string (⟨#[]⟩ : ByteArray), .bool false, .string (⟨#[]⟩ : ByteArray), .int .i64 0, .int .i64 0, .int .i64 0, .int .i64 0, .bool false, .bool false, .int .i64 0, .int .i64 0]) ?_ 0 _ rfl; (with_reducible repeat (first | refine blk_drewN ?_ _ | refine blk_drew ?_ | refine blk_alloc ?_ _)); exact BK212.out) Tryz.underlying51 rfl (by kernel_rfl)) rfl ?_
    exact ⟨q9_, q10_⟩
   ·replace c12 := Bool.eq_false_iff.mpr c12
    subst c12
    have H1 : (some (0, (⟨#[]⟩ : ByteArray), false, (⟨#[]⟩ : ByteArray), 0, 0, 0, 0, false, false, 0, 0, false)) = some (r1, r2, r3, r4, r5, r6, r7, r8, r9, r10, r11, r12, r13) := by rw [if_neg (show ¬ (false = true) by decide)] at H; exact H
    clear H
    have H := H1
    clear H1
    simp only [Option.some.injEq, Prod.mk.injEq] at H
    obtain ⟨rfl, rfl, rfl, rfl, rfl, rfl, rfl, rfl, rfl, rfl, rfl, rfl, rfl⟩ := H
    go_enter Tryz.func18, Tryz.ntmps18
    go_wp2_with (first | ((with_reducible refine gate_dst (N := 1) rfl ?_); refine box_event ?hg (N := 1) ?hd (cs := #[.string a0_0, .int .i64 a0_1, .string a0_2]) (t := 44) ?hr ?_; (case hd => rfl); (case hg => rfl); (case hr => exact u0_); intro gb211 hg w25 hbox hb; have BK211 := Aside0.mk (hbox); have GW211 := Aside0.mk ((q11_ : w.heap.size ≤ gb211)); have GE211 := Aside0.mk ((q11_ : w.heap.size ≤ gb211)); replace HB := Aside0.mk (below_step q4_ hb); clear hb hbox hg) | ((with_reducible refine gate_dst (N := 2) rfl ?_); refine box_event ?hg (N := 2) ?hd (cs := #[.int .i64 0, .string (⟨#[]⟩ : ByteArray), .bool false, .string (⟨#[]⟩ : ByteArray), .int .i64 0, .int .i64 0, .int .i64 0, .int .i64 0, .bool false, .bool false, .int .i64 0, .int .i64 0]) (t := 51) ?hr ?_; (case hd => rfl); (case hg => rfl); (case hr => exact u0_); intro gb212 hg w26 hbox hb; have BK212 := Aside0.mk (hbox); have GW212 := Aside0.mk ((q12_ : w.heap.size ≤ gb212)); have GE212 := Aside0.mk ((q12_ : w.heap.size ≤ gb212)); replace HB := Aside0.mk (below_step q3_ hb); have NB211_212 := Aside0.mk ((q6_ : gb211 ≠ gb212)); have NB212_211 := Aside0.mk ((q7_ : gb212 ≠ gb211)); replace BK211 := Aside0.mk (blk_below (g := gb211) (o := .cells #[.string a0_0, .int .i64 a0_1, .string a0_2] 44 (0, 0)) q1_ hb); clear hb hbox hg; have hnb27 := NB211_212.out; have hnc27 := NB212_211.out; obtain ⟨hcz28_0, hcz28_1, hcz28_2, hfz28_0, hfz28_1, hfz28_2⟩ := cellsF3 BK211.out) | ((with_reducible refine gate_callee (f := 31) rfl ?_); refine goesL_ (some 20) rfl rfl Tryz.func31 (by kernel_rfl) rfl #[.string a0_2] rfl q8_ ?_; (with_reducible refine (polyglotlaw02_Parse.calls k a0_2 t225 t226 t227 false _ A11.out).mono ?_); rintro e w29 ⟨rfl, hb⟩; refine ⟨_, rfl, ?_⟩; replace BK211 := Aside0.mk (blk_below (g := gb211) (o := .cells #[.string a0_0, .int .i64 a0_1, .string a0_2] 44 (0, 0)) q1_ hb); replace BK212 := Aside0.mk (blk_below (g := gb212) (o := .cells #[.int .i64 0, .string (⟨#[]⟩ : ByteArray), .bool false, .string (⟨#[]⟩ : ByteArray), .int .i64 0, .int .i64 0, .int .i64 0, .int .i64 0, .bool false, .bool false, .int .i64 0, .int .i64 0] 51 (0, 0)) q5_ hb); replace HB := Aside0.mk (below_step q2_ hb); (try clear hb); (try clear hb2); (try clear hk); (try clear hi)) | ((with_reducible refine gate_dst (N := 4) rfl ?_); refine box_event ?hg (N := 4) ?hd (cs := #[.bool false, .string (⟨#[]⟩ : ByteArray), .int .i64 0]) (t := 46) ?hr ?_; (case hd => rfl); (case hg => rfl); (case hr => exact u0_); intro gb229 hg w30 hbox hb; have BK229 := Aside0.mk (hbox); have GW229 := Aside0.mk (((by rw [hg]; exact (below_size q2_)) : w.heap.size ≤ gb229)); have GE229 := Aside0.mk (((by rw [hg]; exact (below_size q2_)) : w.heap.size ≤ gb229)); replace HB := Aside0.mk (below_step q2_ hb); have NB211_229 := Aside0.mk ((q6_ : gb211 ≠ gb229)); have NB229_211 := Aside0.mk ((q7_ : gb229 ≠ gb211)); replace BK211 := Aside0.mk (blk_below (g := gb211) (o := .cells #[.string a0_0, .int .i64 a0_1, .string a0_2] 44 (0, 0)) q1_ hb); have NB212_229 := Aside0.mk ((q13_ : gb212 ≠ gb229)); have NB229_212 := Aside0.mk ((q14_ : gb229 ≠ gb212)); replace BK212 := Aside0.mk (blk_below (g := gb212) (o := .cells #[.int .i64 0, .string (⟨#[]⟩ : ByteArray), .bool false, .string (⟨#[]⟩ : ByteArray), .int .i64 0, .int .i64 0, .int .i64 0, .int .i64 0, .bool false, .bool false, .int .i64 0, .int .i64 0] 51 (0, 0)) q5_ hb); clear hb hbox hg; have hnb31 := NB229_211.out; have hnc31 := NB211_229.out; have hnb32 := NB229_212.out; have hnc32 := NB212_229.out; obtain ⟨hcz33_0, hcz33_1, hcz33_2, hfz33_0, hfz33_1, hfz33_2⟩ := cellsF3 BK229.out; obtain ⟨hcz34_0, hcz34_1, hcz34_2, hcz34_3, hcz34_4, hcz34_5, hcz34_6, hcz34_7, hcz34_8, hcz34_9, hcz34_10, hcz34_11, hfz34_0, hfz34_1, hfz34_2, hfz34_3, hfz34_4, hfz34_5, hfz34_6, hfz34_7, hfz34_8, hfz34_9, hfz34_10, hfz34_11⟩ := cellsF12 BK212.out))
    refine bodyPost_ret (results_ct rfl _ _ gb212 51 #[.int .i64 0, .string (⟨#[]⟩ : ByteArray), .bool false, .string (⟨#[]⟩ : ByteArray), .int .i64 0, .int .i64 0, .int .i64 0, .int .i64 0, .bool false, .bool false, .int .i64 0, .int .i64 0] (0, 0) _ rfl (by (with_reducible repeat (first | refine blk_drewN ?_ _ | refine blk_drew ?_ | refine blk_alloc ?_ _)); refine blk_put (cs := #[.int .i64 0, .string (⟨#[]⟩ : ByteArray), .bool false, .string (⟨#[]⟩ : ByteArray), .int .i64 0, .int .i64 0, .int .i64 0, .int .i64 0, .bool false, .bool false, .int .i64 0, .int .i64 0]) ?_ 11 _ rfl; (with_reducible repeat (first | refine blk_drewN ?_ _ | refine blk_drew ?_ | refine blk_alloc ?_ _)); refine blk_put (cs := #[.int .i64 0, .string (⟨#[]⟩ : ByteArray), .bool false, .string (⟨#[]⟩ : ByteArray), .int .i64 0, .int .i64 0, .int .i64 0, .int .i64 0, .bool false, .bool false, .int .i64 0, .int .i64 0]) ?_ 10 _ rfl; (with_reducible repeat (first | refine blk_drewN ?_ _ | refine blk_drew ?_ | refine blk_alloc ?_ _)); refine blk_put (cs := #[.int .i64 0, .string (⟨#[]⟩ : ByteArray), .bool false, .string (⟨#[]⟩ : ByteArray), .int .i64 0, .int .i64 0, .int .i64 0, .int .i64 0, .bool false, .bool false, .int .i64 0, .int .i64 0]) ?_ 9 _ rfl; (with_reducible repeat (first | refine blk_drewN ?_ _ | refine blk_drew ?_ | refine blk_alloc ?_ _)); refine blk_put (cs := #[.int .i64 0, .string (⟨#[]⟩ : ByteArray), .bool false, .string (⟨#[]⟩ : ByteArray), .int .i64 0, .int .i64 0, .int .i64 0, .int .i64 0, .bool false, .bool false, .int .i64 0, .int .i64 0]) ?_ 8 _ rfl; (with_reducible repeat (first | refine blk_drewN ?_ _ | refine blk_drew ?_ | refine blk_alloc ?_ _)); refine blk_put (cs := #[.int .i64 0, .string (⟨#[]⟩ : ByteArray), .bool false, .string (⟨#[]⟩ : ByteArray), .int .i64 0, .int .i64 0, .int .i64 0, .int .i64 0, .bool false, .bool false, .int .i64 0, .int .i64 0]) ?_ 7 _ rfl; (with_reducible repeat (first | refine blk_drewN ?_ _ | refine blk_drew ?_ | refine blk_alloc ?_ _)); refine blk_put (cs := #[.int .i64 0, .string (⟨#[]⟩ : ByteArray), .bool false, .string (⟨#[]⟩ : ByteArray), .int .i64 0, .int .i64 0, .int .i64 0, .int .i64 0, .bool false, .bool false, .int .i64 0, .int .i64 0]) ?_ 6 _ rfl; (with_reducible repeat (first | refine blk_drewN ?_ _ | refine blk_drew ?_ | refine blk_alloc ?_ _)); refine blk_put (cs := #[.int .i64 0, .string (⟨#[]⟩ : ByteArray), .bool false, .string (⟨#[]⟩ : ByteArray), .int .i64 0, .int .i64 0, .int .i64 0, .int .i64 0, .bool false, .bool false, .int .i64 0, .int .i64 0]) ?_ 5 _ rfl; (with_reducible repeat (first | refine blk_drewN ?_ _ | refine blk_drew ?_ | refine blk_alloc ?_ _)); refine blk_put (cs := #[.int .i64 0, .string (⟨#[]⟩ : ByteArray), .bool false, .string (⟨#[]⟩ : ByteArray), .int .i64 0, .int .i64 0, .int .i64 0, .int .i64 0, .bool false, .bool false, .int .i64 0, .int .i64 0]) ?_ 4 _ rfl; (with_reducible repeat (first | refine blk_drewN ?_ _ | refine blk_drew ?_ | refine blk_alloc ?_ _)); refine blk_put (cs := #[.int .i64 0, .string (⟨#[]⟩ : ByteArray), .bool false, .string (⟨#[]⟩ : ByteArray), .int .i64 0, .int .i64 0, .int .i64 0, .int .i64 0, .bool false, .bool false, .int .i64 0, .int .i64 0]) ?_ 3 _ rfl; (with_reducible repeat (first | refine blk_drewN ?_ _ | refine blk_drew ?_ | refine blk_alloc ?_ _)); refine blk_put (cs := #[.int .i64 0, .string (⟨#[]⟩ : ByteArray), .bool false, .string (⟨#[]⟩ : ByteArray), .int .i64 0, .int .i64 0, .int .i64 0, .int .i64 0, .bool false, .bool false, .int .i64 0, .int .i64 0]) ?_ 2 _ rfl; (with_reducible repeat (first | refine blk_drewN ?_ _ | refine blk_drew ?_ | refine blk_alloc ?_ _)); refine blk_put (cs := #[.int .i64 0, .string (⟨#[]⟩ : ByteArray), .bool false, .string (⟨#[]⟩ : ByteArray), .int .i64 0, .int .i64 0, .int .i64 0, .int .i64 0, .bool false, .bool false, .int .i64 0, .int .i64 0]) ?_ 1 _ rfl; (with_reducible repeat (first | refine blk_drewN ?_ _ | refine blk_drew ?_ | refine blk_alloc ?_ _)); refine blk_put (cs := #[.int .i64 0, .string (⟨#[]⟩ : ByteArray), .bool false, .string (⟨#[]⟩ : ByteArray), .int .i64 0, .int .i64 0, .int .i64 0, .int .i64 0, .bool false, .bool false, .int .i64 0, .int .i64 0]) ?_ 0 _ rfl; (with_reducible repeat (first | refine blk_drewN ?_ _ | refine blk_drew ?_ | refine blk_alloc ?_ _)); refine blk_far ?_ NB212_229.out _; (with_reducible repeat (first | refine blk_drewN ?_ _ | refine blk_drew ?_ | refine blk_alloc ?_ _)); refine blk_far ?_ NB212_229.out _; (with_reducible repeat (first | refine blk_drewN ?_ _ | refine blk_drew ?_ | refine blk_alloc ?_ _)); refine blk_far ?_ NB212_229.out _; (with_reducible repeat (first | refine blk_drewN ?_ _ | refine blk_drew ?_ | refine blk_alloc ?_ _)); exact BK212.out) Tryz.underlying51 rfl (by kernel_rfl)) rfl ?_
    exact ⟨q9_, q10_⟩
  ·rw [if_neg c10] at H
   have c10b0 : (a0_1 == 1) = false := beq_eq_false_iff_ne.mpr c10
   have c10b1 : (a0_1 != 1) = true := bne_iff_ne.mpr c10
   by_cases c35 : a0_1 = 2
   ·rw [if_pos c35] at H
    have c35b0 : (a0_1 == 2) = true := beq_iff_eq.mpr c35
    have c35b1 : (a0_1 != 2) = false := bne_eq_false_iff_eq.mpr c35
    clear c35
    replace H := Option.bind_eq_some_iff.mp H
    obtain ⟨⟨t242, t243⟩, A360, H⟩ := H
    replace H : (if t243 = true then ((value_At.f t242).bind fun bt244 => (some (bt244.1, bt244.2.1, bt244.2.2.1, bt244.2.2.2.1, bt244.2.2.2.2.1, bt244.2.2.2.2.2.1, bt244.2.2.2.2.2.2.1, bt244.2.2.2.2.2.2.2.1, bt244.2.2.2.2.2.2.2.2.1, bt244.2.2.2.2.2.2.2.2.2.1, bt244.2.2.2.2.2.2.2.2.2.2.1, bt244.2.2.2.2.2.2.2.2.2.2.2, true))) else (some (0, (⟨#[]⟩ : ByteArray), false, (⟨#[]⟩ : ByteArray), 0, 0, 0, 0, false, false, 0, 0, false))) = some (r1, r2, r3, r4, r5, r6, r7, r8, r9, r10, r11, r12, r13) := H
    have A36 := Aside0.mk A360
    clear A360
    by_cases c37 : t243 = true
    ·subst c37
     have H1 : ((value_At.f t242).bind fun bt244 => (some (bt244.1, bt244.2.1, bt244.2.2.1, bt244.2.2.2.1, bt244.2.2.2.2.1, bt244.2.2.2.2.2.1, bt244.2.2.2.2.2.2.1, bt244.2.2.2.2.2.2.2.1, bt244.2.2.2.2.2.2.2.2.1, bt244.2.2.2.2.2.2.2.2.2.1, bt244.2.2.2.2.2.2.2.2.2.2.1, bt244.2.2.2.2.2.2.2.2.2.2.2, true))) = some (r1, r2, r3, r4, r5, r6, r7, r8, r9, r10, r11, r12, r13) := by rw [if_pos rfl] at H; exact H
     clear H
     have H := H1
     clear H1
     replace H := Option.bind_eq_some_iff.mp H
     obtain ⟨⟨t244, t245, t246, t247, t248, t249, t250, t251, t252, t253, t254, t255⟩, A380, H⟩ := H
     replace H : (some (t244, t245, t246, t247, t248, t249, t250, t251, t252, t253, t254, t255, true)) = some (r1, r2, r3, r4, r5, r6, r7, r8, r9, r10, r11, r12, r13) := H
     have A38 := Aside0.mk A380
     clear A380
     simp only [Option.some.injEq, Prod.mk.injEq] at H
     obtain ⟨rfl, rfl, rfl, rfl, rfl, rfl, rfl, rfl, rfl, rfl, rfl, rfl, rfl⟩ := H
     go_enter Tryz.func18, Tryz.ntmps18
     go_wp2_with (first | ((with_reducible refine gate_dst (N := 1) rfl ?_); refine box_event ?hg (N := 1) ?hd (cs := #[.string a0_0, .int .i64 a0_1, .string a0_2]) (t := 44) ?hr ?_; (case hd => rfl); (case hg => rfl); (case hr => exact u0_); intro gb211 hg w39 hbox hb; have BK211 := Aside0.mk (hbox); have GW211 := Aside0.mk ((q11_ : w.heap.size ≤ gb211)); have GE211 := Aside0.mk ((q11_ : w.heap.size ≤ gb211)); replace HB := Aside0.mk (below_step q4_ hb); clear hb hbox hg) | ((with_reducible refine gate_dst (N := 2) rfl ?_); refine box_event ?hg (N := 2) ?hd (cs := #[.int .i64 0, .string (⟨#[]⟩ : ByteArray), .bool false, .string (⟨#[]⟩ : ByteArray), .int .i64 0, .int .i64 0, .int .i64 0, .int .i64 0, .bool false, .bool false, .int .i64 0, .int .i64 0]) (t := 51) ?hr ?_; (case hd => rfl); (case hg => rfl); (case hr => exact u0_); intro gb212 hg w40 hbox hb; have BK212 := Aside0.mk (hbox); have GW212 := Aside0.mk ((q12_ : w.heap.size ≤ gb212)); have GE212 := Aside0.mk ((q12_ : w.heap.size ≤ gb212)); replace HB := Aside0.mk (below_step q3_ hb); have NB211_212 := Aside0.mk ((q6_ : gb211 ≠ gb212)); have NB212_211 := Aside0.mk ((q7_ : gb212 ≠ gb211)); replace BK211 := Aside0.mk (blk_below (g := gb211) (o := .cells #[.string a0_0, .int .i64 a0_1, .string a0_2] 44 (0, 0)) q1_ hb); clear hb hbox hg; have hnb41 := NB211_212.out; have hnc41 := NB212_211.out; obtain ⟨hcz42_0, hcz42_1, hcz42_2, hfz42_0, hfz42_1, hfz42_2⟩ := cellsF3 BK211.out) | ((with_reducible refine gate_callee (f := 32) rfl ?_); refine goesL_ (some 31) rfl rfl Tryz.func32 (by kernel_rfl) rfl #[.string a0_2] rfl q8_ ?_; (with_reducible refine (polyglotlaw18_moment.calls k a0_2 t242 true _ A36.out).mono ?_); rintro e w' ⟨rfl, ⟨nd, rfl⟩⟩; refine ⟨_, rfl, ?_⟩; (try (rw [drewN_self w40]; generalize hq_ : World.drewN w40 _ = w40; have n0_ : Aside0 (w40.heap[gb211]? = some (.cells #[.string a0_0, .int .i64 a0_1, .string a0_2] 44 (0, 0))) := ⟨(by rw [← hq_]; exact q1_)⟩; have n1_ : Aside0 (w40.heap[gb212]? = some (.cells #[.int .i64 0, .string (⟨#[]⟩ : ByteArray), .bool false, .string (⟨#[]⟩ : ByteArray), .int .i64 0, .int .i64 0, .int .i64 0, .int .i64 0, .bool false, .bool false, .int .i64 0, .int .i64 0] 51 (0, 0))) := ⟨(by rw [← hq_]; exact q5_)⟩; have n2_ : Aside0 (Below w.heap.size w w40) := ⟨(by rw [← hq_]; exact q2_)⟩; clear BK211 BK212 HB hq_; have BK211 := n0_; have BK212 := n1_; have HB := n2_; clear n0_ n1_ n2_))) | ((with_reducible refine gate_callee (f := 30) rfl ?_); refine goesL_ (some 36) rfl rfl Tryz.func30 (by kernel_rfl) rfl #[.int .i64 t242] rfl q8_ ?_; (with_reducible refine (value_At.calls t242 t244 t245 t246 t247 t248 t249 t250 t251 t252 t253 t254 t255 _ A38.out).mono ?_); rintro e w43 ⟨rfl, hb⟩; refine ⟨_, rfl, ?_⟩; replace BK211 := Aside0.mk (blk_below (g := gb211) (o := .cells #[.string a0_0, .int .i64 a0_1, .string a0_2] 44 (0, 0)) q1_ hb); replace BK212 := Aside0.mk (blk_below (g := gb212) (o := .cells #[.int .i64 0, .string (⟨#[]⟩ : ByteArray), .bool false, .string (⟨#[]⟩ : ByteArray), .int .i64 0, .int .i64 0, .int .i64 0, .int .i64 0, .bool false, .bool false, .int .i64 0, .int .i64 0] 51 (0, 0)) q5_ hb); replace HB := Aside0.mk (below_step q2_ hb); (try clear hb); (try clear hb2); (try clear hk); (try clear hi); obtain ⟨hcz44_0, hcz44_1, hcz44_2, hcz44_3, hcz44_4, hcz44_5, hcz44_6, hcz44_7, hcz44_8, hcz44_9, hcz44_10, hcz44_11, hfz44_0, hfz44_1, hfz44_2, hfz44_3, hfz44_4, hfz44_5, hfz44_6, hfz44_7, hfz44_8, hfz44_9, hfz44_10, hfz44_11⟩ := cellsF12 BK212.out))
     refine bodyPost_ret (results_ct rfl _ _ gb212 51 #[.int .i64 t244, .string t245, .bool t246, .string t247, .int .i64 t248, .int .i64 t249, .int .i64 t250, .int .i64 t251, .bool t252, .bool t253, .int .i64 t254, .int .i64 t255] (0, 0) _ rfl (by (with_reducible repeat (first | refine blk_drewN ?_ _ | refine blk_drew ?_ | refine blk_alloc ?_ _)); refine blk_put (cs := #[.int .i64 t244, .string t245, .bool t246, .string t247, .int .i64 t248, .int .i64 t249, .int .i64 t250, .int .i64 t251, .bool t252, .bool t253, .int .i64 t254, .int .i64 0]) ?_ 11 _ rfl; (with_reducible repeat (first | refine blk_drewN ?_ _ | refine blk_drew ?_ | refine blk_alloc ?_ _)); refine blk_put (cs := #[.int .i64 t244, .string t245, .bool t246, .string t247, .int .i64 t248, .int .i64 t249, .int .i64 t250, .int .i64 t251, .bool t252, .bool t253, .int .i64 0, .int .i64 0]) ?_ 10 _ rfl; (with_reducible repeat (first | refine blk_drewN ?_ _ | refine blk_drew ?_ | refine blk_alloc ?_ _)); refine blk_put (cs := #[.int .i64 t244, .string t245, .bool t246, .string t247, .int .i64 t248, .int .i64 t249, .int .i64 t250, .int .i64 t251, .bool t252, .bool false, .int .i64 0, .int .i64 0]) ?_ 9 _ rfl; (with_reducible repeat (first | refine blk_drewN ?_ _ | refine blk_drew ?_ | refine blk_alloc ?_ _)); refine blk_put (cs := #[.int .i64 t244, .string t245, .bool t246, .string t247, .int .i64 t248, .int .i64 t249, .int .i64 t250, .int .i64 t251, .bool false, .bool false, .int .i64 0, .int .i64 0]) ?_ 8 _ rfl; (with_reducible repeat (first | refine blk_drewN ?_ _ | refine blk_drew ?_ | refine blk_alloc ?_ _)); refine blk_put (cs := #[.int .i64 t244, .string t245, .bool t246, .string t247, .int .i64 t248, .int .i64 t249, .int .i64 t250, .int .i64 0, .bool false, .bool false, .int .i64 0, .int .i64 0]) ?_ 7 _ rfl; (with_reducible repeat (first | refine blk_drewN ?_ _ | refine blk_drew ?_ | refine blk_alloc ?_ _)); refine blk_put (cs := #[.int .i64 t244, .string t245, .bool t246, .string t247, .int .i64 t248, .int .i64 t249, .int .i64 0, .int .i64 0, .bool false, .bool false, .int .i64 0, .int .i64 0]) ?_ 6 _ rfl; (with_reducible repeat (first | refine blk_drewN ?_ _ | refine blk_drew ?_ | refine blk_alloc ?_ _)); refine blk_put (cs := #[.int .i64 t244, .string t245, .bool t246, .string t247, .int .i64 t248, .int .i64 0, .int .i64 0, .int .i64 0, .bool false, .bool false, .int .i64 0, .int .i64 0]) ?_ 5 _ rfl; (with_reducible repeat (first | refine blk_drewN ?_ _ | refine blk_drew ?_ | refine blk_alloc ?_ _)); refine blk_put (cs := #[.int .i64 t244, .string t245, .bool t246, .string t247, .int .i64 0, .int .i64 0, .int .i64 0, .int .i64 0, .bool false, .bool false, .int .i64 0, .int .i64 0]) ?_ 4 _ rfl; (with_reducible repeat (first | refine blk_drewN ?_ _ | refine blk_drew ?_ | refine blk_alloc ?_ _)); refine blk_put (cs := #[.int .i64 t244, .string t245, .bool t246, .string (⟨#[]⟩ : ByteArray), .int .i64 0, .int .i64 0, .int .i64 0, .int .i64 0, .bool false, .bool false, .int .i64 0, .int .i64 0]) ?_ 3 _ rfl; (with_reducible repeat (first | refine blk_drewN ?_ _ | refine blk_drew ?_ | refine blk_alloc ?_ _)); refine blk_put (cs := #[.int .i64 t244, .string t245, .bool false, .string (⟨#[]⟩ : ByteArray), .int .i64 0, .int .i64 0, .int .i64 0, .int .i64 0, .bool false, .bool false, .int .i64 0, .int .i64 0]) ?_ 2 _ rfl; (with_reducible repeat (first | refine blk_drewN ?_ _ | refine blk_drew ?_ | refine blk_alloc ?_ _)); refine blk_put (cs := #[.int .i64 t244, .string (⟨#[]⟩ : ByteArray), .bool false, .string (⟨#[]⟩ : ByteArray), .int .i64 0, .int .i64 0, .int .i64 0, .int .i64 0, .bool false, .bool false, .int .i64 0, .int .i64 0]) ?_ 1 _ rfl; (with_reducible repeat (first | refine blk_drewN ?_ _ | refine blk_drew ?_ | refine blk_alloc ?_ _)); refine blk_put (cs := #[.int .i64 0, .string (⟨#[]⟩ : ByteArray), .bool false, .string (⟨#[]⟩ : ByteArray), .int .i64 0, .int .i64 0, .int .i64 0, .int .i64 0, .bool false, .bool false, .int .i64 0, .int .i64 0]) ?_ 0 _ rfl; (with_reducible repeat (first | refine blk_drewN ?_ _ | refine blk_drew ?_ | refine blk_alloc ?_ _)); exact BK212.out) Tryz.underlying51 rfl (by kernel_rfl)) rfl ?_
     exact ⟨q9_, q2_⟩
    ·replace c37 := Bool.eq_false_iff.mpr c37
     subst c37
     have H1 : (some (0, (⟨#[]⟩ : ByteArray), false, (⟨#[]⟩ : ByteArray), 0, 0, 0, 0, false, false, 0, 0, false)) = some (r1, r2, r3, r4, r5, r6, r7, r8, r9, r10, r11, r12, r13) := by rw [if_neg (show ¬ (false = true) by decide)] at H; exact H
     clear H
     have H := H1
     clear H1
     simp only [Option.some.injEq, Prod.mk.injEq] at H
     obtain ⟨rfl, rfl, rfl, rfl, rfl, rfl, rfl, rfl, rfl, rfl, rfl, rfl, rfl⟩ := H
     go_enter Tryz.func18, Tryz.ntmps18
     go_wp2_with (first | ((with_reducible refine gate_dst (N := 1) rfl ?_); refine box_event ?hg (N := 1) ?hd (cs := #[.string a0_0, .int .i64 a0_1, .string a0_2]) (t := 44) ?hr ?_; (case hd => rfl); (case hg => rfl); (case hr => exact u0_); intro gb211 hg w45 hbox hb; have BK211 := Aside0.mk (hbox); have GW211 := Aside0.mk ((q11_ : w.heap.size ≤ gb211)); have GE211 := Aside0.mk ((q11_ : w.heap.size ≤ gb211)); replace HB := Aside0.mk (below_step q4_ hb); clear hb hbox hg) | ((with_reducible refine gate_dst (N := 2) rfl ?_); refine box_event ?hg (N := 2) ?hd (cs := #[.int .i64 0, .string (⟨#[]⟩ : ByteArray), .bool false, .string (⟨#[]⟩ : ByteArray), .int .i64 0, .int .i64 0, .int .i64 0, .int .i64 0, .bool false, .bool false, .int .i64 0, .int .i64 0]) (t := 51) ?hr ?_; (case hd => rfl); (case hg => rfl); (case hr => exact u0_); intro gb212 hg w46 hbox hb; have BK212 := Aside0.mk (hbox); have GW212 := Aside0.mk ((q12_ : w.heap.size ≤ gb212)); have GE212 := Aside0.mk ((q12_ : w.heap.size ≤ gb212)); replace HB := Aside0.mk (below_step q3_ hb); have NB211_212 := Aside0.mk ((q6_ : gb211 ≠ gb212)); have NB212_211 := Aside0.mk ((q7_ : gb212 ≠ gb211)); replace BK211 := Aside0.mk (blk_below (g := gb211) (o := .cells #[.string a0_0, .int .i64 a0_1, .string a0_2] 44 (0, 0)) q1_ hb); clear hb hbox hg; have hnb47 := NB211_212.out; have hnc47 := NB212_211.out; obtain ⟨hcz48_0, hcz48_1, hcz48_2, hfz48_0, hfz48_1, hfz48_2⟩ := cellsF3 BK211.out) | ((with_reducible refine gate_callee (f := 32) rfl ?_); refine goesL_ (some 31) rfl rfl Tryz.func32 (by kernel_rfl) rfl #[.string a0_2] rfl q8_ ?_; (with_reducible refine (polyglotlaw18_moment.calls k a0_2 t242 false _ A36.out).mono ?_); rintro e w' ⟨rfl, ⟨nd, rfl⟩⟩; refine ⟨_, rfl, ?_⟩; (try (rw [drewN_self w46]; generalize hq_ : World.drewN w46 _ = w46; have n0_ : Aside0 (w46.heap[gb211]? = some (.cells #[.string a0_0, .int .i64 a0_1, .string a0_2] 44 (0, 0))) := ⟨(by rw [← hq_]; exact q1_)⟩; have n1_ : Aside0 (w46.heap[gb212]? = some (.cells #[.int .i64 0, .string (⟨#[]⟩ : ByteArray), .bool false, .string (⟨#[]⟩ : ByteArray), .int .i64 0, .int .i64 0, .int .i64 0, .int .i64 0, .bool false, .bool false, .int .i64 0, .int .i64 0] 51 (0, 0))) := ⟨(by rw [← hq_]; exact q5_)⟩; have n2_ : Aside0 (Below w.heap.size w w46) := ⟨(by rw [← hq_]; exact q2_)⟩; clear BK211 BK212 HB hq_; have BK211 := n0_; have BK212 := n1_; have HB := n2_; clear n0_ n1_ n2_)); obtain ⟨hcz49_0, hcz49_1, hcz49_2, hcz49_3, hcz49_4, hcz49_5, hcz49_6, hcz49_7, hcz49_8, hcz49_9, hcz49_10, hcz49_11, hfz49_0, hfz49_1, hfz49_2, hfz49_3, hfz49_4, hfz49_5, hfz49_6, hfz49_7, hfz49_8, hfz49_9, hfz49_10, hfz49_11⟩ := cellsF12 BK212.out))
     refine bodyPost_ret (results_ct rfl _ _ gb212 51 #[.int .i64 0, .string (⟨#[]⟩ : ByteArray), .bool false, .string (⟨#[]⟩ : ByteArray), .int .i64 0, .int .i64 0, .int .i64 0, .int .i64 0, .bool false, .bool false, .int .i64 0, .int .i64 0] (0, 0) _ rfl q0_ Tryz.underlying51 rfl (by kernel_rfl)) rfl ?_
     exact ⟨q9_, q2_⟩
   ·rw [if_neg c35] at H
    have c35b0 : (a0_1 == 2) = false := beq_eq_false_iff_ne.mpr c35
    have c35b1 : (a0_1 != 2) = true := bne_iff_ne.mpr c35
    simp only [Option.some.injEq, Prod.mk.injEq] at H
    obtain ⟨rfl, rfl, rfl, rfl, rfl, rfl, rfl, rfl, rfl, rfl, rfl, rfl, rfl⟩ := H
    go_enter Tryz.func18, Tryz.ntmps18
    go_wp2_with (first | ((with_reducible refine gate_dst (N := 1) rfl ?_); refine box_event ?hg (N := 1) ?hd (cs := #[.string a0_0, .int .i64 a0_1, .string a0_2]) (t := 44) ?hr ?_; (case hd => rfl); (case hg => rfl); (case hr => exact u0_); intro gb211 hg w50 hbox hb; have BK211 := Aside0.mk (hbox); have GW211 := Aside0.mk ((q11_ : w.heap.size ≤ gb211)); have GE211 := Aside0.mk ((q11_ : w.heap.size ≤ gb211)); replace HB := Aside0.mk (below_step q4_ hb); clear hb hbox hg) | ((with_reducible refine gate_dst (N := 2) rfl ?_); refine box_event ?hg (N := 2) ?hd (cs := #[.int .i64 0, .string (⟨#[]⟩ : ByteArray), .bool false, .string (⟨#[]⟩ : ByteArray), .int .i64 0, .int .i64 0, .int .i64 0, .int .i64 0, .bool false, .bool false, .int .i64 0, .int .i64 0]) (t := 51) ?hr ?_; (case hd => rfl); (case hg => rfl); (case hr => exact u0_); intro gb212 hg w51 hbox hb; have BK212 := Aside0.mk (hbox); have GW212 := Aside0.mk ((q12_ : w.heap.size ≤ gb212)); have GE212 := Aside0.mk ((q12_ : w.heap.size ≤ gb212)); replace HB := Aside0.mk (below_step q3_ hb); have NB211_212 := Aside0.mk ((q6_ : gb211 ≠ gb212)); have NB212_211 := Aside0.mk ((q7_ : gb212 ≠ gb211)); replace BK211 := Aside0.mk (blk_below (g := gb211) (o := .cells #[.string a0_0, .int .i64 a0_1, .string a0_2] 44 (0, 0)) q1_ hb); clear hb hbox hg; have hnb52 := NB211_212.out; have hnc52 := NB212_211.out; obtain ⟨hcz53_0, hcz53_1, hcz53_2, hfz53_0, hfz53_1, hfz53_2⟩ := cellsF3 BK211.out; obtain ⟨hcz54_0, hcz54_1, hcz54_2, hcz54_3, hcz54_4, hcz54_5, hcz54_6, hcz54_7, hcz54_8, hcz54_9, hcz54_10, hcz54_11, hfz54_0, hfz54_1, hfz54_2, hfz54_3, hfz54_4, hfz54_5, hfz54_6, hfz54_7, hfz54_8, hfz54_9, hfz54_10, hfz54_11⟩ := cellsF12 BK212.out))
    refine bodyPost_ret (results_ct rfl _ _ gb212 51 #[.int .i64 0, .string (⟨#[]⟩ : ByteArray), .bool false, .string (⟨#[]⟩ : ByteArray), .int .i64 0, .int .i64 0, .int .i64 0, .int .i64 0, .bool false, .bool false, .int .i64 0, .int .i64 0] (0, 0) _ rfl q0_ Tryz.underlying51 rfl (by kernel_rfl)) rfl ?_
    exact ⟨q9_, q2_⟩
end Go.Proofs.YtdhpcofnddkcaaaGreatDoor.S
namespace Go.Proofs.YtdhpcofnddkcaaaGreatDoor.S
open Go.RowKit Go.Proofs.YtdhpcofnddkcaaaGreatDoor.G Go.Proofs.YtdhpcofnddkcaaaGreatDoorW.PrintWords Go.Proofs.YtdhpcofnddkcaaaGreatDoorW.PrintLast Go.Proofs.YtdhpcofnddkcaaaGreatDoorW.PrintMore
set_option linter.unusedVariables false
set_option linter.unusedSimpArgs false
theorem up {α : Type} {g : Nat → Option α} (hm : ∀ k, LeO (g k) (g (k + 1))) {r : α} : ∀ {k m : Nat}, k ≤ m → g k = some r → g m = some r := by
  intro k m hkm h
  induction m with
  | zero =>
    obtain rfl : k = 0 := by omega
    exact h
  | succ m ih =>
    rcases Nat.lt_or_eq_of_le hkm with h1 | rfl
    · exact hm m r (ih (by omega))
    · exact h
theorem pow16 : ∀ (D : List UInt8), (∀ c ∈ D, isDig c = true) → Net.vl D < 10 ^ D.length := by
  intro D
  generalize hn : D.length = n
  induction n generalizing D with
  | zero =>
    intro _
    have : D = [] := List.eq_nil_of_length_eq_zero hn
    subst this
    decide
  | succ n ih =>
    intro hd
    have hne : D ≠ [] := by intro h; rw [h] at hn; simp at hn
    obtain ⟨E, c, rfl⟩ := Net.snoc_ex hne
    have h1 := ih E (by simp at hn; omega) (fun c hc => hd c (by simp [hc]))
    have hc : isDig c = true := hd c (by simp)
    have hc2 : 48 ≤ c.toNat ∧ c.toNat ≤ 57 := by simpa [isDig] using hc
    rw [Net.vl_snoc, Nat.pow_succ]
    omega
theorem vl_take (D : List UInt8) (i : Nat) (h : i < D.length) : Net.vl (D.take (i + 1)) = Net.vl (D.take i) * 10 + (D[i].toNat - 48) := by
  rw [List.take_add_one, List.getElem?_eq_getElem h]
  exact Net.vl_snoc _ _
theorem moment_end (s D : ByteArray) (v : Nat) (hv : v < 10 ^ 16) (k : Nat) (i : Int) (hi : ¬ i < (D.size : Int)) : ∃ r b, polyglotlaw18_moment.l0 (k + 1) s D (v : Int) i = some (r, b) ∧
    (b = decide (v ≤ 9007199254740992)) ∧ r = (if bl D = bl s then (v : Int) else -(v : Int)) := by
  rw [polyglotlaw18_moment.l0, if_neg hi, tl, tl]
  by_cases h : bl D = bl s
  · rw [if_pos h, if_pos (by omega), if_pos h]
    exact ⟨_, _, rfl, decide_eq_decide.2 (by omega), rfl⟩
  · rw [if_neg h, if_neg h, w64 _ (by omega) (by omega)]
    by_cases h2 : -(v : Int) ≥ -9007199254740992
    · rw [if_pos h2]
      refine ⟨_, _, rfl, ?_, rfl⟩
      rw [decide_eq_true (by omega), decide_eq_true (by omega)]
    · rw [if_neg h2]
      exact ⟨_, _, rfl, (decide_eq_false (by omega)).symm, rfl⟩
theorem moment_loop (s D : ByteArray) (hD : (bl D).length ≤ 16) : ∀ (d i : Nat), (bl D).length - i ≤ d → i ≤ (bl D).length → (∀ c ∈ (bl D).take i, isDig c = true) →
    ∃ r b, polyglotlaw18_moment.l0 (d + 1) s D (Net.vl ((bl D).take i) : Int) (i : Int) = some (r, b) ∧ (b = true ↔ (∀ c ∈ bl D, isDig c = true) ∧ Net.vl (bl D) ≤ 9007199254740992) ∧
      (b = true → r = if bl D = bl s then (Net.vl (bl D) : Int) else -(Net.vl (bl D) : Int)) := by
  have hz : D.size = (bl D).length := sz D
  have fin : ∀ (i k : Nat), (bl D).length ≤ i → i ≤ (bl D).length → (∀ c ∈ (bl D).take i, isDig c = true) → ∃ r b, polyglotlaw18_moment.l0 (k + 1) s D (Net.vl ((bl D).take i) : Int) (i : Int) = some (r, b) ∧ (b = true ↔ (∀ c ∈ bl D, isDig c = true) ∧ Net.vl (bl D) ≤ 9007199254740992) ∧
      (b = true → r = if bl D = bl s then (Net.vl (bl D) : Int) else -(Net.vl (bl D) : Int)) := by
    intro i k h1 h2 h3
    rw [List.take_of_length_le h1] at h3 ⊢
    have hlt := pow16 (bl D) h3
    have hle : 10 ^ (bl D).length ≤ 10 ^ 16 := Nat.pow_le_pow_right (by decide) hD
    obtain ⟨r, b, e1, e2, e3⟩ := moment_end s D (Net.vl (bl D)) (by omega) k i (by omega)
    refine ⟨r, b, e1, ?_, fun _ => e3⟩
    rw [e2, decide_eq_true_iff]
    exact ⟨fun h => ⟨h3, h⟩, fun h => h.2⟩
  intro d
  induction d with
  | zero =>
    intro i h1 h2 h3
    exact fin i 0 (by omega) h2 h3
  | succ d ih =>
    intro i h1 h2 h3
    by_cases hi : i < (bl D).length
    · have hc : (bl D)[i]? = some (bl D)[i] := List.getElem?_eq_getElem hi
      have hbt := bt_nat D i _ hc
      have hlt := pow16 ((bl D).take i) h3
      have hle : 10 ^ ((bl D).take i).length ≤ 10 ^ 16 := Nat.pow_le_pow_right (by decide) (by rw [List.length_take]; omega)
      have h16 : (10 : Nat) ^ 16 = 10000000000000000 := by decide
      rw [polyglotlaw18_moment.l0, if_pos (by omega), if_pos (by omega), hbt]
      by_cases g1 : ((bl D)[i].toNat : Int) < 48
      · rw [if_pos g1]
        refine ⟨0, false, rfl, ⟨fun h => (by cases h), fun h => ?_⟩, fun h => by cases h⟩
        have := h.1 _ (List.getElem_mem hi)
        have : 48 ≤ (bl D)[i].toNat ∧ (bl D)[i].toNat ≤ 57 := by simpa [isDig] using this
        omega
      · rw [if_neg g1]
        by_cases g2 : ((bl D)[i].toNat : Int) > 57
        · rw [if_pos g2]
          refine ⟨0, false, rfl, ⟨fun h => (by cases h), fun h => ?_⟩, fun h => by cases h⟩
          have := h.1 _ (List.getElem_mem hi)
          have : 48 ≤ (bl D)[i].toNat ∧ (bl D)[i].toNat ≤ 57 := by simpa [isDig] using this
          omega
        · rw [if_neg g2]
          have hdi : isDig (bl D)[i] = true := by
            show (decide (48 ≤ (bl D)[i].toNat) && decide ((bl D)[i].toNat ≤ 57)) = true
            rw [decide_eq_true (by omega), decide_eq_true (by omega)]
            rfl
          have e1 : wrap64 (wrap64 (10 * (Net.vl ((bl D).take i) : Int)) + (((bl D)[i].toNat : Int) - 48) % 256) = (Net.vl ((bl D).take (i + 1)) : Int) := by
            rw [vl_take _ _ hi, w64 (10 * (Net.vl ((bl D).take i) : Int)) (by omega) (by omega), w64 _ (by omega) (by omega)]
            omega
          rw [e1, w64 _ (by omega) (by omega), show (i : Int) + 1 = ((i + 1 : Nat) : Int) by omega]
          refine ih (i + 1) (by omega) (by omega) ?_
          intro c hcm
          rw [List.take_add_one, List.mem_append] at hcm
          rcases hcm with h | h
          · exact h3 c h
          · rw [hc] at h
            have : c = (bl D)[i] := by simpa using h
            rw [this]; exact hdi
    · exact fin i (d + 1) (by omega) h2 h3
theorem moment_j1 (s D : ByteArray) (k : Nat) (hk : 30 ≤ k) : ∃ r b, polyglotlaw18_moment.j1 k s D = some (r, b) ∧
    (b = true ↔ bl D ≠ [] ∧ (bl D).length ≤ 16 ∧ ((bl D).length ≤ 1 ∨ (bl D).head? ≠ some 48) ∧ (∀ c ∈ bl D, isDig c = true) ∧ Net.vl (bl D) ≤ 9007199254740992) ∧
      (b = true → r = if bl D = bl s then (Net.vl (bl D) : Int) else -(Net.vl (bl D) : Int)) := by
  have hz : D.size = (bl D).length := sz D
  obtain ⟨m, rfl⟩ : ∃ m, k = m + 17 + 1 + 1 := ⟨k - 19, by omega⟩
  have hno : ∀ {P : Prop}, ¬ P → ∃ r b, polyglotlaw18_moment.j2 (m + 17 + 1) s D true = some (r, b) ∧ (b = true ↔ P) ∧ (b = true → r = if bl D = bl s then (Net.vl (bl D) : Int) else -(Net.vl (bl D) : Int)) := by
    intro P hP
    rw [polyglotlaw18_moment.j2, if_pos rfl]
    exact ⟨0, false, rfl, ⟨(fun h => by cases h), fun h => absurd h hP⟩, (fun h => by cases h)⟩
  rw [polyglotlaw18_moment.j1, tl]
  by_cases h1 : bl D = []
  · rw [if_pos h1]
    exact hno fun h => h.1 h1
  · rw [if_neg h1]
    by_cases h2 : (D.size : Int) > 16
    · rw [if_pos h2]
      exact hno fun h => by omega
    · rw [if_neg h2]
      have hyes : ((bl D).length ≤ 1 ∨ (bl D).head? ≠ some 48) → ∃ r b, polyglotlaw18_moment.j2 (m + 17 + 1) s D false = some (r, b) ∧
          (b = true ↔ bl D ≠ [] ∧ (bl D).length ≤ 16 ∧ ((bl D).length ≤ 1 ∨ (bl D).head? ≠ some 48) ∧ (∀ c ∈ bl D, isDig c = true) ∧ Net.vl (bl D) ≤ 9007199254740992) ∧ (b = true → r = if bl D = bl s then (Net.vl (bl D) : Int) else -(Net.vl (bl D) : Int)) := by
        intro hh
        rw [polyglotlaw18_moment.j2, if_neg (by decide)]
        obtain ⟨r, b, e1, e2, e3⟩ := moment_loop s D (by omega) (m + 16) 0 (by omega) (by omega) (by simp)
        refine ⟨r, b, e1, ?_, e3⟩
        rw [e2]
        exact ⟨fun h => ⟨h1, by omega, hh, h.1, h.2⟩, fun h => ⟨h.2.2.2.1, h.2.2.2.2⟩⟩
      by_cases h3 : (D.size : Int) > 1
      · rw [if_pos h3, if_pos (by omega)]
        have h0 : 0 < (bl D).length := by omega
        have hc : (bl D)[0]? = some (bl D)[0] := List.getElem?_eq_getElem h0
        have hbt : bt D 0 = (bl D)[0].toNat := bt_nat D 0 _ hc
        have hh : (bl D).head? = some (bl D)[0] := by rw [List.head?_eq_getElem?]; exact hc
        rw [hbt]
        by_cases h4 : (bl D)[0] = 48
        · rw [show ((((bl D)[0].toNat : Nat) : Int) == 48) = true by rw [h4]; rfl]
          exact hno fun h => by
            rcases h.2.2.1 with h | h
            · omega
            · exact h (by rw [hh, h4])
        · rw [show ((((bl D)[0].toNat : Nat) : Int) == 48) = false from beq_eq_false_iff_ne.2 fun h => h4 (UInt8.toNat_inj.1 (by show _ = 48; omega))]
          exact hyes (Or.inr (by rw [hh]; exact fun h => h4 (Option.some.inj h)))
      · rw [if_neg h3]
        exact hyes (Or.inl (by omega))
theorem isDig_Net (c : UInt8) : isDig c = Net.isDg c := rfl
theorem moment_f (s : ByteArray) (k : Nat) (hk : 40 ≤ k) : ∃ r b, polyglotlaw18_moment.f k s = some (r, b) ∧ (match Net.momL (bl s) with | some n => r = n ∧ b = true | none => b = false) := by
  have hz : s.size = (bl s).length := sz s
  obtain ⟨m, rfl⟩ : ∃ m, k = m + 1 := ⟨k - 1, by omega⟩
  have close : ∀ (neg : Bool) (D : ByteArray) (r : Int) (b : Bool), bl s = (if neg = true then 45 :: bl D else bl D) → (neg = false → (bl D).head? ≠ some 45) →
      (b = true ↔ bl D ≠ [] ∧ (bl D).length ≤ 16 ∧ ((bl D).length ≤ 1 ∨ (bl D).head? ≠ some 48) ∧ (neg = true → bl D ≠ [48]) ∧ (∀ c ∈ bl D, isDig c = true) ∧ Net.vl (bl D) ≤ 9007199254740992) →
      (b = true → r = if bl D = bl s then (Net.vl (bl D) : Int) else -(Net.vl (bl D) : Int)) → (match Net.momL (bl s) with | some n => r = n ∧ b = true | none => b = false) := by
    intro neg D r b hs h45 hb hr
    have hm := Net.mom_digits (D := bl D) neg
    rw [← hs] at hm
    cases hq : Net.momL (bl s) with
    | none =>
      show b = false
      cases b with
      | false => rfl
      | true =>
        obtain ⟨n, h1, _⟩ := hm.1 (hb.1 rfl)
        rw [hq] at h1
        cases h1
    | some n =>
      show r = n ∧ b = true
      have hn : n = (if neg = true then -(Net.vl (bl D) : Int) else (Net.vl (bl D) : Int)) := by
        obtain ⟨h4, h5, h6⟩ := Net.momL_iff.1 hq
        cases neg
        · simp only [Bool.false_eq_true, if_false] at hs ⊢
          have h0 : 0 ≤ n := by
            rcases Int.lt_or_le n 0 with h | h
            · exfalso
              refine h45 rfl ?_
              rw [← hs, h4]
              unfold Lib.itoa
              rw [if_pos h]
              rfl
            · exact h
          have e : bl D = Lib.decDigits n.toNat := by rw [← hs, h4]; unfold Lib.itoa; rw [if_neg (by omega)]
          rw [e, Net.vl_dec _ _ (Nat.le_refl _)]
          omega
        · simp only [if_true] at hs ⊢
          rcases Int.lt_or_le n 0 with h | h
          · have e : bl D = Lib.decDigits n.natAbs := by
              unfold Lib.itoa at h4
              rw [if_pos h, hs] at h4
              exact (List.cons.inj h4).2
            rw [e, Net.vl_dec _ _ (Nat.le_refl _)]
            omega
          · exfalso
            unfold Lib.itoa at h4
            rw [if_neg (by omega), hs] at h4
            obtain ⟨c, q, e, _, h45'⟩ := Net.dec_cons n.toNat
            rw [e] at h4
            exact h45' (by rw [← (List.cons.inj h4).1]; rfl)
      have hbt : b = true := hb.2 (hm.2 ⟨n, hq, hn, by
        cases neg
        · exact Or.inr (h45 rfl)
        · exact Or.inl rfl⟩)
      refine ⟨?_, hbt⟩
      rw [hr hbt, hn]
      cases neg
      · simp only [Bool.false_eq_true, if_false] at hs ⊢
        rw [if_pos hs.symm]
      · simp only [if_true] at hs ⊢
        rw [if_neg (fun h => by
          have := congrArg List.length (h.trans hs)
          simp at this)]
  unfold polyglotlaw18_moment.f
  rw [tl]
  by_cases h0 : bl s = []
  · rw [if_pos h0, polyglotlaw18_moment.j0, if_neg (by decide)]
    obtain ⟨r, b, e1, e2, e3⟩ := moment_j1 s s m (by omega)
    exact ⟨r, b, e1, close false s r b rfl (fun _ => by rw [h0]; simp) (by rw [e2]; exact ⟨fun ⟨a, b, c, d, e⟩ => ⟨a, b, c, fun h => (by cases h), d, e⟩, fun ⟨a, b, c, _, d, e⟩ => ⟨a, b, c, d, e⟩⟩) e3⟩
  · have hp : 0 < (bl s).length := by
      cases h : bl s with
      | nil => exact absurd h h0
      | cons a t => simp
    have hc : (bl s)[0]? = some (bl s)[0] := List.getElem?_eq_getElem hp
    have hbt : bt s 0 = (bl s)[0].toNat := bt_nat s 0 _ hc
    have hh : (bl s).head? = some (bl s)[0] := by rw [List.head?_eq_getElem?]; exact hc
    rw [if_neg h0, if_pos (by omega), hbt]
    by_cases h45 : (bl s)[0] = 45
    · rw [show ((((bl s)[0].toNat : Nat) : Int) == 45) = true by rw [h45]; rfl, polyglotlaw18_moment.j0, if_pos rfl, if_pos (by omega), tl]
      have hx : bl (s.extract 1 s.size) = (bl s).tail := by
        rw [bl_ext, hz, List.take_of_length_le (by rw [List.length_drop]; omega), List.drop_one]
      have hs : bl s = 45 :: bl (s.extract 1 s.size) := by
        rw [hx]
        cases h : bl s with
        | nil => exact absurd h h0
        | cons a t =>
          have : (bl s)[0] = a := by simp [h]
          rw [h45] at this
          rw [← this]
          rfl
      by_cases h48 : bl (s.extract 1 s.size) = [48]
      · rw [if_pos h48]
        refine ⟨0, false, rfl, close true (s.extract 1 s.size) 0 false hs (fun h => by cases h) ⟨fun h => (by cases h), fun h => absurd h48 (h.2.2.2.1 rfl)⟩ (fun h => by cases h)⟩
      · rw [if_neg h48]
        obtain ⟨r, b, e1, e2, e3⟩ := moment_j1 s (s.extract 1 s.size) m (by omega)
        exact ⟨r, b, e1, close true (s.extract 1 s.size) r b hs (fun h => by cases h) (by rw [e2]; exact ⟨fun ⟨a, b, c, d, e⟩ => ⟨a, b, c, fun _ => h48, d, e⟩, fun ⟨a, b, c, _, d, e⟩ => ⟨a, b, c, d, e⟩⟩) e3⟩
    · rw [show ((((bl s)[0].toNat : Nat) : Int) == 45) = false from beq_eq_false_iff_ne.2 fun h => h45 (UInt8.toNat_inj.1 (by show _ = 45; omega)), polyglotlaw18_moment.j0, if_neg (by decide)]
      obtain ⟨r, b, e1, e2, e3⟩ := moment_j1 s s m (by omega)
      exact ⟨r, b, e1, close false s r b rfl (fun _ => by rw [hh]; exact fun h => h45 (Option.some.inj h)) (by rw [e2]; exact ⟨fun ⟨a, b, c, d, e⟩ => ⟨a, b, c, fun h => (by cases h), d, e⟩, fun ⟨a, b, c, _, d, e⟩ => ⟨a, b, c, d, e⟩⟩) e3⟩
theorem lvalue_f (name : ByteArray) (kind : Int) (text : ByteArray) (hs : text.size ≤ 100000) : ∃ k0, ∀ k, k0 ≤ k → polyglotlaw18_Value.f k name kind text = some (valF kind text) := by
  obtain ⟨k1, hk1⟩ := lawParse_ok text hs
  refine ⟨k1 + 40, fun k hk => ?_⟩
  unfold polyglotlaw18_Value.f valF
  by_cases h0 : kind = 0
  · rw [if_pos h0, if_pos h0]
    rfl
  · rw [if_neg h0, if_neg h0]
    by_cases h1 : kind = 1
    · rw [if_pos h1, if_pos h1, up (g := fun k => polyglotlaw02_Parse.f k text) (fun k => polyglotlaw02_Parse.mono text k) (show k1 ≤ k by omega) hk1, Option.bind_some, ← numL_parse]
      cases (parseV (negOf text) (restOf text)).2.2.2 <;> rfl
    · rw [if_neg h1, if_neg h1]
      by_cases h2 : kind = 2
      · rw [if_pos h2, if_pos h2]
        obtain ⟨v, b, hf, hm⟩ := moment_f text k (by omega)
        rw [hf, Option.bind_some]
        show (if b = true then _ else _) = _
        revert hm
        cases Net.momL (bl text) with
        | none =>
          intro hm'
          have hm'' : b = false := hm'
          subst hm''
          rfl
        | some n =>
          intro hm'
          obtain ⟨rfl, rfl⟩ := hm'
          rfl
      · rw [if_neg h2, if_neg h2]
        rfl
end Go.Proofs.YtdhpcofnddkcaaaGreatDoor.S
