/- ScriptCuts: for every step, int and slice of steps the call returns true and leaves them unchanged (Text 5 of 9: what the law's proof rests on, joined; walks printed by the kit's print over given contracts, walks and plain laws by hand.) -/
import Derived.Laws.Runes
import Derived.SizedLaws
import Derived.Deep.Slices
import Derived.Deep.Fields
import Derived.Test.YtdhpcofnddkcaaaGreatDoorCut0
import Derived.Test.YtdhpcofnddkcaaaGreatDoorCut1
import Derived.Test.YtdhpcofnddkcaaaGreatDoorCut2
import Derived.Test.YtdhpcofnddkcaaaGreatDoorCut3
namespace Go.Proofs.YtdhpcofnddkcaaaGreatDoor.S
open Go.RowKit Go.Proofs.YtdhpcofnddkcaaaGreatDoor.G Go.Proofs.YtdhpcofnddkcaaaGreatDoorW.PrintWords Go.Proofs.YtdhpcofnddkcaaaGreatDoorW.PrintLast Go.Proofs.YtdhpcofnddkcaaaGreatDoorW.PrintMore
attribute [local go_sem] max2_int min2_int max_two min_two max_three min_three max_four min_four
set_option linter.unusedVariables false
set_option linter.unusedSimpArgs false
namespace Sparts
theorem cellsF3 {w : World} {g : Nat} {t : TypeId} {a0 a1 a2 : Value} (h : w.heap[g]? = some (.cells #[a0, a1, a2] t (0, 0))) : w.cell? ⟨g, 0, none⟩ = some a0 ∧ w.cell? ⟨g, 1, none⟩ = some a1 ∧ w.cell? ⟨g, 2, none⟩ = some a2 ∧ w.frozen? ⟨g, 0, none⟩ = false ∧ w.frozen? ⟨g, 1, none⟩ = false ∧ w.frozen? ⟨g, 2, none⟩ = false := ⟨(blk_cell h 0).trans rfl, (blk_cell h 1).trans rfl, (blk_cell h 2).trans rfl, blk_frozen h 0, blk_frozen h 1, blk_frozen h 2⟩
theorem cellsF8 {w : World} {g : Nat} {t : TypeId} {a0 a1 a2 a3 a4 a5 a6 a7 : Value} (h : w.heap[g]? = some (.cells #[a0, a1, a2, a3, a4, a5, a6, a7] t (0, 0))) : w.cell? ⟨g, 0, none⟩ = some a0 ∧ w.cell? ⟨g, 1, none⟩ = some a1 ∧ w.cell? ⟨g, 2, none⟩ = some a2 ∧ w.cell? ⟨g, 3, none⟩ = some a3 ∧ w.cell? ⟨g, 4, none⟩ = some a4 ∧ w.cell? ⟨g, 5, none⟩ = some a5 ∧ w.cell? ⟨g, 6, none⟩ = some a6 ∧ w.cell? ⟨g, 7, none⟩ = some a7 ∧ w.frozen? ⟨g, 0, none⟩ = false ∧ w.frozen? ⟨g, 1, none⟩ = false ∧ w.frozen? ⟨g, 2, none⟩ = false ∧ w.frozen? ⟨g, 3, none⟩ = false ∧ w.frozen? ⟨g, 4, none⟩ = false ∧ w.frozen? ⟨g, 5, none⟩ = false ∧ w.frozen? ⟨g, 6, none⟩ = false ∧ w.frozen? ⟨g, 7, none⟩ = false := ⟨(blk_cell h 0).trans rfl, (blk_cell h 1).trans rfl, (blk_cell h 2).trans rfl, (blk_cell h 3).trans rfl, (blk_cell h 4).trans rfl, (blk_cell h 5).trans rfl, (blk_cell h 6).trans rfl, (blk_cell h 7).trans rfl, blk_frozen h 0, blk_frozen h 1, blk_frozen h 2, blk_frozen h 3, blk_frozen h 4, blk_frozen h 5, blk_frozen h 6, blk_frozen h 7⟩
theorem q0_ {p_ : Prop} (h_ : p_ := by repeat (first | (with_reducible first | exact HB.out | apply below_alloc | apply pw_below_drewN | apply below_drew1 | refine below_set ?_ GE401.out) | exact HB.out)) : p_ := h_
theorem q1_ {p_ : Prop} (h_ : p_ := by (with_reducible repeat (first | refine blk_drewN ?_ _ | refine blk_drew ?_ | refine blk_alloc ?_ _)); exact BK401.out) : p_ := h_
theorem q2_ {p_ : Prop} (h_ : p_ := by repeat (first | (with_reducible first | exact HB.out | apply below_alloc | apply pw_below_drewN | apply below_drew1) | exact HB.out)) : p_ := h_
theorem q3_ {p_ : Prop} (h_ : p_ := by repeat (first | (with_reducible first | exact HB.out | apply below_alloc | apply pw_below_drewN | apply below_drew1 | refine below_set ?_ GE401.out | refine below_set ?_ GE420.out) | exact HB.out)) : p_ := h_
theorem q4_ {p_ : Prop} (h_ : p_ := by (with_reducible repeat (first | apply Kd.R_alloc | apply Kd.R_drewN | apply Kd.R_drew)); exact HO_4.out) : p_ := h_
theorem q5_ {p_ : Prop} (h_ : p_ := by first | rfl | (simp [errW_none, errW_some] <;> rfl) | (simp [*, errW_none, errW_some] <;> rfl)) : p_ := h_
theorem q6_ {p_ : Prop} (h_ : p_ := by rw [hg]; exact (below_size q2_)) : p_ := h_
theorem q7_ {p_ : Prop} (h_ : p_ := by first | (with_reducible assumption) | assumption) : p_ := h_
theorem q8_ {p_ : Prop} (h_ : p_ := by (try simp only [List.map_toArray, List.map_cons, List.map_nil]); first | done | rfl | (simp only [List.length_drop, List.length_take]; rfl)) : p_ := h_
theorem u0_ {p_ : Prop} (h_ : p_ := by first | (go_simp; done) | (go_simp; rfl)) : p_ := h_
end Sparts
open Sparts
def script_Step_parts.l0 : Nat → List ByteArray → List (S44) → Int → Int → Option (List ByteArray)
 | 0, _, _, _, _ => none
 | k + 1, x4, x41, x42, x43 => if x43 < x42 then (if 0 ≤ x43 then (if x43 < (x41.length : Int) then (if 0 ≤ ((rd_T44 x41 x43).f1) then (if ((rd_T44 x41 x43).f1) < 3 then ((some (([(rd_T44 x41 x43).f0, Utf8.encode (bt (⟨#[116, 110, 109]⟩ : ByteArray) ((rd_T44 x41 x43).f1)), (rd_T44 x41 x43).f2] : List ByteArray) : List ByteArray)).bind fun y421 => (if x4.length + y421.length < 8796093022208 then (script_Step_parts.l0 k (x4 ++ y421) x41 x42 (wrap64 (x43 + 1))) else (none))) else (none)) else (none)) else (none)) else (none)) else (some x4)
def script_Step_parts.f (k : Nat) (a0_0 : Int) (a0_1 : ByteArray) (a0_2 : ByteArray) (a0_3 : Bool) (l0_4 : List ByteArray) (a0_5 : ByteArray) (a0_6 : ByteArray) (l0_7 : List (S44)) : Option (List ByteArray) := if a0_0 = 0 then (if a0_3 = true then (some (([(⟨#[97]⟩ : ByteArray), a0_1, (⟨#[49]⟩ : ByteArray), a0_2] : List ByteArray))) else (some (([(⟨#[97]⟩ : ByteArray), a0_1, (⟨#[48]⟩ : ByteArray), a0_2] : List ByteArray)))) else (if a0_0 = 1 then ((strconv_Itoa.f (l0_4.length : Int)).bind fun t408 => ((some (([(⟨#[99]⟩ : ByteArray), a0_1, t408] : List ByteArray) : List ByteArray)).bind fun y409 => (if y409.length + l0_4.length < 8796093022208 then (some (y409 ++ l0_4)) else (none)))) else ((strconv_Itoa.f (l0_7.length : Int)).bind fun t415 => (script_Step_parts.l0 k (([(⟨#[113]⟩ : ByteArray), a0_5, a0_6, t415] : List ByteArray)) l0_7 (l0_7.length : Int) 0)))
theorem script_Step_parts.mono_l : ∀ k, (∀ y0 y1 y2 y3, LeO (script_Step_parts.l0 k y0 y1 y2 y3) (script_Step_parts.l0 (k + 1) y0 y1 y2 y3))
 | 0 => fun _ _ _ _ r h => by simp [script_Step_parts.l0] at h
 | k + 1 => by
  have ih0 := script_Step_parts.mono_l k
  ·intro y0 y1 y2 y3
   unfold script_Step_parts.l0
   repeat' first
   | (with_reducible exact ih0 _ _ _ _)
   | (with_reducible exact LeO.refl _)
   | (with_reducible exact LeO.none _)
   | (with_reducible refine LeO.ite ?_ ?_)
   | (with_reducible refine LeO.bind ?_ (fun _ => ?_))
   | exact ih0 _ _ _ _
   | exact LeO.none _
   | refine LeO.ite ?_ ?_
   | refine LeO.bind ?_ (fun _ => ?_)
def script_Step_parts.T8 : Bool × List (List Nat × List Nat) := (true, [([], []), ([0], [0]), ([], []), ([2], [2]), ([3], [3]), ([4], [4]), ([1, 5], [1, 5]), ([], []), ([7], [7]), ([6, 8, 5], [6, 8]), ([9, 9, 0, 1, 2, 3, 4, 5, 6, 7, 8, 9], [9])])
def script_Step_parts.B8 : List Nat := [0, 1, 0, 4, 12, 28, 63, 0, 128, 511, 1023]
theorem script_Step_parts.tab8 : rtab .any (opsOf Tryz.f21 8) = script_Step_parts.T8 := by kernel_rfl
theorem script_Step_parts.bits8 : waitsOk script_Step_parts.T8.2 script_Step_parts.B8 = true := by kernel_rfl
def script_Step_parts.T9 : Bool × List (List Nat × List Nat) := (true, [([], []), ([0], [0]), ([], []), ([2], [2]), ([], []), ([4], [4]), ([5], [5]), ([6], [6]), ([1, 3, 7], [1, 3, 7]), ([8, 7, 0, 1, 2, 3, 4, 5, 6, 7, 8], [8])])
def script_Step_parts.B9 : List Nat := [0, 1, 0, 4, 0, 16, 48, 112, 255, 511]
theorem script_Step_parts.tab9 : rtab .any (opsOf Tryz.f21 9) = script_Step_parts.T9 := by kernel_rfl
theorem script_Step_parts.bits9 : waitsOk script_Step_parts.T9.2 script_Step_parts.B9 = true := by kernel_rfl
def script_Step_parts.T13 : Bool × List (List Nat × List Nat) := (true, [([], []), ([], []), ([1], [1]), ([], []), ([3], [3]), ([4], [4]), ([5], [5]), ([], []), ([7], [7]), ([2, 6, 8], [2, 6, 8]), ([0, 9], [0, 9]), ([10, 10, 0, 1, 2, 3, 4, 5, 6, 7, 8, 9, 10], [0, 10])])
def script_Step_parts.B13 : List Nat := [0, 0, 2, 0, 8, 24, 56, 0, 128, 510, 1023, 2047]
theorem script_Step_parts.tab13 : rtab .any (opsOf Tryz.f21 13) = script_Step_parts.T13 := by kernel_rfl
theorem script_Step_parts.bits13 : waitsOk script_Step_parts.T13.2 script_Step_parts.B13 = true := by kernel_rfl
set_option maxHeartbeats 8000000 in
set_option maxRecDepth 100000 in
theorem script_Step_parts.calls (k : Nat) (a0_0 : Int) (a0_1 : ByteArray) (a0_2 : ByteArray) (a0_3 : Bool) (A0_4 : Option Addr) (c0_4 : Nat) (l0_4 : List ByteArray) (a0_5 : ByteArray) (a0_6 : ByteArray) (A0_7 : Option Addr) (c0_7 : Nat) (l0_7 : List (S44)) (r : List ByteArray) (w : World) (hr0_4 : Kd.C Kd.string w A0_4 l0_4.length l0_4) (hc0_4 : l0_4.length ≤ c0_4) (hr0_7 : Kd.C k44 w A0_7 l0_7.length l0_7) (hc0_7 : l0_7.length ≤ c0_7) (h : script_Step_parts.f k a0_0 a0_1 a0_2 a0_3 l0_4 a0_5 a0_6 l0_7 = some r) (HP0_ : TabP_ w := by exact TabP_.step HP0_ (by repeat (first | (with_reducible first | exact HB.out | apply below_alloc | apply pw_below_drewN | apply below_drew1 | refine below_set ?_ (Aside0.out (by assumption))) | exact HB.out))) :
  Calls Tryz.prog 21 #[.agg #[.int .i64 a0_0, .string a0_1, .string a0_2, .bool a0_3, .slice A0_4 l0_4.length c0_4, .string a0_5, .string a0_6, .slice A0_7 l0_7.length c0_7]] w fun e w' => ∃ v0_ : Value, e = .returned (v0_) ∧ Kd.R Kd.string 9 w' w.heap.size (fun _ => True) v0_ r ∧ Below w.heap.size w w' := by
 have hu29 := Tryz.underlying29
 have hu44 := Tryz.underlying44
 have HR0_4 := Aside0.mk hr0_4
 have HC0_4 := Aside0.mk hc0_4
 clear hr0_4 hc0_4
 have HR0_7 := Aside0.mk hr0_7
 have HC0_7 := Aside0.mk hc0_7
 clear hr0_7 hc0_7
 have HB := Aside0.mk (Below.refl w.heap.size w)
 have H : (if a0_0 = 0 then (if a0_3 = true then (some (([(⟨#[97]⟩ : ByteArray), a0_1, (⟨#[49]⟩ : ByteArray), a0_2] : List ByteArray))) else (some (([(⟨#[97]⟩ : ByteArray), a0_1, (⟨#[48]⟩ : ByteArray), a0_2] : List ByteArray)))) else (if a0_0 = 1 then ((strconv_Itoa.f (l0_4.length : Int)).bind fun t408 => ((some (([(⟨#[99]⟩ : ByteArray), a0_1, t408] : List ByteArray) : List ByteArray)).bind fun y409 => (if y409.length + l0_4.length < 8796093022208 then (some (y409 ++ l0_4)) else (none)))) else ((strconv_Itoa.f (l0_7.length : Int)).bind fun t415 => (script_Step_parts.l0 k (([(⟨#[113]⟩ : ByteArray), a0_5, a0_6, t415] : List ByteArray)) l0_7 (l0_7.length : Int) 0)))) = some r := h
 clear h
 by_cases c2 : a0_0 = 0
 ·rw [if_pos c2] at H
  have c2b0 : (a0_0 == 0) = true := beq_iff_eq.mpr c2
  have c2b1 : (a0_0 != 0) = false := bne_eq_false_iff_eq.mpr c2
  clear c2
  by_cases c3 : a0_3 = true
  ·subst c3
   have H1 : (some (([(⟨#[97]⟩ : ByteArray), a0_1, (⟨#[49]⟩ : ByteArray), a0_2] : List ByteArray))) = some r := by rw [if_pos rfl] at H; exact H
   clear H
   have H := H1
   clear H1
   obtain ⟨y402, hy402⟩ : ∃ y_ : List ByteArray, y_ = (([(⟨#[97]⟩ : ByteArray), a0_1, (⟨#[49]⟩ : ByteArray), a0_2] : List ByteArray)) := ⟨_, rfl⟩
   replace H : (some y402) = some r := by first | (rw [hy402]; with_reducible exact H) | (have H2_ := (Option.bind_some _ _).symm.trans H; rw [hy402]; with_reducible exact H2_) | (have H2_ := (Option.bind_some _ _).symm.trans H; with_reducible exact H2_) | with_reducible exact H | (rw [hy402]; exact H) | exact H
   have Ny402 := Aside0.mk hy402
   clear hy402
   obtain rfl := Option.some.inj H
   go_enter Tryz.func21, Tryz.ntmps21
   go_wp2_with (first | ((with_reducible refine gate_dst (N := 1) rfl ?_); refine box_event ?hg (N := 1) ?hd (cs := #[.int .i64 a0_0, .string a0_1, .string a0_2, .bool true, .slice A0_4 l0_4.length c0_4, .string a0_5, .string a0_6, .slice A0_7 l0_7.length c0_7]) (t := 29) ?hr ?_; (case hd => rfl); (case hg => rfl); (case hr => exact u0_); intro gb401 hg w4 hbox hb; have BK401 := Aside0.mk (hbox); have GW401 := Aside0.mk ((q6_ : w.heap.size ≤ gb401)); have GE401 := Aside0.mk ((q6_ : w.heap.size ≤ gb401)); replace HB := Aside0.mk (below_step q2_ hb); clear hb hbox hg; obtain ⟨hcz5_0, hcz5_1, hcz5_2, hcz5_3, hcz5_4, hcz5_5, hcz5_6, hcz5_7, hfz5_0, hfz5_1, hfz5_2, hfz5_3, hfz5_4, hfz5_5, hfz5_6, hfz5_7⟩ := cellsF8 BK401.out) | ((with_reducible refine gate_dst (N := 18) rfl ?_); refine Kd.R_lit Kd.string _ 9 ?hg (N := 18) ?hd (xs := ([(⟨#[97]⟩ : ByteArray), a0_1, (⟨#[49]⟩ : ByteArray), a0_2] : List ByteArray)) (inner := [.string (⟨#[97]⟩ : ByteArray), .string a0_1, .string (⟨#[49]⟩ : ByteArray), .string a0_2]) (ok := fun _ => True) (okp := fun _ => True) ?hr ?hp (fun _ hk => hk) trivial (Below.refl _ _) (Nat.le_refl _) (by simp) ?_; (case hd => rfl); (case hg => rfl); (case hr => exact u0_); (case hp => exact (Reps.one (show Kd.M Kd.string _ _ _ (⟨#[97]⟩ : ByteArray) [.string (⟨#[97]⟩ : ByteArray)] from rfl) (Reps.one (show Kd.M Kd.string _ _ _ a0_1 [.string a0_1] from rfl) (Reps.one (show Kd.M Kd.string _ _ _ (⟨#[49]⟩ : ByteArray) [.string (⟨#[49]⟩ : ByteArray)] from rfl) (Reps.one (show Kd.M Kd.string _ _ _ a0_2 [.string a0_2] from rfl) (Reps.none _ _)))))); intro v403 w6 ho7 hb hg_ hnew_; clear hg_ hnew_; (first | rw [← Ny402.out] at ho7 | (simp only [Int.reduceToNat] at ho7; rw [← Ny402.out] at ho7)); have HO404 := Aside0.mk (Kd.R_lower ho7 (below_size q0_)); replace BK401 := Aside0.mk (blk_below (g := gb401) (o := .cells #[.int .i64 a0_0, .string a0_1, .string a0_2, .bool true, .slice A0_4 l0_4.length c0_4, .string a0_5, .string a0_6, .slice A0_7 l0_7.length c0_7] 29 (0, 0)) q1_ hb); replace HB := Aside0.mk (below_step q0_ hb); clear hb ho7))
   go_ret
   exact ⟨_, q5_, (by (with_reducible repeat (first | apply Kd.R_alloc | apply Kd.R_drewN | apply Kd.R_drew)); exact HO404.out), q0_⟩
  ·replace c3 := Bool.eq_false_iff.mpr c3
   subst c3
   have H1 : (some (([(⟨#[97]⟩ : ByteArray), a0_1, (⟨#[48]⟩ : ByteArray), a0_2] : List ByteArray))) = some r := by rw [if_neg (show ¬ (false = true) by decide)] at H; exact H
   clear H
   have H := H1
   clear H1
   obtain ⟨y405, hy405⟩ : ∃ y_ : List ByteArray, y_ = (([(⟨#[97]⟩ : ByteArray), a0_1, (⟨#[48]⟩ : ByteArray), a0_2] : List ByteArray)) := ⟨_, rfl⟩
   replace H : (some y405) = some r := by first | (rw [hy405]; with_reducible exact H) | (have H2_ := (Option.bind_some _ _).symm.trans H; rw [hy405]; with_reducible exact H2_) | (have H2_ := (Option.bind_some _ _).symm.trans H; with_reducible exact H2_) | with_reducible exact H | (rw [hy405]; exact H) | exact H
   have Ny405 := Aside0.mk hy405
   clear hy405
   obtain rfl := Option.some.inj H
   go_enter Tryz.func21, Tryz.ntmps21
   go_wp2_with (first | ((with_reducible refine gate_dst (N := 1) rfl ?_); refine box_event ?hg (N := 1) ?hd (cs := #[.int .i64 a0_0, .string a0_1, .string a0_2, .bool false, .slice A0_4 l0_4.length c0_4, .string a0_5, .string a0_6, .slice A0_7 l0_7.length c0_7]) (t := 29) ?hr ?_; (case hd => rfl); (case hg => rfl); (case hr => exact u0_); intro gb401 hg w8 hbox hb; have BK401 := Aside0.mk (hbox); have GW401 := Aside0.mk ((q6_ : w.heap.size ≤ gb401)); have GE401 := Aside0.mk ((q6_ : w.heap.size ≤ gb401)); replace HB := Aside0.mk (below_step q2_ hb); clear hb hbox hg; obtain ⟨hcz9_0, hcz9_1, hcz9_2, hcz9_3, hcz9_4, hcz9_5, hcz9_6, hcz9_7, hfz9_0, hfz9_1, hfz9_2, hfz9_3, hfz9_4, hfz9_5, hfz9_6, hfz9_7⟩ := cellsF8 BK401.out) | ((with_reducible refine gate_dst (N := 18) rfl ?_); refine Kd.R_lit Kd.string _ 9 ?hg (N := 18) ?hd (xs := ([(⟨#[97]⟩ : ByteArray), a0_1, (⟨#[48]⟩ : ByteArray), a0_2] : List ByteArray)) (inner := [.string (⟨#[97]⟩ : ByteArray), .string a0_1, .string (⟨#[48]⟩ : ByteArray), .string a0_2]) (ok := fun _ => True) (okp := fun _ => True) ?hr ?hp (fun _ hk => hk) trivial (Below.refl _ _) (Nat.le_refl _) (by simp) ?_; (case hd => rfl); (case hg => rfl); (case hr => exact u0_); (case hp => exact (Reps.one (show Kd.M Kd.string _ _ _ (⟨#[97]⟩ : ByteArray) [.string (⟨#[97]⟩ : ByteArray)] from rfl) (Reps.one (show Kd.M Kd.string _ _ _ a0_1 [.string a0_1] from rfl) (Reps.one (show Kd.M Kd.string _ _ _ (⟨#[48]⟩ : ByteArray) [.string (⟨#[48]⟩ : ByteArray)] from rfl) (Reps.one (show Kd.M Kd.string _ _ _ a0_2 [.string a0_2] from rfl) (Reps.none _ _)))))); intro v406 w10 ho11 hb hg_ hnew_; clear hg_ hnew_; (first | rw [← Ny405.out] at ho11 | (simp only [Int.reduceToNat] at ho11; rw [← Ny405.out] at ho11)); have HO407 := Aside0.mk (Kd.R_lower ho11 (below_size q0_)); replace BK401 := Aside0.mk (blk_below (g := gb401) (o := .cells #[.int .i64 a0_0, .string a0_1, .string a0_2, .bool false, .slice A0_4 l0_4.length c0_4, .string a0_5, .string a0_6, .slice A0_7 l0_7.length c0_7] 29 (0, 0)) q1_ hb); replace HB := Aside0.mk (below_step q0_ hb); clear hb ho11))
   go_ret
   exact ⟨_, q5_, (by (with_reducible repeat (first | apply Kd.R_alloc | apply Kd.R_drewN | apply Kd.R_drew)); exact HO407.out), q0_⟩
 ·rw [if_neg c2] at H
  have c2b0 : (a0_0 == 0) = false := beq_eq_false_iff_ne.mpr c2
  have c2b1 : (a0_0 != 0) = true := bne_iff_ne.mpr c2
  by_cases c12 : a0_0 = 1
  ·rw [if_pos c12] at H
   have c12b0 : (a0_0 == 1) = true := beq_iff_eq.mpr c12
   have c12b1 : (a0_0 != 1) = false := bne_eq_false_iff_eq.mpr c12
   clear c12
   replace H := Option.bind_eq_some_iff.mp H
   obtain ⟨t408, A130, H⟩ := H
   replace H : ((some (([(⟨#[99]⟩ : ByteArray), a0_1, t408] : List ByteArray) : List ByteArray)).bind fun y409 => (if y409.length + l0_4.length < 8796093022208 then (some (y409 ++ l0_4)) else (none))) = some r := H
   have A13 := Aside0.mk A130
   clear A130
   obtain ⟨y409, hy409⟩ : ∃ y_ : List ByteArray, y_ = (([(⟨#[99]⟩ : ByteArray), a0_1, t408] : List ByteArray)) := ⟨_, rfl⟩
   replace H : (if y409.length + l0_4.length < 8796093022208 then (some (y409 ++ l0_4)) else (none)) = some r := by first | (rw [hy409]; with_reducible exact H) | (have H2_ := (Option.bind_some _ _).symm.trans H; rw [hy409]; with_reducible exact H2_) | (have H2_ := (Option.bind_some _ _).symm.trans H; with_reducible exact H2_) | with_reducible exact H | (rw [hy409]; exact H) | exact H
   have Ny409 := Aside0.mk hy409
   clear hy409
   by_cases c14 : y409.length + l0_4.length < 8796093022208
   ·rw [if_pos c14] at H
    have LMc14 := Aside0.mk c14
    clear c14
    obtain ⟨y412, hy412⟩ : ∃ y_ : List ByteArray, y_ = (y409 ++ l0_4) := ⟨_, rfl⟩
    replace H : (some y412) = some r := by first | (rw [hy412]; with_reducible exact H) | (have H2_ := (Option.bind_some _ _).symm.trans H; rw [hy412]; with_reducible exact H2_) | (have H2_ := (Option.bind_some _ _).symm.trans H; with_reducible exact H2_) | with_reducible exact H | (rw [hy412]; exact H) | exact H
    have Ny412 := Aside0.mk hy412
    clear hy412
    obtain rfl := Option.some.inj H
    go_enter Tryz.func21, Tryz.ntmps21
    try go_wp2_with (first | ((with_reducible refine gate_dst (N := 1) rfl ?_); refine box_event ?hg (N := 1) ?hd (cs := #[.int .i64 a0_0, .string a0_1, .string a0_2, .bool a0_3, .slice A0_4 l0_4.length c0_4, .string a0_5, .string a0_6, .slice A0_7 l0_7.length c0_7]) (t := 29) ?hr ?_; (case hd => rfl); (case hg => rfl); (case hr => exact u0_); intro gb401 hg w15 hbox hb; have BK401 := Aside0.mk (hbox); have GW401 := Aside0.mk ((q6_ : w.heap.size ≤ gb401)); have GE401 := Aside0.mk ((q6_ : w.heap.size ≤ gb401)); replace HB := Aside0.mk (below_step q2_ hb); clear hb hbox hg; obtain ⟨hcz16_0, hcz16_1, hcz16_2, hcz16_3, hcz16_4, hcz16_5, hcz16_6, hcz16_7, hfz16_0, hfz16_1, hfz16_2, hfz16_3, hfz16_4, hfz16_5, hfz16_6, hfz16_7⟩ := cellsF8 BK401.out))
    replace BK401 := Aside0.mk (blk_drew BK401.out)
    replace HB := Aside0.mk (below_drew1 HB.out)
    refine start_ (n := 11) (S := fun w' => w'.cell? ⟨gb401, 0, none⟩ = some (.int .i64 a0_0) ∧ w'.cell? ⟨gb401, 1, none⟩ = some (.string a0_1) ∧ w'.cell? ⟨gb401, 2, none⟩ = some (.string a0_2) ∧ w'.cell? ⟨gb401, 3, none⟩ = some (.bool a0_3) ∧ w'.cell? ⟨gb401, 4, none⟩ = some (.slice A0_4 l0_4.length c0_4) ∧ w'.cell? ⟨gb401, 5, none⟩ = some (.string a0_5) ∧ w'.cell? ⟨gb401, 6, none⟩ = some (.string a0_6) ∧ w'.cell? ⟨gb401, 7, none⟩ = some (.slice A0_7 l0_7.length c0_7)) (ds := []) #[false, false, false, false, false, false, false, false, false, false, false] (by kernel_rfl) rfl rfl ⟨(blk_cell BK401.out 0).trans rfl, (blk_cell BK401.out 1).trans rfl, (blk_cell BK401.out 2).trans rfl, (blk_cell BK401.out 3).trans rfl, (blk_cell BK401.out 4).trans rfl, (blk_cell BK401.out 5).trans rfl, (blk_cell BK401.out 6).trans rfl, (blk_cell BK401.out 7).trans rfl⟩ (fun hHeld => ?_); refine with_tabW script_Step_parts.tab8 script_Step_parts.bits8 (fun HT_ HW_ => ?_)
    generalize w15.drew = w17 at BK401 HB hHeld ⊢
    refine pure_ (i := 0) (N := some 21) (v := ?_) (a' := ?_) #[true, false, false, false, false, false, false, false, false, false, false] rfl rfl (any_of HT_.out (by kernel_rfl)) (fun _ _ _ h => h) (Or.inl ⟨(by rfl), ?_⟩) ?_ ?_
    rotate_left
    ·intro w'
     go_simp
     with_reducible rfl
    rotate_left
    ·simp only [Act.put, List.setIfInBounds_toArray, List.set_cons_zero, List.set_cons_succ, i64_w, i32_w]
     rfl
    refine pure_ (i := 2) (N := some 23) (v := ?_) (a' := ?_) #[true, false, true, false, false, false, false, false, false, false, false] rfl rfl (any_of HT_.out (by kernel_rfl)) (fun _ _ _ h => h) (Or.inl ⟨(by rfl), ?_⟩) ?_ ?_
    rotate_left
    ·intro w'
     go_simp
     with_reducible rfl
    rotate_left
    ·simp only [Act.put, List.setIfInBounds_toArray, List.set_cons_zero, List.set_cons_succ, i64_w, i32_w]
     rfl
    refine pure_ (i := 7) (N := some 28) (v := ?_) (a' := ?_) #[true, false, true, false, false, false, false, true, false, false, false] rfl rfl (any_of HT_.out (by kernel_rfl)) (fun _ _ _ h => h) (Or.inl ⟨(by rfl), ?_⟩) ?_ ?_
    rotate_left
    ·intro w'
     go_simp
     with_reducible rfl
    rotate_left
    ·simp only [Act.put, List.setIfInBounds_toArray, List.set_cons_zero, List.set_cons_succ, i64_w, i32_w]
     rfl
    refine take_ (i := 1) (N := some 22) (v := ?_) (a' := ?_) #[true, true, true, false, false, false, false, true, false, false, false] rfl rfl (take_ofW HT_.out HW_.out (by kernel_rfl)) (fun _ _ _ h => h) (Or.inl ⟨(by rfl), ?_⟩) hHeld ?_ ?_
    rotate_left
    ·rintro w' ⟨s0, s1, s2, s3, s4, s5, s6, s7⟩
     go_simp
     with_reducible rfl
    rotate_left
    ·simp only [Act.put, List.setIfInBounds_toArray, List.set_cons_zero, List.set_cons_succ, i64_w, i32_w]
     rfl
    refine take_ (i := 3) (N := some 24) (v := ?_) (a' := ?_) #[true, true, true, true, false, false, false, true, false, false, false] rfl rfl (take_ofW HT_.out HW_.out (by kernel_rfl)) (fun _ _ _ h => h) (Or.inl ⟨(by rfl), ?_⟩) hHeld ?_ ?_
    rotate_left
    ·rintro w' ⟨s0, s1, s2, s3, s4, s5, s6, s7⟩
     go_simp
     with_reducible rfl
    rotate_left
    ·simp only [Act.put, List.setIfInBounds_toArray, List.set_cons_zero, List.set_cons_succ, i64_w, i32_w]
     rfl
    refine pure_ (i := 4) (N := some 25) (v := ?_) (a' := ?_) #[true, true, true, true, true, false, false, true, false, false, false] rfl rfl (any_of HT_.out (by kernel_rfl)) (fun _ _ _ h => h) (Or.inl ⟨(by rfl), ?_⟩) ?_ ?_
    rotate_left
    ·intro w'
     go_simp
     with_reducible rfl
    rotate_left
    ·simp only [Act.put, List.setIfInBounds_toArray, List.set_cons_zero, List.set_cons_succ, i64_w, i32_w]
     rfl
    refine take_ (i := 8) (N := some 29) (v := ?_) (a' := ?_) #[true, true, true, true, true, false, false, true, true, false, false] rfl rfl (take_ofW HT_.out HW_.out (by kernel_rfl)) (fun _ _ _ h => h) (Or.inl ⟨(by rfl), ?_⟩) hHeld ?_ ?_
    rotate_left
    ·rintro w' ⟨s0, s1, s2, s3, s4, s5, s6, s7⟩
     go_simp
     with_reducible rfl
    rotate_left
    ·simp only [Act.put, List.setIfInBounds_toArray, List.set_cons_zero, List.set_cons_succ, i64_w, i32_w]
     rfl
    refine one_ (i := 5) (N := some 26) #[true, true, true, true, true, true, false, true, true, false, false] rfl rfl (one_of HT_.out (by kernel_rfl)) (by decide) (fun K hK => ?_)
    refine goes_ Tryz.func20 (by kernel_rfl) rfl #[.int .i64 (l0_4.length : Int)] (by rfl) rfl rfl q8_ ?_
    with_reducible refine (strconv_Itoa.calls (l0_4.length : Int) t408 _ A13.out).mono ?_
    rintro e w18 ⟨rfl, hb⟩
    refine ⟨_, rfl, ?_⟩
    replace BK401 := Aside0.mk (blk_below (g := gb401) (o := .cells #[.int .i64 a0_0, .string a0_1, .string a0_2, .bool a0_3, .slice A0_4 l0_4.length c0_4, .string a0_5, .string a0_6, .slice A0_7 l0_7.length c0_7] 29 (0, 0)) q1_ hb)
    replace HB := Aside0.mk (below_step q0_ hb)
    (try clear hb)
    (try clear hb2)
    (try clear hk)
    (try clear hi)
    refine hK.out _ _ ⟨(blk_cell BK401.out 0).trans rfl, (blk_cell BK401.out 1).trans rfl, (blk_cell BK401.out 2).trans rfl, (blk_cell BK401.out 3).trans rfl, (blk_cell BK401.out 4).trans rfl, (blk_cell BK401.out 5).trans rfl, (blk_cell BK401.out 6).trans rfl, (blk_cell BK401.out 7).trans rfl⟩ (fun hHeld => ?_)
    clear hK K
    refine norm_ (a' := ?_) ?_ ?_
    rotate_left
    ·show Act.put _ (some 26) _ = _
     simp only [Act.put, List.setIfInBounds_toArray, List.set_cons_zero, List.set_cons_succ, i64_w, i32_w]
     rfl
    refine one_ (i := 6) (N := some 27) #[true, true, true, true, true, true, true, true, true, false, false] rfl rfl (one_of HT_.out (by kernel_rfl)) (by decide) (fun K hK => ?_)
    refine Kd.R_lit_step Kd.string _ 9 ?hg (N := 27) ?hd (xs := ([(⟨#[99]⟩ : ByteArray), a0_1, t408] : List ByteArray)) (inner := [.string (⟨#[99]⟩ : ByteArray), .string a0_1, .string t408]) (ok := fun _ => True) (okp := fun _ => True) ?hr ?hp (fun _ hk => hk) trivial (Below.refl _ _) (Nat.le_refl _) (by simp) ?_; (case hd => rfl); (case hg => rfl); (case hr => exact u0_); (case hp => exact (Reps.one (show Kd.M Kd.string _ _ _ (⟨#[99]⟩ : ByteArray) [.string (⟨#[99]⟩ : ByteArray)] from rfl) (Reps.one (show Kd.M Kd.string _ _ _ a0_1 [.string a0_1] from rfl) (Reps.one (show Kd.M Kd.string _ _ _ t408 [.string t408] from rfl) (Reps.none _ _)))))
    intro v410 w19 ho20 hb hg_ hnew_
    clear hg_ hnew_
    (first | rw [← Ny409.out] at ho20 | (simp only [Int.reduceToNat] at ho20; rw [← Ny409.out] at ho20))
    have HO411 := Aside0.mk (Kd.R_lower ho20 (below_size q0_))
    replace BK401 := Aside0.mk (blk_below (g := gb401) (o := .cells #[.int .i64 a0_0, .string a0_1, .string a0_2, .bool a0_3, .slice A0_4 l0_4.length c0_4, .string a0_5, .string a0_6, .slice A0_7 l0_7.length c0_7] 29 (0, 0)) q1_ hb)
    replace HB := Aside0.mk (below_step q0_ hb)
    clear hb ho20
    refine hK.out _ _ ⟨(blk_cell BK401.out 0).trans rfl, (blk_cell BK401.out 1).trans rfl, (blk_cell BK401.out 2).trans rfl, (blk_cell BK401.out 3).trans rfl, (blk_cell BK401.out 4).trans rfl, (blk_cell BK401.out 5).trans rfl, (blk_cell BK401.out 6).trans rfl, (blk_cell BK401.out 7).trans rfl⟩ (fun hHeld => ?_)
    clear hK K
    refine norm_ (a' := ?_) ?_ ?_
    rotate_left
    ·show Act.put _ (some 27) _ = _
     simp only [Act.put, List.setIfInBounds_toArray, List.set_cons_zero, List.set_cons_succ, i64_w, i32_w]
     rfl
    refine one_ (i := 9) (N := some 30) #[true, true, true, true, true, true, true, true, true, true, false] rfl rfl (one_of HT_.out (by kernel_rfl)) (by decide) (fun K hK => ?_)
    refine Kd.R_append_rows_step Kd.string (w0 := w) w.heap.size (by rfl) (.tmp 27) (.tmp 29) 26 9 (.string ⟨#[]⟩) 16 rfl Tryz.underlying26 info9 rfl (by decide) (by omega) v410 y409 l0_4 _ _ _ (fun _ => True) (fun _ => False) rfl rfl ?aO ?aR (fun _ _ h => h) (fun _ h => h.elim) ?aF ?aB ?aS ?aL ?_
    (case aR => repeat (first | exact (Kd.C_below HR0_4.out HB.out) | (with_reducible refine Kd.C_alloc ?_ _) | (with_reducible refine Kd.C_drewN ?_ _) | (with_reducible refine Kd.C_drew ?_)))
    (case aB => exact q0_)
    (case aF => exact (fun _ _ => trivial))
    (case aO => exact (by (with_reducible repeat (first | apply Kd.R_alloc | apply Kd.R_drewN | apply Kd.R_drew)); exact HO411.out))
    (case aS => exact (below_size q0_))
    (case aL => have := LMc14.out; omega)
    intro v413 w21 ho hb hg hat
    rw [← Ny412.out] at ho
    replace BK401 := Aside0.mk (blk_grown (g := gb401) (o := .cells #[.int .i64 a0_0, .string a0_1, .string a0_2, .bool a0_3, .slice A0_4 l0_4.length c0_4, .string a0_5, .string a0_6, .slice A0_7 l0_7.length c0_7] 29 (0, 0)) q1_ hg (Kd.R_ne HO411.out BK401.out (by decide)))
    replace HB := Aside0.mk (hb)
    have HO414 := Aside0.mk (ho)
    clear HO411 ho hb hg hat
    refine hK.out _ _ ⟨(blk_cell BK401.out 0).trans rfl, (blk_cell BK401.out 1).trans rfl, (blk_cell BK401.out 2).trans rfl, (blk_cell BK401.out 3).trans rfl, (blk_cell BK401.out 4).trans rfl, (blk_cell BK401.out 5).trans rfl, (blk_cell BK401.out 6).trans rfl, (blk_cell BK401.out 7).trans rfl⟩ (fun hHeld => ?_)
    clear hK K
    refine norm_ (a' := ?_) ?_ ?_
    rotate_left
    ·show Act.put _ (some 30) _ = _
     simp only [Act.put, List.setIfInBounds_toArray, List.set_cons_zero, List.set_cons_succ, i64_w, i32_w]
     rfl
    refine pure_ (i := 10) (N := some 2) (v := ?_) (a' := ?_) #[true, true, true, true, true, true, true, true, true, true, true] rfl rfl (any_of HT_.out (by kernel_rfl)) (fun _ _ _ h => h) (Or.inl ⟨(by rfl), ?_⟩) ?_ ?_
    rotate_left
    ·intro w'
     go_simp
     with_reducible rfl
    rotate_left
    ·simp only [Act.put, List.setIfInBounds_toArray, List.set_cons_zero, List.set_cons_succ, i64_w, i32_w]
     rfl
    refine done_ (done_of HT_.out (by kernel_rfl)) ?_
    try go_wp2
    go_ret
    exact ⟨_, q5_, (by (with_reducible repeat (first | apply Kd.R_alloc | apply Kd.R_drewN | apply Kd.R_drew)); exact HO414.out), q0_⟩
   ·rw [if_neg c14] at H
    exact absurd H (by simp)
  ·rw [if_neg c12] at H
   have c12b0 : (a0_0 == 1) = false := beq_eq_false_iff_ne.mpr c12
   have c12b1 : (a0_0 != 1) = true := bne_iff_ne.mpr c12
   replace H := Option.bind_eq_some_iff.mp H
   obtain ⟨t415, A220, H⟩ := H
   replace H : (script_Step_parts.l0 k (([(⟨#[113]⟩ : ByteArray), a0_5, a0_6, t415] : List ByteArray)) l0_7 (l0_7.length : Int) 0) = some r := H
   have A22 := Aside0.mk A220
   clear A220
   obtain ⟨y416, hy416⟩ : ∃ y_ : List ByteArray, y_ = (([(⟨#[113]⟩ : ByteArray), a0_5, a0_6, t415] : List ByteArray)) := ⟨_, rfl⟩
   replace H : (script_Step_parts.l0 k y416 l0_7 (l0_7.length : Int) 0) = some r := by first | (rw [hy416]; with_reducible exact H) | (have H2_ := (Option.bind_some _ _).symm.trans H; rw [hy416]; with_reducible exact H2_) | (have H2_ := (Option.bind_some _ _).symm.trans H; with_reducible exact H2_) | with_reducible exact H | (rw [hy416]; exact H) | exact H
   have Ny416 := Aside0.mk hy416
   clear hy416
   have H' := Aside0.mk H
   clear H
   go_enter Tryz.func21, Tryz.ntmps21
   try go_wp2_with (first | ((with_reducible refine gate_dst (N := 1) rfl ?_); refine box_event ?hg (N := 1) ?hd (cs := #[.int .i64 a0_0, .string a0_1, .string a0_2, .bool a0_3, .slice A0_4 l0_4.length c0_4, .string a0_5, .string a0_6, .slice A0_7 l0_7.length c0_7]) (t := 29) ?hr ?_; (case hd => rfl); (case hg => rfl); (case hr => exact u0_); intro gb401 hg w23 hbox hb; have BK401 := Aside0.mk (hbox); have GW401 := Aside0.mk ((q6_ : w.heap.size ≤ gb401)); have GE401 := Aside0.mk ((q6_ : w.heap.size ≤ gb401)); replace HB := Aside0.mk (below_step q2_ hb); clear hb hbox hg; obtain ⟨hcz24_0, hcz24_1, hcz24_2, hcz24_3, hcz24_4, hcz24_5, hcz24_6, hcz24_7, hfz24_0, hfz24_1, hfz24_2, hfz24_3, hfz24_4, hfz24_5, hfz24_6, hfz24_7⟩ := cellsF8 BK401.out))
   replace BK401 := Aside0.mk (blk_drew BK401.out)
   replace HB := Aside0.mk (below_drew1 HB.out)
   refine start_ (n := 10) (S := fun w' => w'.cell? ⟨gb401, 0, none⟩ = some (.int .i64 a0_0) ∧ w'.cell? ⟨gb401, 1, none⟩ = some (.string a0_1) ∧ w'.cell? ⟨gb401, 2, none⟩ = some (.string a0_2) ∧ w'.cell? ⟨gb401, 3, none⟩ = some (.bool a0_3) ∧ w'.cell? ⟨gb401, 4, none⟩ = some (.slice A0_4 l0_4.length c0_4) ∧ w'.cell? ⟨gb401, 5, none⟩ = some (.string a0_5) ∧ w'.cell? ⟨gb401, 6, none⟩ = some (.string a0_6) ∧ w'.cell? ⟨gb401, 7, none⟩ = some (.slice A0_7 l0_7.length c0_7)) (ds := []) #[false, false, false, false, false, false, false, false, false, false] (by kernel_rfl) rfl rfl ⟨(blk_cell BK401.out 0).trans rfl, (blk_cell BK401.out 1).trans rfl, (blk_cell BK401.out 2).trans rfl, (blk_cell BK401.out 3).trans rfl, (blk_cell BK401.out 4).trans rfl, (blk_cell BK401.out 5).trans rfl, (blk_cell BK401.out 6).trans rfl, (blk_cell BK401.out 7).trans rfl⟩ (fun hHeld => ?_); refine with_tabW script_Step_parts.tab9 script_Step_parts.bits9 (fun HT_ HW_ => ?_)
   generalize w23.drew = w25 at BK401 HB hHeld ⊢
   refine pure_ (i := 0) (N := some 31) (v := ?_) (a' := ?_) #[true, false, false, false, false, false, false, false, false, false] rfl rfl (any_of HT_.out (by kernel_rfl)) (fun _ _ _ h => h) (Or.inl ⟨(by rfl), ?_⟩) ?_ ?_
   rotate_left
   ·intro w'
    go_simp
    with_reducible rfl
   rotate_left
   ·simp only [Act.put, List.setIfInBounds_toArray, List.set_cons_zero, List.set_cons_succ, i64_w, i32_w]
    rfl
   refine pure_ (i := 2) (N := some 33) (v := ?_) (a' := ?_) #[true, false, true, false, false, false, false, false, false, false] rfl rfl (any_of HT_.out (by kernel_rfl)) (fun _ _ _ h => h) (Or.inl ⟨(by rfl), ?_⟩) ?_ ?_
   rotate_left
   ·intro w'
    go_simp
    with_reducible rfl
   rotate_left
   ·simp only [Act.put, List.setIfInBounds_toArray, List.set_cons_zero, List.set_cons_succ, i64_w, i32_w]
    rfl
   refine pure_ (i := 4) (N := some 35) (v := ?_) (a' := ?_) #[true, false, true, false, true, false, false, false, false, false] rfl rfl (any_of HT_.out (by kernel_rfl)) (fun _ _ _ h => h) (Or.inl ⟨(by rfl), ?_⟩) ?_ ?_
   rotate_left
   ·intro w'
    go_simp
    with_reducible rfl
   rotate_left
   ·simp only [Act.put, List.setIfInBounds_toArray, List.set_cons_zero, List.set_cons_succ, i64_w, i32_w]
    rfl
   refine take_ (i := 1) (N := some 32) (v := ?_) (a' := ?_) #[true, true, true, false, true, false, false, false, false, false] rfl rfl (take_ofW HT_.out HW_.out (by kernel_rfl)) (fun _ _ _ h => h) (Or.inl ⟨(by rfl), ?_⟩) hHeld ?_ ?_
   rotate_left
   ·rintro w' ⟨s0, s1, s2, s3, s4, s5, s6, s7⟩
    go_simp
    with_reducible rfl
   rotate_left
   ·simp only [Act.put, List.setIfInBounds_toArray, List.set_cons_zero, List.set_cons_succ, i64_w, i32_w]
    rfl
   refine take_ (i := 3) (N := some 34) (v := ?_) (a' := ?_) #[true, true, true, true, true, false, false, false, false, false] rfl rfl (take_ofW HT_.out HW_.out (by kernel_rfl)) (fun _ _ _ h => h) (Or.inl ⟨(by rfl), ?_⟩) hHeld ?_ ?_
   rotate_left
   ·rintro w' ⟨s0, s1, s2, s3, s4, s5, s6, s7⟩
    go_simp
    with_reducible rfl
   rotate_left
   ·simp only [Act.put, List.setIfInBounds_toArray, List.set_cons_zero, List.set_cons_succ, i64_w, i32_w]
    rfl
   refine take_ (i := 5) (N := some 36) (v := ?_) (a' := ?_) #[true, true, true, true, true, true, false, false, false, false] rfl rfl (take_ofW HT_.out HW_.out (by kernel_rfl)) (fun _ _ _ h => h) (Or.inl ⟨(by rfl), ?_⟩) hHeld ?_ ?_
   rotate_left
   ·rintro w' ⟨s0, s1, s2, s3, s4, s5, s6, s7⟩
    go_simp
    with_reducible rfl
   rotate_left
   ·simp only [Act.put, List.setIfInBounds_toArray, List.set_cons_zero, List.set_cons_succ, i64_w, i32_w]
    rfl
   refine pure_ (i := 6) (N := some 37) (v := ?_) (a' := ?_) #[true, true, true, true, true, true, true, false, false, false] rfl rfl (any_of HT_.out (by kernel_rfl)) (fun _ _ _ h => h) (Or.inl ⟨(by rfl), ?_⟩) ?_ ?_
   rotate_left
   ·intro w'
    go_simp
    with_reducible rfl
   rotate_left
   ·simp only [Act.put, List.setIfInBounds_toArray, List.set_cons_zero, List.set_cons_succ, i64_w, i32_w]
    rfl
   refine one_ (i := 7) (N := some 38) #[true, true, true, true, true, true, true, true, false, false] rfl rfl (one_of HT_.out (by kernel_rfl)) (by decide) (fun K hK => ?_)
   refine goes_ Tryz.func20 (by kernel_rfl) rfl #[.int .i64 (l0_7.length : Int)] (by rfl) rfl rfl q8_ ?_
   with_reducible refine (strconv_Itoa.calls (l0_7.length : Int) t415 _ A22.out).mono ?_
   rintro e w26 ⟨rfl, hb⟩
   refine ⟨_, rfl, ?_⟩
   replace BK401 := Aside0.mk (blk_below (g := gb401) (o := .cells #[.int .i64 a0_0, .string a0_1, .string a0_2, .bool a0_3, .slice A0_4 l0_4.length c0_4, .string a0_5, .string a0_6, .slice A0_7 l0_7.length c0_7] 29 (0, 0)) q1_ hb)
   replace HB := Aside0.mk (below_step q0_ hb)
   (try clear hb)
   (try clear hb2)
   (try clear hk)
   (try clear hi)
   refine hK.out _ _ ⟨(blk_cell BK401.out 0).trans rfl, (blk_cell BK401.out 1).trans rfl, (blk_cell BK401.out 2).trans rfl, (blk_cell BK401.out 3).trans rfl, (blk_cell BK401.out 4).trans rfl, (blk_cell BK401.out 5).trans rfl, (blk_cell BK401.out 6).trans rfl, (blk_cell BK401.out 7).trans rfl⟩ (fun hHeld => ?_)
   clear hK K
   refine norm_ (a' := ?_) ?_ ?_
   rotate_left
   ·show Act.put _ (some 38) _ = _
    simp only [Act.put, List.setIfInBounds_toArray, List.set_cons_zero, List.set_cons_succ, i64_w, i32_w]
    rfl
   refine one_ (i := 8) (N := some 39) #[true, true, true, true, true, true, true, true, true, false] rfl rfl (one_of HT_.out (by kernel_rfl)) (by decide) (fun K hK => ?_)
   refine Kd.R_lit_step Kd.string _ 9 ?hg (N := 39) ?hd (xs := ([(⟨#[113]⟩ : ByteArray), a0_5, a0_6, t415] : List ByteArray)) (inner := [.string (⟨#[113]⟩ : ByteArray), .string a0_5, .string a0_6, .string t415]) (ok := fun _ => True) (okp := fun _ => True) ?hr ?hp (fun _ hk => hk) trivial (Below.refl _ _) (Nat.le_refl _) (by simp) ?_; (case hd => rfl); (case hg => rfl); (case hr => exact u0_); (case hp => exact (Reps.one (show Kd.M Kd.string _ _ _ (⟨#[113]⟩ : ByteArray) [.string (⟨#[113]⟩ : ByteArray)] from rfl) (Reps.one (show Kd.M Kd.string _ _ _ a0_5 [.string a0_5] from rfl) (Reps.one (show Kd.M Kd.string _ _ _ a0_6 [.string a0_6] from rfl) (Reps.one (show Kd.M Kd.string _ _ _ t415 [.string t415] from rfl) (Reps.none _ _))))))
   intro v417 w27 ho28 hb hg_ hnew_
   clear hg_ hnew_
   (first | rw [← Ny416.out] at ho28 | (simp only [Int.reduceToNat] at ho28; rw [← Ny416.out] at ho28))
   have HO418 := Aside0.mk (Kd.R_lower ho28 (below_size q0_))
   replace BK401 := Aside0.mk (blk_below (g := gb401) (o := .cells #[.int .i64 a0_0, .string a0_1, .string a0_2, .bool a0_3, .slice A0_4 l0_4.length c0_4, .string a0_5, .string a0_6, .slice A0_7 l0_7.length c0_7] 29 (0, 0)) q1_ hb)
   replace HB := Aside0.mk (below_step q0_ hb)
   clear hb ho28
   refine hK.out _ _ ⟨(blk_cell BK401.out 0).trans rfl, (blk_cell BK401.out 1).trans rfl, (blk_cell BK401.out 2).trans rfl, (blk_cell BK401.out 3).trans rfl, (blk_cell BK401.out 4).trans rfl, (blk_cell BK401.out 5).trans rfl, (blk_cell BK401.out 6).trans rfl, (blk_cell BK401.out 7).trans rfl⟩ (fun hHeld => ?_)
   clear hK K
   refine norm_ (a' := ?_) ?_ ?_
   rotate_left
   ·show Act.put _ (some 39) _ = _
    simp only [Act.put, List.setIfInBounds_toArray, List.set_cons_zero, List.set_cons_succ, i64_w, i32_w]
    rfl
   refine pure_ (i := 9) (N := some 4) (v := ?_) (a' := ?_) #[true, true, true, true, true, true, true, true, true, true] rfl rfl (any_of HT_.out (by kernel_rfl)) (fun _ _ _ h => h) (Or.inl ⟨(by rfl), ?_⟩) ?_ ?_
   rotate_left
   ·intro w'
    go_simp
    with_reducible rfl
   rotate_left
   ·simp only [Act.put, List.setIfInBounds_toArray, List.set_cons_zero, List.set_cons_succ, i64_w, i32_w]
    rfl
   refine done_ (done_of HT_.out (by kernel_rfl)) ?_
   obtain ⟨hcz29_0, hcz29_1, hcz29_2, hcz29_3, hcz29_4, hcz29_5, hcz29_6, hcz29_7, hfz29_0, hfz29_1, hfz29_2, hfz29_3, hfz29_4, hfz29_5, hfz29_6, hfz29_7⟩ := cellsF8 BK401.out
   try go_wp2
   go_loopg [4, 43] k (fun kq v4 v43 w' => ∃ (x4_1 : List ByteArray) (x43_1 : Int), v43 = .int .i64 x43_1 ∧ Aside0 (script_Step_parts.l0 kq x4_1 l0_7 (l0_7.length : Int) x43_1 = some r) ∧ Aside0 (kq ≤ k) ∧ Aside0 (Kd.R Kd.string 9 w' w.heap.size (fun _ => True) v4 x4_1) ∧ Aside0 (w'.heap[gb401]? = some (.cells #[.int .i64 a0_0, .string a0_1, .string a0_2, .bool a0_3, (.slice A0_4 l0_4.length c0_4), .string a0_5, .string a0_6, (.slice A0_7 l0_7.length c0_7)] 29 (0, 0))) ∧ Aside0 (Below w.heap.size w w'))
   case atStart => exact ⟨(y416), (0), (by first | rfl | (simp; done) | (simp [*]; done)), H', ⟨Nat.le_refl _⟩, ⟨(by (with_reducible repeat (first | apply Kd.R_alloc | apply Kd.R_drewN | apply Kd.R_drew)); exact HO418.out)⟩, ⟨q1_⟩, ⟨q0_⟩⟩
   case round =>
    clear H'
    try clear c1
    try clear c2
    try clear c2b0
    try clear c2b1
    try clear p2
    try clear c3
    try clear c12
    try clear c12b0
    try clear c12b1
    try clear c14
    try clear c20
    try clear c21
    try clear hcz16_0 hcz16_1 hcz16_2 hcz16_3 hcz16_4 hcz16_5 hcz16_6 hcz16_7
    try clear hcz24_0 hcz24_1 hcz24_2 hcz24_3 hcz24_4 hcz24_5 hcz24_6 hcz24_7
    try clear hcz29_0 hcz29_1 hcz29_2 hcz29_3 hcz29_4 hcz29_5 hcz29_6 hcz29_7
    try clear hcz5_0 hcz5_1 hcz5_2 hcz5_3 hcz5_4 hcz5_5 hcz5_6 hcz5_7
    try clear hcz9_0 hcz9_1 hcz9_2 hcz9_3 hcz9_4 hcz9_5 hcz9_6 hcz9_7
    try clear hfz16_0 hfz16_1 hfz16_2 hfz16_3 hfz16_4 hfz16_5 hfz16_6 hfz16_7
    try clear hfz24_0 hfz24_1 hfz24_2 hfz24_3 hfz24_4 hfz24_5 hfz24_6 hfz24_7
    try clear hfz29_0 hfz29_1 hfz29_2 hfz29_3 hfz29_4 hfz29_5 hfz29_6 hfz29_7
    try clear hfz5_0 hfz5_1 hfz5_2 hfz5_3 hfz5_4 hfz5_5 hfz5_6 hfz5_7
    try clear hfz9_0 hfz9_1 hfz9_2 hfz9_3 hfz9_4 hfz9_5 hfz9_6 hfz9_7
    obtain ⟨x4_1, x43_1, rfl, HA, HK1, HO_4, BK401, HB⟩ := hrel
    cases gk with
    | zero => exact absurd HA.out (by simp [script_Step_parts.l0])
    | succ k1 =>
     have H := HA.out
     clear HA
     simp only [script_Step_parts.l0] at H
     by_cases c30 : x43_1 < (l0_7.length : Int)
     ·rw [if_pos c30] at H
      have c30b0 : decide (x43_1 < (l0_7.length : Int)) = true := decide_eq_true c30
      clear c30
      by_cases c31 : 0 ≤ x43_1
      ·rw [if_pos c31] at H
       have c31b0 : decide (0 ≤ x43_1) = true := decide_eq_true c31
       clear c31
       by_cases c32 : x43_1 < (l0_7.length : Int)
       ·rw [if_pos c32] at H
        have c32b0 : decide (x43_1 < (l0_7.length : Int)) = true := decide_eq_true c32
        clear c32
        by_cases c33 : 0 ≤ ((rd_T44 l0_7 x43_1).f1)
        ·rw [if_pos c33] at H
         have c33b0 : decide (0 ≤ ((rd_T44 l0_7 x43_1).f1)) = true := decide_eq_true c33
         clear c33
         by_cases c34 : ((rd_T44 l0_7 x43_1).f1) < 3
         ·rw [if_pos c34] at H
          have c34b0 : decide (((rd_T44 l0_7 x43_1).f1) < 3) = true := decide_eq_true c34
          clear c34
          obtain ⟨y421, hy421⟩ : ∃ y_ : List ByteArray, y_ = (([(rd_T44 l0_7 x43_1).f0, Utf8.encode (bt (⟨#[116, 110, 109]⟩ : ByteArray) ((rd_T44 l0_7 x43_1).f1)), (rd_T44 l0_7 x43_1).f2] : List ByteArray)) := ⟨_, rfl⟩
          replace H : (if x4_1.length + y421.length < 8796093022208 then (script_Step_parts.l0 k1 (x4_1 ++ y421) l0_7 (l0_7.length : Int) (wrap64 (x43_1 + 1))) else (none)) = some r := by first | (rw [hy421]; with_reducible exact H) | (have H2_ := (Option.bind_some _ _).symm.trans H; rw [hy421]; with_reducible exact H2_) | (have H2_ := (Option.bind_some _ _).symm.trans H; with_reducible exact H2_) | with_reducible exact H | (rw [hy421]; exact H) | exact H
          have Ny421 := Aside0.mk hy421
          clear hy421
          by_cases c36 : x4_1.length + y421.length < 8796093022208
          ·rw [if_pos c36] at H
           have LMc36 := Aside0.mk c36
           clear c36
           obtain ⟨y424, hy424⟩ : ∃ y_ : List ByteArray, y_ = (x4_1 ++ y421) := ⟨_, rfl⟩
           replace H : (script_Step_parts.l0 k1 y424 l0_7 (l0_7.length : Int) (wrap64 (x43_1 + 1))) = some r := by first | (rw [hy424]; with_reducible exact H) | (have H2_ := (Option.bind_some _ _).symm.trans H; rw [hy424]; with_reducible exact H2_) | (have H2_ := (Option.bind_some _ _).symm.trans H; with_reducible exact H2_) | with_reducible exact H | (rw [hy424]; exact H) | exact H
           have Ny424 := Aside0.mk hy424
           clear hy424
           have H' := Aside0.mk H
           clear H
           have p419 : 0 ≤ (x43_1 : Int) := of_decide_eq_true q7_
           have q419 : x43_1 < (l0_7.length : Int) := of_decide_eq_true q7_
           obtain ⟨ad419, e419, hx419_0, hx419_1, hx419_2⟩ := at_T44 HR0_7.out x43_1 p419 q419
           cases e419
           replace hx419_0 := (HB.out.cell (World.block_lt_of_cell? w _ hx419_0)).trans hx419_0
           replace hx419_1 := (HB.out.cell (World.block_lt_of_cell? w _ hx419_1)).trans hx419_1
           replace hx419_2 := (HB.out.cell (World.block_lt_of_cell? w _ hx419_2)).trans hx419_2
           replace p419 := eq_true p419
           replace q419 := eq_true q419
           try go_wp2_with (first | ((with_reducible refine gate_dst (N := 6) rfl ?_); refine box_event ?hg (N := 6) ?hd (cs := #[.string (⟨#[]⟩ : ByteArray), .int .i64 0, .string (⟨#[]⟩ : ByteArray)]) (t := 44) ?hr ?_; (case hd => rfl); (case hg => rfl); (case hr => exact u0_); intro gb420 hg w37 hbox hb; replace HO_4 := Aside0.mk (Kd.R_below q4_ hb); have BK420 := Aside0.mk (hbox); have GW420 := Aside0.mk (((by rw [hg]; exact (below_size q0_)) : w.heap.size ≤ gb420)); have GE420 := Aside0.mk (((by rw [hg]; exact (below_size q0_)) : w.heap.size ≤ gb420)); replace HB := Aside0.mk (below_step q0_ hb); have NB401_420 := Aside0.mk (((by rw [hg]; exact Nat.ne_of_lt (blk_lt (g := gb401) (o := .cells #[.int .i64 a0_0, .string a0_1, .string a0_2, .bool a0_3, .slice A0_4 l0_4.length c0_4, .string a0_5, .string a0_6, .slice (some ad419) l0_7.length c0_7] 29 (0, 0)) q1_)) : gb401 ≠ gb420)); have NB420_401 := Aside0.mk (((by rw [hg]; exact Nat.ne_of_gt (blk_lt (g := gb401) (o := .cells #[.int .i64 a0_0, .string a0_1, .string a0_2, .bool a0_3, .slice A0_4 l0_4.length c0_4, .string a0_5, .string a0_6, .slice (some ad419) l0_7.length c0_7] 29 (0, 0)) q1_)) : gb420 ≠ gb401)); replace BK401 := Aside0.mk (blk_below (g := gb401) (o := .cells #[.int .i64 a0_0, .string a0_1, .string a0_2, .bool a0_3, .slice A0_4 l0_4.length c0_4, .string a0_5, .string a0_6, .slice (some ad419) l0_7.length c0_7] 29 (0, 0)) q1_ hb); clear hb hbox hg; have hnb38 := NB420_401.out; have hnc38 := NB401_420.out; obtain ⟨hcz39_0, hcz39_1, hcz39_2, hfz39_0, hfz39_1, hfz39_2⟩ := cellsF3 BK420.out))
           have n0_ : Aside0 (Kd.R Kd.string 9 (((w37.setCell ⟨gb420, 0, none⟩ (.string ((rd_T44 l0_7 x43_1).f0))).setCell ⟨gb420, 1, none⟩ (.int .i64 ((rd_T44 l0_7 x43_1).f1))).setCell ⟨gb420, 2, none⟩ (.string ((rd_T44 l0_7 x43_1).f2))) w.heap.size (fun _ => True) u4 x4_1) := ⟨(by (with_reducible repeat (first | apply Kd.R_alloc | apply Kd.R_drewN | apply Kd.R_drew)); exact Kd.R_mono (Kd.R_far (p := ⟨gb420, 2, none⟩) (Kd.R_far (p := ⟨gb420, 1, none⟩) (Kd.R_far (p := ⟨gb420, 0, none⟩) (Kd.R_types HO_4.out BK420.out (by decide)) (fun _ hk => hk.2) (.string ((rd_T44 l0_7 x43_1).f0))) (fun _ hk => hk.2) (.int .i64 ((rd_T44 l0_7 x43_1).f1))) (fun _ hk => hk.2) (.string ((rd_T44 l0_7 x43_1).f2))) (fun _ hk => trivial))⟩
           have n1_ : Aside0 ((((w37.setCell ⟨gb420, 0, none⟩ (.string ((rd_T44 l0_7 x43_1).f0))).setCell ⟨gb420, 1, none⟩ (.int .i64 ((rd_T44 l0_7 x43_1).f1))).setCell ⟨gb420, 2, none⟩ (.string ((rd_T44 l0_7 x43_1).f2))).heap[gb401]? = some (.cells #[.int .i64 a0_0, .string a0_1, .string a0_2, .bool a0_3, .slice A0_4 l0_4.length c0_4, .string a0_5, .string a0_6, .slice (some ad419) l0_7.length c0_7] 29 (0, 0))) := ⟨(by (with_reducible repeat (first | refine blk_drewN ?_ _ | refine blk_drew ?_ | refine blk_alloc ?_ _)); refine blk_far ?_ NB401_420.out _; (with_reducible repeat (first | refine blk_drewN ?_ _ | refine blk_drew ?_ | refine blk_alloc ?_ _)); refine blk_far ?_ NB401_420.out _; (with_reducible repeat (first | refine blk_drewN ?_ _ | refine blk_drew ?_ | refine blk_alloc ?_ _)); refine blk_far ?_ NB401_420.out _; (with_reducible repeat (first | refine blk_drewN ?_ _ | refine blk_drew ?_ | refine blk_alloc ?_ _)); exact BK401.out)⟩
           have n2_ : Aside0 ((((w37.setCell ⟨gb420, 0, none⟩ (.string ((rd_T44 l0_7 x43_1).f0))).setCell ⟨gb420, 1, none⟩ (.int .i64 ((rd_T44 l0_7 x43_1).f1))).setCell ⟨gb420, 2, none⟩ (.string ((rd_T44 l0_7 x43_1).f2))).heap[gb420]? = some (.cells #[.string ((rd_T44 l0_7 x43_1).f0), .int .i64 ((rd_T44 l0_7 x43_1).f1), .string ((rd_T44 l0_7 x43_1).f2)] 44 (0, 0))) := ⟨(by (with_reducible repeat (first | refine blk_drewN ?_ _ | refine blk_drew ?_ | refine blk_alloc ?_ _)); refine blk_put (cs := #[.string ((rd_T44 l0_7 x43_1).f0), .int .i64 ((rd_T44 l0_7 x43_1).f1), .string (⟨#[]⟩ : ByteArray)]) ?_ 2 _ rfl; (with_reducible repeat (first | refine blk_drewN ?_ _ | refine blk_drew ?_ | refine blk_alloc ?_ _)); refine blk_put (cs := #[.string ((rd_T44 l0_7 x43_1).f0), .int .i64 0, .string (⟨#[]⟩ : ByteArray)]) ?_ 1 _ rfl; (with_reducible repeat (first | refine blk_drewN ?_ _ | refine blk_drew ?_ | refine blk_alloc ?_ _)); refine blk_put (cs := #[.string (⟨#[]⟩ : ByteArray), .int .i64 0, .string (⟨#[]⟩ : ByteArray)]) ?_ 0 _ rfl; (with_reducible repeat (first | refine blk_drewN ?_ _ | refine blk_drew ?_ | refine blk_alloc ?_ _)); exact BK420.out)⟩
           have n3_ : Aside0 (Below w.heap.size w (((w37.setCell ⟨gb420, 0, none⟩ (.string ((rd_T44 l0_7 x43_1).f0))).setCell ⟨gb420, 1, none⟩ (.int .i64 ((rd_T44 l0_7 x43_1).f1))).setCell ⟨gb420, 2, none⟩ (.string ((rd_T44 l0_7 x43_1).f2)))) := ⟨q3_⟩
           (try clear HO_4)
           (try clear BK401)
           (try clear BK420)
           (try clear HB)
           generalize (((w37.setCell ⟨gb420, 0, none⟩ (.string ((rd_T44 l0_7 x43_1).f0))).setCell ⟨gb420, 1, none⟩ (.int .i64 ((rd_T44 l0_7 x43_1).f1))).setCell ⟨gb420, 2, none⟩ (.string ((rd_T44 l0_7 x43_1).f2))) = w40 at n0_ n1_ n2_ n3_ ⊢
           have HO_4 := n0_
           have BK401 := n1_
           have BK420 := n2_
           have HB := n3_
           clear n0_ n1_ n2_ n3_
           replace HO_4 := Aside0.mk (Kd.R_drew HO_4.out)
           replace BK401 := Aside0.mk (blk_drew BK401.out)
           replace BK420 := Aside0.mk (blk_drew BK420.out)
           replace HB := Aside0.mk (below_drew1 HB.out)
           have p35 : 0 ≤ (((rd_T44 l0_7 x43_1).f1) : Int) := of_decide_eq_true q7_
           have q35 : ((rd_T44 l0_7 x43_1).f1) < (3 : Int) := of_decide_eq_true q7_
           have hx35 := bt_at (⟨#[116, 110, 109]⟩ : ByteArray) ((rd_T44 l0_7 x43_1).f1)
           replace p35 := eq_true p35
           replace q35 := eq_true q35
           refine start_ (n := 12) (S := fun w' => w'.cell? ⟨gb420, 0, none⟩ = some (.string ((rd_T44 l0_7 x43_1).f0)) ∧ w'.cell? ⟨gb420, 1, none⟩ = some (.int .i64 ((rd_T44 l0_7 x43_1).f1)) ∧ w'.cell? ⟨gb420, 2, none⟩ = some (.string ((rd_T44 l0_7 x43_1).f2))) (ds := []) #[false, false, false, false, false, false, false, false, false, false, false, false] (by kernel_rfl) rfl rfl ⟨(blk_cell BK420.out 0).trans rfl, (blk_cell BK420.out 1).trans rfl, (blk_cell BK420.out 2).trans rfl⟩ (fun hHeld => ?_); refine with_tabW script_Step_parts.tab13 script_Step_parts.bits13 (fun HT_ HW_ => ?_)
           generalize w40.drew = w41 at HO_4 BK401 BK420 HB hHeld ⊢
           refine pure_ (i := 0) (N := some 47) (v := ?_) (a' := ?_) #[true, false, false, false, false, false, false, false, false, false, false, false] rfl rfl (any_of HT_.out (by kernel_rfl)) (fun _ _ _ h => h) (Or.inl ⟨(by rfl), ?_⟩) ?_ ?_
           rotate_left
           ·intro w'
            go_simp
            with_reducible rfl
           rotate_left
           ·simp only [Act.put, List.setIfInBounds_toArray, List.set_cons_zero, List.set_cons_succ, i64_w, i32_w]
            rfl
           refine pure_ (i := 1) (N := some 48) (v := ?_) (a' := ?_) #[true, true, false, false, false, false, false, false, false, false, false, false] rfl rfl (any_of HT_.out (by kernel_rfl)) (fun _ _ _ h => h) (Or.inl ⟨(by rfl), ?_⟩) ?_ ?_
           rotate_left
           ·intro w'
            go_simp
            with_reducible rfl
           rotate_left
           ·simp only [Act.put, List.setIfInBounds_toArray, List.set_cons_zero, List.set_cons_succ, i64_w, i32_w]
            rfl
           refine pure_ (i := 3) (N := some 50) (v := ?_) (a' := ?_) #[true, true, false, true, false, false, false, false, false, false, false, false] rfl rfl (any_of HT_.out (by kernel_rfl)) (fun _ _ _ h => h) (Or.inl ⟨(by rfl), ?_⟩) ?_ ?_
           rotate_left
           ·intro w'
            go_simp
            with_reducible rfl
           rotate_left
           ·simp only [Act.put, List.setIfInBounds_toArray, List.set_cons_zero, List.set_cons_succ, i64_w, i32_w]
            rfl
           refine pure_ (i := 7) (N := some 54) (v := ?_) (a' := ?_) #[true, true, false, true, false, false, false, true, false, false, false, false] rfl rfl (any_of HT_.out (by kernel_rfl)) (fun _ _ _ h => h) (Or.inl ⟨(by rfl), ?_⟩) ?_ ?_
           rotate_left
           ·intro w'
            go_simp
            with_reducible rfl
           rotate_left
           ·simp only [Act.put, List.setIfInBounds_toArray, List.set_cons_zero, List.set_cons_succ, i64_w, i32_w]
            rfl
           refine take_ (i := 2) (N := some 49) (v := ?_) (a' := ?_) #[true, true, true, true, false, false, false, true, false, false, false, false] rfl rfl (take_ofW HT_.out HW_.out (by kernel_rfl)) (fun _ _ _ h => h) (Or.inl ⟨(by rfl), ?_⟩) hHeld ?_ ?_
           rotate_left
           ·rintro w' ⟨s0, s1, s2⟩
            go_simp
            with_reducible rfl
           rotate_left
           ·simp only [Act.put, List.setIfInBounds_toArray, List.set_cons_zero, List.set_cons_succ, i64_w, i32_w]
            rfl
           refine take_ (i := 4) (N := some 51) (v := ?_) (a' := ?_) #[true, true, true, true, true, false, false, true, false, false, false, false] rfl rfl (take_ofW HT_.out HW_.out (by kernel_rfl)) (fun _ _ _ h => h) (Or.inl ⟨(by rfl), ?_⟩) hHeld ?_ ?_
           rotate_left
           ·rintro w' ⟨s0, s1, s2⟩
            go_simp
            with_reducible rfl
           rotate_left
           ·simp only [Act.put, List.setIfInBounds_toArray, List.set_cons_zero, List.set_cons_succ, i64_w, i32_w]
            rfl
           refine take_ (i := 5) (N := some 52) (v := ?_) (a' := ?_) #[true, true, true, true, true, true, false, true, false, false, false, false] rfl rfl (take_ofW HT_.out HW_.out (by kernel_rfl)) (fun _ _ _ h => h) (Or.inl ⟨(by rfl), ?_⟩) hHeld ?_ ?_
           rotate_left
           ·rintro w' ⟨s0, s1, s2⟩
            go_simp
            with_reducible rfl
           rotate_left
           ·simp only [Act.put, List.setIfInBounds_toArray, List.set_cons_zero, List.set_cons_succ, i64_w, i32_w]
            rfl
           refine pure_ (i := 6) (N := some 53) (v := ?_) (a' := ?_) #[true, true, true, true, true, true, true, true, false, false, false, false] rfl rfl (any_of HT_.out (by kernel_rfl)) (fun _ _ _ h => h) (Or.inl ⟨(by rfl), ?_⟩) ?_ ?_
           rotate_left
           ·intro w'
            go_simp
            with_reducible rfl
           rotate_left
           ·simp only [Act.put, List.setIfInBounds_toArray, List.set_cons_zero, List.set_cons_succ, i64_w, i32_w]
            rfl
           refine take_ (i := 8) (N := some 55) (v := ?_) (a' := ?_) #[true, true, true, true, true, true, true, true, true, false, false, false] rfl rfl (take_ofW HT_.out HW_.out (by kernel_rfl)) (fun _ _ _ h => h) (Or.inl ⟨(by rfl), ?_⟩) hHeld ?_ ?_
           rotate_left
           ·rintro w' ⟨s0, s1, s2⟩
            go_simp
            with_reducible rfl
           rotate_left
           ·simp only [Act.put, List.setIfInBounds_toArray, List.set_cons_zero, List.set_cons_succ, i64_w, i32_w]
            rfl
           refine one_ (i := 9) (N := some 56) #[true, true, true, true, true, true, true, true, true, true, false, false] rfl rfl (one_of HT_.out (by kernel_rfl)) (by decide) (fun K hK => ?_)
           refine Kd.R_lit_step Kd.string _ 9 ?hg (N := 56) ?hd (xs := ([(rd_T44 l0_7 x43_1).f0, Utf8.encode (bt (⟨#[116, 110, 109]⟩ : ByteArray) ((rd_T44 l0_7 x43_1).f1)), (rd_T44 l0_7 x43_1).f2] : List ByteArray)) (inner := [.string ((rd_T44 l0_7 x43_1).f0), .string (Utf8.encode (bt (⟨#[116, 110, 109]⟩ : ByteArray) ((rd_T44 l0_7 x43_1).f1))), .string ((rd_T44 l0_7 x43_1).f2)]) (ok := fun _ => True) (okp := fun _ => True) ?hr ?hp (fun _ hk => hk) trivial (Below.refl _ _) (Nat.le_refl _) (by simp) ?_; (case hd => rfl); (case hg => rfl); (case hr => exact u0_); (case hp => exact (Reps.one (show Kd.M Kd.string _ _ _ ((rd_T44 l0_7 x43_1).f0) [.string ((rd_T44 l0_7 x43_1).f0)] from rfl) (Reps.one (show Kd.M Kd.string _ _ _ (Utf8.encode (bt (⟨#[116, 110, 109]⟩ : ByteArray) ((rd_T44 l0_7 x43_1).f1))) [.string (Utf8.encode (bt (⟨#[116, 110, 109]⟩ : ByteArray) ((rd_T44 l0_7 x43_1).f1)))] from rfl) (Reps.one (show Kd.M Kd.string _ _ _ ((rd_T44 l0_7 x43_1).f2) [.string ((rd_T44 l0_7 x43_1).f2)] from rfl) (Reps.none _ _)))))
           intro v422 w42 ho43 hb hg_ hnew_
           clear hg_ hnew_
           (first | rw [← Ny421.out] at ho43 | (simp only [Int.reduceToNat] at ho43; rw [← Ny421.out] at ho43))
           have HO423 := Aside0.mk (Kd.R_lower (Kd.R_new' ho43 (Kd.R_lt q4_)) (below_size q3_))
           replace HO_4 := Aside0.mk (Kd.R_elder' q4_ (Kd.R_base ho43) hb)
           replace BK401 := Aside0.mk (blk_below (g := gb401) (o := .cells #[.int .i64 a0_0, .string a0_1, .string a0_2, .bool a0_3, .slice A0_4 l0_4.length c0_4, .string a0_5, .string a0_6, .slice (some ad419) l0_7.length c0_7] 29 (0, 0)) q1_ hb)
           replace BK420 := Aside0.mk (blk_below (g := gb420) (o := .cells #[.string ((rd_T44 l0_7 x43_1).f0), .int .i64 ((rd_T44 l0_7 x43_1).f1), .string ((rd_T44 l0_7 x43_1).f2)] 44 (0, 0)) (by (with_reducible repeat (first | refine blk_drewN ?_ _ | refine blk_drew ?_ | refine blk_alloc ?_ _)); exact BK420.out) hb)
           replace HB := Aside0.mk (below_step q3_ hb)
           clear hb ho43
           obtain ⟨Ao45, co45, eo45⟩ := Kd.R_slice HO423.out
           (first | subst eo45 | (injection eo45 with f1_ f2_ f3_; have f4_ := f1_.symm; have f5_ := f3_.symm; clear f1_ f2_ f3_; subst f4_; subst f5_))
           refine hK.out _ _ ⟨(blk_cell BK420.out 0).trans rfl, (blk_cell BK420.out 1).trans rfl, (blk_cell BK420.out 2).trans rfl⟩ (fun hHeld => ?_)
           clear hK K
           refine norm_ (a' := ?_) ?_ ?_
           rotate_left
           ·show Act.put _ (some 56) _ = _
            simp only [Act.put, List.setIfInBounds_toArray, List.set_cons_zero, List.set_cons_succ, i64_w, i32_w]
            rfl
           refine one_ (i := 10) (N := some 57) #[true, true, true, true, true, true, true, true, true, true, true, false] rfl rfl (one_of HT_.out (by kernel_rfl)) (by decide) (fun K hK => ?_)
           refine Kd.R_append_rows_step Kd.string (w0 := w) w.heap.size (by rfl) (.tmp 47) (.tmp 56) 26 9 (.string ⟨#[]⟩) 16 rfl Tryz.underlying26 info9 rfl (by decide) (by omega) u4 x4_1 y421 _ _ _ (fun k_ => some k_ ≠ (.slice Ao45 y421.length co45 : Value).ownBlock) (fun _ => False) rfl rfl ?aO ?aR (fun _ _ h => h) (fun _ h => h.elim) ?aF ?aB ?aS ?aL ?_
           (case aR => repeat (first | exact (Kd.R_reads' HO423.out).2.2 | (with_reducible refine Kd.C_alloc ?_ _) | (with_reducible refine Kd.C_drewN ?_ _) | (with_reducible refine Kd.C_drew ?_)))
           (case aB => exact q3_)
           (case aF => exact (fun k_ hk => Kd.fresh' (Kd.R_lt (by (with_reducible repeat (first | apply Kd.R_alloc | apply Kd.R_drewN | apply Kd.R_drew)); exact HO423.out)) k_ hk))
           (case aO => exact (by (with_reducible repeat (first | apply Kd.R_alloc | apply Kd.R_drewN | apply Kd.R_drew)); exact Kd.R_mono HO_4.out (fun _ hk => hk.2)))
           (case aS => exact (below_size q3_))
           (case aL => have := LMc36.out; omega)
           intro v425 w44 ho hb hg hat
           rw [← Ny424.out] at ho
           replace BK401 := Aside0.mk (blk_grown (g := gb401) (o := .cells #[.int .i64 a0_0, .string a0_1, .string a0_2, .bool a0_3, .slice A0_4 l0_4.length c0_4, .string a0_5, .string a0_6, .slice (some ad419) l0_7.length c0_7] 29 (0, 0)) q1_ hg (Kd.R_ne HO_4.out BK401.out (by decide)))
           replace BK420 := Aside0.mk (blk_grown (g := gb420) (o := .cells #[.string ((rd_T44 l0_7 x43_1).f0), .int .i64 ((rd_T44 l0_7 x43_1).f1), .string ((rd_T44 l0_7 x43_1).f2)] 44 (0, 0)) (by (with_reducible repeat (first | refine blk_drewN ?_ _ | refine blk_drew ?_ | refine blk_alloc ?_ _)); exact BK420.out) hg (Kd.R_ne HO_4.out BK420.out (by decide)))
           replace HO423 := Aside0.mk (Kd.R_after (ok := (fun _ => True)) (by (with_reducible repeat (first | apply Kd.R_alloc | apply Kd.R_drewN | apply Kd.R_drew)); exact HO423.out) hg hat)
           replace HB := Aside0.mk (hb)
           have HO426 := Aside0.mk (ho)
           clear HO_4 ho hb hg hat
           refine hK.out _ _ ⟨(blk_cell BK420.out 0).trans rfl, (blk_cell BK420.out 1).trans rfl, (blk_cell BK420.out 2).trans rfl⟩ (fun hHeld => ?_)
           clear hK K
           refine norm_ (a' := ?_) ?_ ?_
           rotate_left
           ·show Act.put _ (some 57) _ = _
            simp only [Act.put, List.setIfInBounds_toArray, List.set_cons_zero, List.set_cons_succ, i64_w, i32_w]
            rfl
           refine pure_ (i := 11) (N := some 4) (v := ?_) (a' := ?_) #[true, true, true, true, true, true, true, true, true, true, true, true] rfl rfl (any_of HT_.out (by kernel_rfl)) (fun _ _ _ h => h) (Or.inl ⟨(by rfl), ?_⟩) ?_ ?_
           rotate_left
           ·intro w'
            go_simp
            with_reducible rfl
           rotate_left
           ·simp only [Act.put, List.setIfInBounds_toArray, List.set_cons_zero, List.set_cons_succ, i64_w, i32_w]
            rfl
           refine done_ (done_of HT_.out (by kernel_rfl)) ?_
           try go_wp2
           go_roundg k1
           case measure => have := HK1.out; omega
           case rel => exact ⟨(y424), (wrap64 (x43_1 + 1)), (by first | rfl | (simp; done) | (simp [*]; done)), H', ⟨(by have := HK1.out; omega)⟩, ⟨(by (with_reducible repeat (first | apply Kd.R_alloc | apply Kd.R_drewN | apply Kd.R_drew)); exact Kd.R_mono HO426.out (fun _ hk => trivial))⟩, ⟨q1_⟩, ⟨q3_⟩⟩
          ·rw [if_neg c36] at H
           exact absurd H (by simp)
         ·rw [if_neg c34] at H
          exact absurd H (by simp)
        ·rw [if_neg c33] at H
         exact absurd H (by simp)
       ·rw [if_neg c32] at H
        exact absurd H (by simp)
      ·rw [if_neg c31] at H
       exact absurd H (by simp)
     ·rw [if_neg c30] at H
      have c30b0 : decide (x43_1 < (l0_7.length : Int)) = false := decide_eq_false c30
      clear c30
      obtain rfl := Option.some.inj H
      go_wp2
      go_ret
      exact ⟨_, q5_, q4_, q0_⟩
end Go.Proofs.YtdhpcofnddkcaaaGreatDoor.S
namespace Go.Proofs.YtdhpcofnddkcaaaGreatDoor.S
open Go.RowKit Go.Proofs.YtdhpcofnddkcaaaGreatDoor.G Go.Proofs.YtdhpcofnddkcaaaGreatDoorW.PrintWords Go.Proofs.YtdhpcofnddkcaaaGreatDoorW.PrintLast Go.Proofs.YtdhpcofnddkcaaaGreatDoorW.PrintMore
set_option linter.unusedVariables false
set_option linter.unusedSimpArgs false
theorem dig20 (n0 : Nat) (ht : n0 ≤ 1000000) : (Lib.decDigits n0).length ≤ 20 := by
  rw [Lib.decDigits_length]
  have : ∀ (n u : Nat), u ≤ n → Lib.nDigits u ≤ u + 1 := by
    intro n
    induction n with
    | zero =>
      intro u hu
      rw [Lib.nDigits_small (by omega)]
      omega
    | succ n ih =>
      intro u hu
      by_cases h : u < 10
      · rw [Lib.nDigits_small h]; omega
      · rw [Lib.nDigits_big h]
        have := ih (u / 10) (by omega)
        omega
  have h1 : Lib.nDigits n0 ≤ 7 := by
    rcases Nat.lt_or_ge n0 1000000 with h | h
    · rcases Nat.lt_or_ge (Lib.nDigits n0) 8 with h2 | h2
      · omega
      · exfalso
        have key : ∀ (k u : Nat), k + 1 < Lib.nDigits u → 10 ^ (k + 1) ≤ u := by
          intro k
          induction k with
          | zero =>
            intro u hk
            by_cases h : u < 10
            · rw [Lib.nDigits_small h] at hk; omega
            · omega
          | succ k ih =>
            intro u hk
            by_cases h : u < 10
            · rw [Lib.nDigits_small h] at hk; omega
            · rw [Lib.nDigits_big h] at hk
              have := ih (u / 10) (by omega)
              rw [Nat.pow_succ]
              omega
        have := key 6 n0 (by omega)
        omega
    · have : n0 = 1000000 := by omega
      rw [this]
      rw [show (1000000 : Nat) = 10 ^ 6 from rfl] at *
      rw [Lib.nDigits_unique 6 _ (Nat.le_refl _) (by decide)]
      decide
  omega
theorem encB_ge (t : ByteArray) : t.size ≤ (Net.encB t).length := by
  unfold Net.encB
  rw [Net.enc_length, sz]
  show (bl t).length ≤ _ + (bl t).length + 2
  omega
theorem itoa_f (n : Nat) (h : n ≤ 1000000) : strconv_Itoa.f (n : Int) = some (Net.itoaB n) := by
  unfold strconv_Itoa.f
  rw [if_pos (by omega), Lib.itoa_nonneg]
  rfl
theorem rightS_kind {s : S29} (h : rightS s = true) : (s.f0 = 0 ∨ s.f0 = 1 ∨ s.f0 = 2) ∧ ∀ a ∈ s.f7, a.f1 = 0 ∨ a.f1 = 1 ∨ a.f1 = 2 := by
  rw [rightS_eq] at h
  obtain ⟨h1, h2⟩ := Bool.and_eq_true _ _ ▸ h
  refine ⟨?_, fun a ha => okA_kind _ (List.all_eq_true.1 h1 a ha)⟩
  unfold shapeS at h2
  split at h2
  · rename_i c; exact Or.inl c
  · split at h2
    · rename_i c; exact Or.inr (Or.inl c)
    · split at h2
      · rename_i c; exact Or.inr (Or.inr c)
      · cases h2
theorem part_f (t : ByteArray) (ht : t.size ≤ 1000000) : script_part.f t = some (Net.bs (Net.encB t)) := by
  have hz : t.size = (bl t).length := sz t
  unfold script_part.f strconv_Itoa.f
  rw [if_pos (by omega), Option.bind_some, Lib.itoa_nonneg]
  have hd := dig20 t.size ht
  have h1 : (⟨(Lib.decDigits t.size).toArray⟩ : ByteArray).size = (Lib.decDigits t.size).length := sz _
  rw [if_pos (by rw [h1]; omega), if_pos (by rw [sz_app, h1]; show _ + 1 + _ ≤ _; omega), if_pos (by rw [sz_app, sz_app, h1]; show _ + 1 + _ + 1 ≤ _; omega)]
  refine congrArg some (ba_ext ?_)
  rw [bl_app, bl_app, bl_app]
  show Lib.decDigits t.size ++ [58] ++ bl t ++ [44] = bl (Net.bs (Net.encB t))
  have : bl (Net.bs (Net.encB t)) = Net.encB t := Net.lb_bs _
  rw [this]
  unfold Net.encB Net.enc
  rw [hz]
  simp
theorem tnm_enc (k : Int) (h : k = 0 ∨ k = 1 ∨ k = 2) : Utf8.encode (bt (⟨#[116, 110, 109]⟩ : ByteArray) k) = Net.tnm k := by
  rcases h with rfl | rfl | rfl <;> decide
theorem parts_l0 (l : List S44) (hl : l.length ≤ 1000000) (hk : ∀ a ∈ l, a.f1 = 0 ∨ a.f1 = 1 ∨ a.f1 = 2) : ∀ (d i : Nat) (acc : List ByteArray), l.length - i ≤ d → i ≤ l.length → acc.length ≤ 10 + 3 * i → ∀ k, d + 1 ≤ k →
    script_Step_parts.l0 k acc l (l.length : Int) (i : Int) = some (acc ++ Net.argsT ((l.drop i).map toAr)) := by
  intro d
  induction d with
  | zero =>
    intro i acc h1 h2 h3 k hkk
    obtain ⟨m, rfl⟩ : ∃ m, k = m + 1 := ⟨k - 1, by omega⟩
    rw [script_Step_parts.l0, if_neg (by omega), List.drop_of_length_le (by omega)]
    show _ = some (acc ++ [])
    rw [List.append_nil]
  | succ d ih =>
    intro i acc h1 h2 h3 k hkk
    obtain ⟨m, rfl⟩ : ∃ m, k = m + 1 := ⟨k - 1, by omega⟩
    by_cases hi : i < l.length
    · have hki := hk _ (List.getElem_mem hi)
      rw [script_Step_parts.l0, if_pos (by omega), if_pos (by omega), if_pos (by omega), rd44 l i hi, if_pos (by omega), if_pos (by omega), Option.bind_some, if_pos (by show acc.length + 3 < _; omega), tnm_enc _ hki, w64 _ (by omega) (by omega),
        show (i : Int) + 1 = ((i + 1 : Nat) : Int) by omega, ih (i + 1) _ (by omega) (by omega) (by rw [List.length_append]; show _ + 3 ≤ _; omega) m (by omega), List.drop_eq_getElem_cons hi, List.map_cons, Net.argsT_cons, List.append_assoc]
      rfl
    · rw [script_Step_parts.l0, if_neg (by omega), List.drop_of_length_le (by omega)]
      show _ = some (acc ++ [])
      rw [List.append_nil]
theorem parts_f (s : S29) (hr : rightS s = true) (hl : s.f7.length ≤ 1000000) (hw : s.f4.length ≤ 1000000) (k : Nat) (hk : s.f7.length + 2 ≤ k) :
    script_Step_parts.f k s.f0 s.f1 s.f2 s.f3 s.f4 s.f5 s.f6 s.f7 = some (Net.parts (toSt s)) := by
  obtain ⟨hk0, hk7⟩ := rightS_kind hr
  obtain ⟨f0, f1, f2, f3, f4, f5, f6, f7⟩ := s
  simp only at *
  unfold script_Step_parts.f
  show _ = some (if f0 = 0 then [Net.cA, f1, if f3 = true then Net.c1 else Net.c0, f2] else if f0 = 1 then [Net.cC, f1, Net.itoaB f4.length] ++ f4 else [Net.cQ, f5, f6, Net.itoaB (f7.map toAr).length] ++ Net.argsT (f7.map toAr))
  by_cases h0 : f0 = 0
  · rw [if_pos h0, if_pos h0]
    cases f3 <;> rfl
  · rw [if_neg h0, if_neg h0]
    by_cases h1 : f0 = 1
    · rw [if_pos h1, if_pos h1, itoa_f _ (by omega), Option.bind_some, Option.bind_some, if_pos (by show 3 + _ < _; omega)]
      rfl
    · rw [if_neg h1, if_neg h1, itoa_f _ (by omega), Option.bind_some, List.length_map]
      have := parts_l0 f7 (by omega) hk7 f7.length 0 [(⟨#[113]⟩ : ByteArray), f5, f6, Net.itoaB f7.length] (by omega) (by omega) (by show 4 ≤ 10 + 3 * 0; omega) k (by omega)
      rw [List.drop_zero] at this
      exact this
theorem toSt_of (s : Net.St) : toSt (ofSt s) = s := by
  obtain ⟨k, tag, by_, ov, ws, nm, at_, ags⟩ := s
  show (k, tag, by_, ov, ws, nm, at_, (ags.map ofAr).map toAr) = _
  rw [List.map_map]
  have : (toAr ∘ ofAr) = id := rfl
  rw [this, List.map_id]
end Go.Proofs.YtdhpcofnddkcaaaGreatDoor.S
namespace Go.Proofs.YtdhpcofnddkcaaaGreatDoor.S
open Go.RowKit Go.Proofs.YtdhpcofnddkcaaaGreatDoor.G Go.Proofs.YtdhpcofnddkcaaaGreatDoorW.PrintWords Go.Proofs.YtdhpcofnddkcaaaGreatDoorW.PrintLast Go.Proofs.YtdhpcofnddkcaaaGreatDoorW.PrintMore
attribute [local go_sem] max2_int min2_int max_two min_two max_three min_three max_four min_four
set_option linter.unusedVariables false
set_option linter.unusedSimpArgs false
namespace Sx13
theorem cellsF3 {w : World} {g : Nat} {t : TypeId} {a0 a1 a2 : Value} (h : w.heap[g]? = some (.cells #[a0, a1, a2] t (0, 0))) : w.cell? ⟨g, 0, none⟩ = some a0 ∧ w.cell? ⟨g, 1, none⟩ = some a1 ∧ w.cell? ⟨g, 2, none⟩ = some a2 ∧ w.frozen? ⟨g, 0, none⟩ = false ∧ w.frozen? ⟨g, 1, none⟩ = false ∧ w.frozen? ⟨g, 2, none⟩ = false := ⟨(blk_cell h 0).trans rfl, (blk_cell h 1).trans rfl, (blk_cell h 2).trans rfl, blk_frozen h 0, blk_frozen h 1, blk_frozen h 2⟩
theorem cellsF8 {w : World} {g : Nat} {t : TypeId} {a0 a1 a2 a3 a4 a5 a6 a7 : Value} (h : w.heap[g]? = some (.cells #[a0, a1, a2, a3, a4, a5, a6, a7] t (0, 0))) : w.cell? ⟨g, 0, none⟩ = some a0 ∧ w.cell? ⟨g, 1, none⟩ = some a1 ∧ w.cell? ⟨g, 2, none⟩ = some a2 ∧ w.cell? ⟨g, 3, none⟩ = some a3 ∧ w.cell? ⟨g, 4, none⟩ = some a4 ∧ w.cell? ⟨g, 5, none⟩ = some a5 ∧ w.cell? ⟨g, 6, none⟩ = some a6 ∧ w.cell? ⟨g, 7, none⟩ = some a7 ∧ w.frozen? ⟨g, 0, none⟩ = false ∧ w.frozen? ⟨g, 1, none⟩ = false ∧ w.frozen? ⟨g, 2, none⟩ = false ∧ w.frozen? ⟨g, 3, none⟩ = false ∧ w.frozen? ⟨g, 4, none⟩ = false ∧ w.frozen? ⟨g, 5, none⟩ = false ∧ w.frozen? ⟨g, 6, none⟩ = false ∧ w.frozen? ⟨g, 7, none⟩ = false := ⟨(blk_cell h 0).trans rfl, (blk_cell h 1).trans rfl, (blk_cell h 2).trans rfl, (blk_cell h 3).trans rfl, (blk_cell h 4).trans rfl, (blk_cell h 5).trans rfl, (blk_cell h 6).trans rfl, (blk_cell h 7).trans rfl, blk_frozen h 0, blk_frozen h 1, blk_frozen h 2, blk_frozen h 3, blk_frozen h 4, blk_frozen h 5, blk_frozen h 6, blk_frozen h 7⟩
theorem cellsF12 {w : World} {g : Nat} {t : TypeId} {a0 a1 a2 a3 a4 a5 a6 a7 a8 a9 a10 a11 : Value} (h : w.heap[g]? = some (.cells #[a0, a1, a2, a3, a4, a5, a6, a7, a8, a9, a10, a11] t (0, 0))) : w.cell? ⟨g, 0, none⟩ = some a0 ∧ w.cell? ⟨g, 1, none⟩ = some a1 ∧ w.cell? ⟨g, 2, none⟩ = some a2 ∧ w.cell? ⟨g, 3, none⟩ = some a3 ∧ w.cell? ⟨g, 4, none⟩ = some a4 ∧ w.cell? ⟨g, 5, none⟩ = some a5 ∧ w.cell? ⟨g, 6, none⟩ = some a6 ∧ w.cell? ⟨g, 7, none⟩ = some a7 ∧ w.cell? ⟨g, 8, none⟩ = some a8 ∧ w.cell? ⟨g, 9, none⟩ = some a9 ∧ w.cell? ⟨g, 10, none⟩ = some a10 ∧ w.cell? ⟨g, 11, none⟩ = some a11 ∧ w.frozen? ⟨g, 0, none⟩ = false ∧ w.frozen? ⟨g, 1, none⟩ = false ∧ w.frozen? ⟨g, 2, none⟩ = false ∧ w.frozen? ⟨g, 3, none⟩ = false ∧ w.frozen? ⟨g, 4, none⟩ = false ∧ w.frozen? ⟨g, 5, none⟩ = false ∧ w.frozen? ⟨g, 6, none⟩ = false ∧ w.frozen? ⟨g, 7, none⟩ = false ∧ w.frozen? ⟨g, 8, none⟩ = false ∧ w.frozen? ⟨g, 9, none⟩ = false ∧ w.frozen? ⟨g, 10, none⟩ = false ∧ w.frozen? ⟨g, 11, none⟩ = false := ⟨(blk_cell h 0).trans rfl, (blk_cell h 1).trans rfl, (blk_cell h 2).trans rfl, (blk_cell h 3).trans rfl, (blk_cell h 4).trans rfl, (blk_cell h 5).trans rfl, (blk_cell h 6).trans rfl, (blk_cell h 7).trans rfl, (blk_cell h 8).trans rfl, (blk_cell h 9).trans rfl, (blk_cell h 10).trans rfl, (blk_cell h 11).trans rfl, blk_frozen h 0, blk_frozen h 1, blk_frozen h 2, blk_frozen h 3, blk_frozen h 4, blk_frozen h 5, blk_frozen h 6, blk_frozen h 7, blk_frozen h 8, blk_frozen h 9, blk_frozen h 10, blk_frozen h 11⟩
theorem q0_ {p_ : Prop} (h_ : p_ := by repeat (first | (with_reducible first | exact HB.out | apply below_alloc | apply pw_below_drewN | apply below_drew1 | refine below_set ?_ GE256.out) | exact HB.out)) : p_ := h_
theorem q1_ {p_ : Prop} (h_ : p_ := by (with_reducible repeat (first | refine blk_drewN ?_ _ | refine blk_drew ?_ | refine blk_alloc ?_ _)); exact BK256.out) : p_ := h_
theorem q2_ {p_ : Prop} (h_ : p_ := by repeat (first | (with_reducible first | exact HB.out | apply below_alloc | apply pw_below_drewN | apply below_drew1 | refine below_set ?_ GE256.out | refine below_set ?_ GE258.out) | exact HB.out)) : p_ := h_
theorem q3_ {p_ : Prop} (h_ : p_ := by (with_reducible repeat (first | refine blk_drewN ?_ _ | refine blk_drew ?_ | refine blk_alloc ?_ _)); refine blk_put (cs := #[.string ((rd_T44 l0_7 x12_1).f0), .int .i64 ((rd_T44 l0_7 x12_1).f1), .string (⟨#[]⟩ : ByteArray)]) ?_ 2 _ rfl; (with_reducible repeat (first | refine blk_drewN ?_ _ | refine blk_drew ?_ | refine blk_alloc ?_ _)); refine blk_put (cs := #[.string ((rd_T44 l0_7 x12_1).f0), .int .i64 0, .string (⟨#[]⟩ : ByteArray)]) ?_ 1 _ rfl; (with_reducible repeat (first | refine blk_drewN ?_ _ | refine blk_drew ?_ | refine blk_alloc ?_ _)); refine blk_put (cs := #[.string (⟨#[]⟩ : ByteArray), .int .i64 0, .string (⟨#[]⟩ : ByteArray)]) ?_ 0 _ rfl; (with_reducible repeat (first | refine blk_drewN ?_ _ | refine blk_drew ?_ | refine blk_alloc ?_ _)); exact BK258.out) : p_ := h_
theorem q4_ {p_ : Prop} (h_ : p_ := by first | rfl | (simp [errW_none, errW_some] <;> rfl) | (simp [*, errW_none, errW_some] <;> rfl)) : p_ := h_
theorem q5_ {p_ : Prop} (h_ : p_ := by rw [hg]; exact Nat.ne_of_lt (blk_lt (g := gb256) (o := .cells #[.int .i64 a0_0, .string a0_1, .string a0_2, .bool a0_3, .slice A0_4 l0_4.length c0_4, .string a0_5, .string a0_6, .slice (some ad257) l0_7.length c0_7] 29 (0, 0)) q1_)) : p_ := h_
theorem q6_ {p_ : Prop} (h_ : p_ := by rw [hg]; exact Nat.ne_of_gt (blk_lt (g := gb256) (o := .cells #[.int .i64 a0_0, .string a0_1, .string a0_2, .bool a0_3, .slice A0_4 l0_4.length c0_4, .string a0_5, .string a0_6, .slice (some ad257) l0_7.length c0_7] 29 (0, 0)) q1_)) : p_ := h_
theorem q7_ {p_ : Prop} (h_ : p_ := by (with_reducible repeat (first | refine blk_drewN ?_ _ | refine blk_drew ?_ | refine blk_alloc ?_ _)); exact BK258.out) : p_ := h_
theorem q8_ {p_ : Prop} (h_ : p_ := by (with_reducible repeat (first | refine blk_drewN ?_ _ | refine blk_drew ?_ | refine blk_alloc ?_ _)); refine blk_far ?_ NB256_258.out _; (with_reducible repeat (first | refine blk_drewN ?_ _ | refine blk_drew ?_ | refine blk_alloc ?_ _)); refine blk_far ?_ NB256_258.out _; (with_reducible repeat (first | refine blk_drewN ?_ _ | refine blk_drew ?_ | refine blk_alloc ?_ _)); refine blk_far ?_ NB256_258.out _; (with_reducible repeat (first | refine blk_drewN ?_ _ | refine blk_drew ?_ | refine blk_alloc ?_ _)); exact BK256.out) : p_ := h_
theorem q9_ {p_ : Prop} (h_ : p_ := by first | rfl | (simp; done) | (simp [*]; done)) : p_ := h_
theorem q10_ {p_ : Prop} (h_ : p_ := by repeat (first | (with_reducible first | exact HB.out | apply below_alloc | apply pw_below_drewN | apply below_drew1) | exact HB.out)) : p_ := h_
theorem q11_ {p_ : Prop} (h_ : p_ := by repeat (first | (with_reducible first | exact HB.out | apply below_alloc | apply pw_below_drewN | apply below_drew1 | refine below_set ?_ GE256.out | refine below_set ?_ GE258.out | refine below_set ?_ GE272.out) | exact HB.out)) : p_ := h_
theorem q12_ {p_ : Prop} (h_ : p_ := by rw [hg]; exact Nat.ne_of_lt (blk_lt (g := gb258) (o := .cells #[.string ((rd_T44 l0_7 x12_1).f0), .int .i64 ((rd_T44 l0_7 x12_1).f1), .string ((rd_T44 l0_7 x12_1).f2)] 44 (0, 0)) q7_)) : p_ := h_
theorem q13_ {p_ : Prop} (h_ : p_ := by rw [hg]; exact Nat.ne_of_gt (blk_lt (g := gb258) (o := .cells #[.string ((rd_T44 l0_7 x12_1).f0), .int .i64 ((rd_T44 l0_7 x12_1).f1), .string ((rd_T44 l0_7 x12_1).f2)] 44 (0, 0)) q7_)) : p_ := h_
theorem q14_ {p_ : Prop} (h_ : p_ := by first | (with_reducible assumption) | assumption) : p_ := h_
theorem q15_ {p_ : Prop} (h_ : p_ := by (try simp only [List.map_toArray, List.map_cons, List.map_nil]); first | done | rfl | (simp only [List.length_drop, List.length_take]; rfl)) : p_ := h_
theorem u0_ {p_ : Prop} (h_ : p_ := by first | (go_simp; done) | (go_simp; rfl)) : p_ := h_
end Sx13
open Sx13
mutual
def polyglotlaw18_Right.l0 : Nat → List (S44) → Int → Int → Int → ByteArray → ByteArray → Bool → List ByteArray → ByteArray → ByteArray → List (S44) → Option (Bool)
 | 0, _, _, _, _, _, _, _, _, _, _, _ => none
 | k + 1, x10, x11, x12, x257000, x257001, x257002, x257003, x257004, x257005, x257006, x257007 => if x12 < x11 then (if 0 ≤ x12 then (if x12 < (x10.length : Int) then ((polyglotlaw18_Value.f k ((rd_T44 x10 x12).f0) ((rd_T44 x10 x12).f1) ((rd_T44 x10 x12).f2)).bind fun bt259 => (if bt259.2.2.2.2.2.2.2.2.2.2.2.2 = true then (polyglotlaw18_Right.l0 k x10 x11 (wrap64 (x12 + 1)) x257000 x257001 x257002 x257003 x257004 x257005 x257006 x257007) else (some false))) else (none)) else (none)) else (if x257005.toList = ([] : List UInt8) then (if x257006.toList = ([] : List UInt8) then (polyglotlaw18_Right.j1 k (decide ((x257007.length : Int) > 0)) x257000 x257001 x257002 x257003 x257004 x257005 x257006 x257007) else (polyglotlaw18_Right.j1 k true x257000 x257001 x257002 x257003 x257004 x257005 x257006 x257007)) else (polyglotlaw18_Right.j1 k true x257000 x257001 x257002 x257003 x257004 x257005 x257006 x257007))
def polyglotlaw18_Right.j1 : Nat → Bool → Int → ByteArray → ByteArray → Bool → List ByteArray → ByteArray → ByteArray → List (S44) → Option (Bool)
 | 0, _, _, _, _, _, _, _, _, _ => none
 | k + 1, x7, x257000, x257001, x257002, x257003, x257004, x257005, x257006, x257007 => if x257002.toList = ([] : List UInt8) then (polyglotlaw18_Right.j2 k x7 x257003 x257000 x257001 x257002 x257003 x257004 x257005 x257006 x257007) else (polyglotlaw18_Right.j2 k x7 true x257000 x257001 x257002 x257003 x257004 x257005 x257006 x257007)
def polyglotlaw18_Right.j2 : Nat → Bool → Bool → Int → ByteArray → ByteArray → Bool → List ByteArray → ByteArray → ByteArray → List (S44) → Option (Bool)
 | 0, _, _, _, _, _, _, _, _, _, _ => none
 | k + 1, x7, x8, x257000, x257001, x257002, x257003, x257004, x257005, x257006, x257007 => if x257000 = 0 then (if x7 = true then (some false) else (some ((x257004.length : Int) == 0))) else (if x257000 = 1 then (if x7 = true then (some false) else (some (!x8))) else (if x257000 = 2 then (if x8 = true then (some false) else (if x257001.toList = ([] : List UInt8) then (some ((x257004.length : Int) == 0)) else (some false))) else (some false)))
end
def polyglotlaw18_Right.f (k : Nat) (a0_0 : Int) (a0_1 : ByteArray) (a0_2 : ByteArray) (a0_3 : Bool) (l0_4 : List ByteArray) (a0_5 : ByteArray) (a0_6 : ByteArray) (l0_7 : List (S44)) : Option (Bool) := polyglotlaw18_Right.l0 k l0_7 (l0_7.length : Int) 0 a0_0 a0_1 a0_2 a0_3 l0_4 a0_5 a0_6 l0_7
theorem polyglotlaw18_Right.mono_l : ∀ k, (∀ y0 y1 y2 y3 y4 y5 y6 y7 y8 y9 y10, LeO (polyglotlaw18_Right.l0 k y0 y1 y2 y3 y4 y5 y6 y7 y8 y9 y10) (polyglotlaw18_Right.l0 (k + 1) y0 y1 y2 y3 y4 y5 y6 y7 y8 y9 y10)) ∧ (∀ y0 y1 y2 y3 y4 y5 y6 y7 y8, LeO (polyglotlaw18_Right.j1 k y0 y1 y2 y3 y4 y5 y6 y7 y8) (polyglotlaw18_Right.j1 (k + 1) y0 y1 y2 y3 y4 y5 y6 y7 y8)) ∧ (∀ y0 y1 y2 y3 y4 y5 y6 y7 y8 y9, LeO (polyglotlaw18_Right.j2 k y0 y1 y2 y3 y4 y5 y6 y7 y8 y9) (polyglotlaw18_Right.j2 (k + 1) y0 y1 y2 y3 y4 y5 y6 y7 y8 y9))
 | 0 => ⟨fun _ _ _ _ _ _ _ _ _ _ _ r h => by simp [polyglotlaw18_Right.l0] at h, fun _ _ _ _ _ _ _ _ _ r h => by simp [polyglotlaw18_Right.j1] at h, fun _ _ _ _ _ _ _ _ _ _ r h => by simp [polyglotlaw18_Right.j2] at h⟩
 | k + 1 => by
  obtain ⟨ih0, ih1, ih2⟩ := polyglotlaw18_Right.mono_l k
  refine ⟨?_, ?_, ?_⟩
  ·intro y0 y1 y2 y3 y4 y5 y6 y7 y8 y9 y10
   unfold polyglotlaw18_Right.l0
   repeat' first
   | (with_reducible exact ih0 _ _ _ _ _ _ _ _ _ _ _)
   | (with_reducible exact ih1 _ _ _ _ _ _ _ _ _)
   | (with_reducible exact ih2 _ _ _ _ _ _ _ _ _ _)
   | (with_reducible exact polyglotlaw18_Value.mono _ _ _ _)
   | (with_reducible exact LeO.refl _)
   | (with_reducible exact LeO.none _)
   | (with_reducible refine LeO.ite ?_ ?_)
   | (with_reducible refine LeO.bind ?_ (fun _ => ?_))
   | exact ih0 _ _ _ _ _ _ _ _ _ _ _
   | exact ih1 _ _ _ _ _ _ _ _ _
   | exact ih2 _ _ _ _ _ _ _ _ _ _
   | exact polyglotlaw18_Value.mono _ _ _ _
   | exact LeO.none _
   | refine LeO.ite ?_ ?_
   | refine LeO.bind ?_ (fun _ => ?_)
  ·intro y0 y1 y2 y3 y4 y5 y6 y7 y8
   unfold polyglotlaw18_Right.j1
   repeat' first
   | (with_reducible exact ih0 _ _ _ _ _ _ _ _ _ _ _)
   | (with_reducible exact ih1 _ _ _ _ _ _ _ _ _)
   | (with_reducible exact ih2 _ _ _ _ _ _ _ _ _ _)
   | (with_reducible exact polyglotlaw18_Value.mono _ _ _ _)
   | (with_reducible exact LeO.refl _)
   | (with_reducible exact LeO.none _)
   | (with_reducible refine LeO.ite ?_ ?_)
   | (with_reducible refine LeO.bind ?_ (fun _ => ?_))
   | exact ih0 _ _ _ _ _ _ _ _ _ _ _
   | exact ih1 _ _ _ _ _ _ _ _ _
   | exact ih2 _ _ _ _ _ _ _ _ _ _
   | exact polyglotlaw18_Value.mono _ _ _ _
   | exact LeO.none _
   | refine LeO.ite ?_ ?_
   | refine LeO.bind ?_ (fun _ => ?_)
  ·intro y0 y1 y2 y3 y4 y5 y6 y7 y8 y9
   unfold polyglotlaw18_Right.j2
   repeat' first
   | (with_reducible exact ih0 _ _ _ _ _ _ _ _ _ _ _)
   | (with_reducible exact ih1 _ _ _ _ _ _ _ _ _)
   | (with_reducible exact ih2 _ _ _ _ _ _ _ _ _ _)
   | (with_reducible exact polyglotlaw18_Value.mono _ _ _ _)
   | (with_reducible exact LeO.refl _)
   | (with_reducible exact LeO.none _)
   | (with_reducible refine LeO.ite ?_ ?_)
   | (with_reducible refine LeO.bind ?_ (fun _ => ?_))
   | exact ih0 _ _ _ _ _ _ _ _ _ _ _
   | exact ih1 _ _ _ _ _ _ _ _ _
   | exact ih2 _ _ _ _ _ _ _ _ _ _
   | exact polyglotlaw18_Value.mono _ _ _ _
   | exact LeO.none _
   | refine LeO.ite ?_ ?_
   | refine LeO.bind ?_ (fun _ => ?_)
theorem polyglotlaw18_Right.mono : ∀ a0 a1 a2 a3 a4 a5 a6 a7 k, LeO (polyglotlaw18_Right.f k a0 a1 a2 a3 a4 a5 a6 a7) (polyglotlaw18_Right.f (k + 1) a0 a1 a2 a3 a4 a5 a6 a7) := by
 intro a0 a1 a2 a3 a4 a5 a6 a7 k
 obtain ⟨ih0, ih1, ih2⟩ := polyglotlaw18_Right.mono_l k
 unfold polyglotlaw18_Right.f
 repeat' first
   | (with_reducible exact ih0 _ _ _ _ _ _ _ _ _ _ _)
   | (with_reducible exact ih1 _ _ _ _ _ _ _ _ _)
   | (with_reducible exact ih2 _ _ _ _ _ _ _ _ _ _)
   | (with_reducible exact polyglotlaw18_Value.mono _ _ _ _)
   | (with_reducible exact LeO.refl _)
   | (with_reducible exact LeO.none _)
   | (with_reducible refine LeO.ite ?_ ?_)
   | (with_reducible refine LeO.bind ?_ (fun _ => ?_))
   | exact ih0 _ _ _ _ _ _ _ _ _ _ _
   | exact ih1 _ _ _ _ _ _ _ _ _
   | exact ih2 _ _ _ _ _ _ _ _ _ _
   | exact polyglotlaw18_Value.mono _ _ _ _
   | exact LeO.none _
   | refine LeO.ite ?_ ?_
   | refine LeO.bind ?_ (fun _ => ?_)
set_option maxHeartbeats 8000000 in
set_option maxRecDepth 100000 in
theorem polyglotlaw18_Right.calls (k : Nat) (a0_0 : Int) (a0_1 : ByteArray) (a0_2 : ByteArray) (a0_3 : Bool) (A0_4 : Option Addr) (c0_4 : Nat) (l0_4 : List ByteArray) (a0_5 : ByteArray) (a0_6 : ByteArray) (A0_7 : Option Addr) (c0_7 : Nat) (l0_7 : List (S44)) (r : Bool) (w : World) (hr0_4 : Kd.C Kd.string w A0_4 l0_4.length l0_4) (hc0_4 : l0_4.length ≤ c0_4) (hr0_7 : Kd.C k44 w A0_7 l0_7.length l0_7) (hc0_7 : l0_7.length ≤ c0_7) (h : polyglotlaw18_Right.f k a0_0 a0_1 a0_2 a0_3 l0_4 a0_5 a0_6 l0_7 = some r) :
  Calls Tryz.prog 12 #[.agg #[.int .i64 a0_0, .string a0_1, .string a0_2, .bool a0_3, .slice A0_4 l0_4.length c0_4, .string a0_5, .string a0_6, .slice A0_7 l0_7.length c0_7]] w fun e w' => e = .returned (.bool r) ∧ Below w.heap.size w w' := by
 have hu29 := Tryz.underlying29
 have hu44 := Tryz.underlying44
 have hu51 := Tryz.underlying51
 have HR0_4 := Aside0.mk hr0_4
 have HC0_4 := Aside0.mk hc0_4
 clear hr0_4 hc0_4
 have HR0_7 := Aside0.mk hr0_7
 have HC0_7 := Aside0.mk hc0_7
 clear hr0_7 hc0_7
 have HB := Aside0.mk (Below.refl w.heap.size w)
 have H : (polyglotlaw18_Right.l0 k l0_7 (l0_7.length : Int) 0 a0_0 a0_1 a0_2 a0_3 l0_4 a0_5 a0_6 l0_7) = some r := h
 clear h
 have H' := Aside0.mk H
 clear H
 go_enter Tryz.func12, Tryz.ntmps12
 go_wp2_with (first | ((with_reducible refine gate_dst (N := 1) rfl ?_); (try (refine gate_guard (by rfl) ?_; dsimp only)); refine box_event ?hg (N := 1) ?hd (cs := #[.int .i64 a0_0, .string a0_1, .string a0_2, .bool a0_3, .slice A0_4 l0_4.length c0_4, .string a0_5, .string a0_6, .slice A0_7 l0_7.length c0_7]) (t := 29) ?hr ?_; (case hd => rfl); (case hg => rfl); (case hr => exact u0_); intro gb256 hg w2 hbox hb; have BK256 := Aside0.mk (hbox); have GW256 := Aside0.mk (((by rw [hg]; exact (below_size q10_)) : w.heap.size ≤ gb256)); have GE256 := Aside0.mk (((by rw [hg]; exact (below_size q10_)) : w.heap.size ≤ gb256)); replace HB := Aside0.mk (below_step q10_ hb); clear hb hbox hg; obtain ⟨hcz3_0, hcz3_1, hcz3_2, hcz3_3, hcz3_4, hcz3_5, hcz3_6, hcz3_7, hfz3_0, hfz3_1, hfz3_2, hfz3_3, hfz3_4, hfz3_5, hfz3_6, hfz3_7⟩ := cellsF8 BK256.out))
 go_loopg [12] k (fun kq v12 w' => ∃ (x12_1 : Int), v12 = .int .i64 x12_1 ∧ Aside0 (polyglotlaw18_Right.l0 kq l0_7 (l0_7.length : Int) x12_1 a0_0 a0_1 a0_2 a0_3 l0_4 a0_5 a0_6 l0_7 = some r) ∧ Aside0 (kq ≤ k) ∧ Aside0 (w'.heap[gb256]? = some (.cells #[.int .i64 a0_0, .string a0_1, .string a0_2, .bool a0_3, (.slice A0_4 l0_4.length c0_4), .string a0_5, .string a0_6, (.slice A0_7 l0_7.length c0_7)] 29 (0, 0))) ∧ Aside0 (Below w.heap.size w w'))
 case atStart => exact ⟨(0), q9_, H', ⟨Nat.le_refl _⟩, ⟨q1_⟩, ⟨q0_⟩⟩
 case round =>
  clear H'
  try clear c1
  try clear p2
  try clear hcz3_0 hcz3_1 hcz3_2 hcz3_3 hcz3_4 hcz3_5 hcz3_6 hcz3_7
  try clear hfz3_0 hfz3_1 hfz3_2 hfz3_3 hfz3_4 hfz3_5 hfz3_6 hfz3_7
  obtain ⟨x12_1, rfl, HA, HK1, BK256, HB⟩ := hrel
  cases gk with
  | zero => exact absurd HA.out (by simp [polyglotlaw18_Right.l0])
  | succ k1 =>
   have H := HA.out
   clear HA
   simp only [polyglotlaw18_Right.l0] at H
   by_cases c4 : x12_1 < (l0_7.length : Int)
   ·rw [if_pos c4] at H
    have c4b0 : decide (x12_1 < (l0_7.length : Int)) = true := decide_eq_true c4
    clear c4
    by_cases c5 : 0 ≤ x12_1
    ·rw [if_pos c5] at H
     have c5b0 : decide (0 ≤ x12_1) = true := decide_eq_true c5
     clear c5
     by_cases c6 : x12_1 < (l0_7.length : Int)
     ·rw [if_pos c6] at H
      have c6b0 : decide (x12_1 < (l0_7.length : Int)) = true := decide_eq_true c6
      clear c6
      replace H := Option.bind_eq_some_iff.mp H
      obtain ⟨⟨t259, t260, t261, t262, t263, t264, t265, t266, t267, t268, t269, t270, t271⟩, A70, H⟩ := H
      replace H : (if t271 = true then (polyglotlaw18_Right.l0 k1 l0_7 (l0_7.length : Int) (wrap64 (x12_1 + 1)) a0_0 a0_1 a0_2 a0_3 l0_4 a0_5 a0_6 l0_7) else (some false)) = some r := H
      have A7 := Aside0.mk A70
      clear A70
      by_cases c8 : t271 = true
      ·subst c8
       have H1 : (polyglotlaw18_Right.l0 k1 l0_7 (l0_7.length : Int) (wrap64 (x12_1 + 1)) a0_0 a0_1 a0_2 a0_3 l0_4 a0_5 a0_6 l0_7) = some r := by rw [if_pos rfl] at H; exact H
       clear H
       have H := H1
       clear H1
       have H' := Aside0.mk H
       clear H
       have p257 : 0 ≤ (x12_1 : Int) := of_decide_eq_true q14_
       have q257 : x12_1 < (l0_7.length : Int) := of_decide_eq_true q14_
       obtain ⟨ad257, e257, hx257_0, hx257_1, hx257_2⟩ := at_T44 HR0_7.out x12_1 p257 q257
       cases e257
       replace hx257_0 := (HB.out.cell (World.block_lt_of_cell? w _ hx257_0)).trans hx257_0
       replace hx257_1 := (HB.out.cell (World.block_lt_of_cell? w _ hx257_1)).trans hx257_1
       replace hx257_2 := (HB.out.cell (World.block_lt_of_cell? w _ hx257_2)).trans hx257_2
       replace p257 := eq_true p257
       replace q257 := eq_true q257
       go_wp2_with (first | ((with_reducible refine gate_dst (N := 4) rfl ?_); (try (refine gate_guard (by rfl) ?_; dsimp only)); refine box_event ?hg (N := 4) ?hd (cs := #[.string (⟨#[]⟩ : ByteArray), .int .i64 0, .string (⟨#[]⟩ : ByteArray)]) (t := 44) ?hr ?_; (case hd => rfl); (case hg => rfl); (case hr => exact u0_); intro gb258 hg w9 hbox hb; have BK258 := Aside0.mk (hbox); have GW258 := Aside0.mk (((by rw [hg]; exact (below_size q0_)) : w.heap.size ≤ gb258)); have GE258 := Aside0.mk (((by rw [hg]; exact (below_size q0_)) : w.heap.size ≤ gb258)); replace HB := Aside0.mk (below_step q0_ hb); have NB256_258 := Aside0.mk ((q5_ : gb256 ≠ gb258)); have NB258_256 := Aside0.mk ((q6_ : gb258 ≠ gb256)); replace BK256 := Aside0.mk (blk_below (g := gb256) (o := .cells #[.int .i64 a0_0, .string a0_1, .string a0_2, .bool a0_3, .slice A0_4 l0_4.length c0_4, .string a0_5, .string a0_6, .slice (some ad257) l0_7.length c0_7] 29 (0, 0)) q1_ hb); clear hb hbox hg; have hnb10 := NB258_256.out; have hnc10 := NB256_258.out; obtain ⟨hcz11_0, hcz11_1, hcz11_2, hfz11_0, hfz11_1, hfz11_2⟩ := cellsF3 BK258.out) | ((with_reducible refine gate_callee (f := 18) rfl ?_); refine goesL_ (some 18) rfl rfl Tryz.func18 (by kernel_rfl) rfl #[.agg #[.string ((rd_T44 l0_7 x12_1).f0), .int .i64 ((rd_T44 l0_7 x12_1).f1), .string ((rd_T44 l0_7 x12_1).f2)]] rfl q15_ ?_; (with_reducible refine (polyglotlaw18_Value.calls k1 ((rd_T44 l0_7 x12_1).f0) ((rd_T44 l0_7 x12_1).f1) ((rd_T44 l0_7 x12_1).f2) t259 t260 t261 t262 t263 t264 t265 t266 t267 t268 t269 t270 true _ A7.out).mono ?_); rintro e w12 ⟨rfl, hb⟩; refine ⟨_, rfl, ?_⟩; replace BK256 := Aside0.mk (blk_below (g := gb256) (o := .cells #[.int .i64 a0_0, .string a0_1, .string a0_2, .bool a0_3, .slice A0_4 l0_4.length c0_4, .string a0_5, .string a0_6, .slice (some ad257) l0_7.length c0_7] 29 (0, 0)) q8_ hb); replace BK258 := Aside0.mk (blk_below (g := gb258) (o := .cells #[.string ((rd_T44 l0_7 x12_1).f0), .int .i64 ((rd_T44 l0_7 x12_1).f1), .string ((rd_T44 l0_7 x12_1).f2)] 44 (0, 0)) q3_ hb); replace HB := Aside0.mk (below_step q2_ hb); (try clear hb); (try clear hb2); (try clear hk); (try clear hi)) | ((with_reducible refine gate_dst (N := 5) rfl ?_); (try (refine gate_guard (by rfl) ?_; dsimp only)); refine box_event ?hg (N := 5) ?hd (cs := #[.int .i64 0, .string (⟨#[]⟩ : ByteArray), .bool false, .string (⟨#[]⟩ : ByteArray), .int .i64 0, .int .i64 0, .int .i64 0, .int .i64 0, .bool false, .bool false, .int .i64 0, .int .i64 0]) (t := 51) ?hr ?_; (case hd => rfl); (case hg => rfl); (case hr => exact u0_); intro gb272 hg w13 hbox hb; have BK272 := Aside0.mk (hbox); have GW272 := Aside0.mk (((by rw [hg]; exact (below_size q2_)) : w.heap.size ≤ gb272)); have GE272 := Aside0.mk (((by rw [hg]; exact (below_size q2_)) : w.heap.size ≤ gb272)); replace HB := Aside0.mk (below_step q2_ hb); have NB256_272 := Aside0.mk ((q5_ : gb256 ≠ gb272)); have NB272_256 := Aside0.mk ((q6_ : gb272 ≠ gb256)); replace BK256 := Aside0.mk (blk_below (g := gb256) (o := .cells #[.int .i64 a0_0, .string a0_1, .string a0_2, .bool a0_3, .slice A0_4 l0_4.length c0_4, .string a0_5, .string a0_6, .slice (some ad257) l0_7.length c0_7] 29 (0, 0)) q1_ hb); have NB258_272 := Aside0.mk ((q12_ : gb258 ≠ gb272)); have NB272_258 := Aside0.mk ((q13_ : gb272 ≠ gb258)); replace BK258 := Aside0.mk (blk_below (g := gb258) (o := .cells #[.string ((rd_T44 l0_7 x12_1).f0), .int .i64 ((rd_T44 l0_7 x12_1).f1), .string ((rd_T44 l0_7 x12_1).f2)] 44 (0, 0)) q7_ hb); clear hb hbox hg; have hnb14 := NB272_256.out; have hnc14 := NB256_272.out; have hnb15 := NB272_258.out; have hnc15 := NB258_272.out; obtain ⟨hcz16_0, hcz16_1, hcz16_2, hcz16_3, hcz16_4, hcz16_5, hcz16_6, hcz16_7, hcz16_8, hcz16_9, hcz16_10, hcz16_11, hfz16_0, hfz16_1, hfz16_2, hfz16_3, hfz16_4, hfz16_5, hfz16_6, hfz16_7, hfz16_8, hfz16_9, hfz16_10, hfz16_11⟩ := cellsF12 BK272.out))
       go_roundg k1
       case measure => have := HK1.out; omega
       case rel => exact ⟨(wrap64 (x12_1 + 1)), q9_, H', ⟨(by have := HK1.out; omega)⟩, ⟨(by (with_reducible repeat (first | refine blk_drewN ?_ _ | refine blk_drew ?_ | refine blk_alloc ?_ _)); refine blk_far ?_ NB256_272.out _; (with_reducible repeat (first | refine blk_drewN ?_ _ | refine blk_drew ?_ | refine blk_alloc ?_ _)); refine blk_far ?_ NB256_272.out _; (with_reducible repeat (first | refine blk_drewN ?_ _ | refine blk_drew ?_ | refine blk_alloc ?_ _)); refine blk_far ?_ NB256_272.out _; (with_reducible repeat (first | refine blk_drewN ?_ _ | refine blk_drew ?_ | refine blk_alloc ?_ _)); refine blk_far ?_ NB256_272.out _; (with_reducible repeat (first | refine blk_drewN ?_ _ | refine blk_drew ?_ | refine blk_alloc ?_ _)); refine blk_far ?_ NB256_272.out _; (with_reducible repeat (first | refine blk_drewN ?_ _ | refine blk_drew ?_ | refine blk_alloc ?_ _)); refine blk_far ?_ NB256_272.out _; (with_reducible repeat (first | refine blk_drewN ?_ _ | refine blk_drew ?_ | refine blk_alloc ?_ _)); refine blk_far ?_ NB256_272.out _; (with_reducible repeat (first | refine blk_drewN ?_ _ | refine blk_drew ?_ | refine blk_alloc ?_ _)); refine blk_far ?_ NB256_272.out _; (with_reducible repeat (first | refine blk_drewN ?_ _ | refine blk_drew ?_ | refine blk_alloc ?_ _)); refine blk_far ?_ NB256_272.out _; (with_reducible repeat (first | refine blk_drewN ?_ _ | refine blk_drew ?_ | refine blk_alloc ?_ _)); refine blk_far ?_ NB256_272.out _; (with_reducible repeat (first | refine blk_drewN ?_ _ | refine blk_drew ?_ | refine blk_alloc ?_ _)); refine blk_far ?_ NB256_272.out _; (with_reducible repeat (first | refine blk_drewN ?_ _ | refine blk_drew ?_ | refine blk_alloc ?_ _)); refine blk_far ?_ NB256_272.out _; (with_reducible repeat (first | refine blk_drewN ?_ _ | refine blk_drew ?_ | refine blk_alloc ?_ _)); exact BK256.out)⟩, ⟨q11_⟩⟩
      ·replace c8 := Bool.eq_false_iff.mpr c8
       subst c8
       have H1 : (some false) = some r := by rw [if_neg (show ¬ (false = true) by decide)] at H; exact H
       clear H
       have H := H1
       clear H1
       obtain rfl := Option.some.inj H
       have p257 : 0 ≤ (x12_1 : Int) := of_decide_eq_true q14_
       have q257 : x12_1 < (l0_7.length : Int) := of_decide_eq_true q14_
       obtain ⟨ad257, e257, hx257_0, hx257_1, hx257_2⟩ := at_T44 HR0_7.out x12_1 p257 q257
       cases e257
       replace hx257_0 := (HB.out.cell (World.block_lt_of_cell? w _ hx257_0)).trans hx257_0
       replace hx257_1 := (HB.out.cell (World.block_lt_of_cell? w _ hx257_1)).trans hx257_1
       replace hx257_2 := (HB.out.cell (World.block_lt_of_cell? w _ hx257_2)).trans hx257_2
       replace p257 := eq_true p257
       replace q257 := eq_true q257
       go_wp2_with (first | ((with_reducible refine gate_dst (N := 4) rfl ?_); (try (refine gate_guard (by rfl) ?_; dsimp only)); refine box_event ?hg (N := 4) ?hd (cs := #[.string (⟨#[]⟩ : ByteArray), .int .i64 0, .string (⟨#[]⟩ : ByteArray)]) (t := 44) ?hr ?_; (case hd => rfl); (case hg => rfl); (case hr => exact u0_); intro gb258 hg w17 hbox hb; have BK258 := Aside0.mk (hbox); have GW258 := Aside0.mk (((by rw [hg]; exact (below_size q0_)) : w.heap.size ≤ gb258)); have GE258 := Aside0.mk (((by rw [hg]; exact (below_size q0_)) : w.heap.size ≤ gb258)); replace HB := Aside0.mk (below_step q0_ hb); have NB256_258 := Aside0.mk ((q5_ : gb256 ≠ gb258)); have NB258_256 := Aside0.mk ((q6_ : gb258 ≠ gb256)); replace BK256 := Aside0.mk (blk_below (g := gb256) (o := .cells #[.int .i64 a0_0, .string a0_1, .string a0_2, .bool a0_3, .slice A0_4 l0_4.length c0_4, .string a0_5, .string a0_6, .slice (some ad257) l0_7.length c0_7] 29 (0, 0)) q1_ hb); clear hb hbox hg; have hnb18 := NB258_256.out; have hnc18 := NB256_258.out; obtain ⟨hcz19_0, hcz19_1, hcz19_2, hfz19_0, hfz19_1, hfz19_2⟩ := cellsF3 BK258.out) | ((with_reducible refine gate_callee (f := 18) rfl ?_); refine goesL_ (some 18) rfl rfl Tryz.func18 (by kernel_rfl) rfl #[.agg #[.string ((rd_T44 l0_7 x12_1).f0), .int .i64 ((rd_T44 l0_7 x12_1).f1), .string ((rd_T44 l0_7 x12_1).f2)]] rfl q15_ ?_; (with_reducible refine (polyglotlaw18_Value.calls k1 ((rd_T44 l0_7 x12_1).f0) ((rd_T44 l0_7 x12_1).f1) ((rd_T44 l0_7 x12_1).f2) t259 t260 t261 t262 t263 t264 t265 t266 t267 t268 t269 t270 false _ A7.out).mono ?_); rintro e w20 ⟨rfl, hb⟩; refine ⟨_, rfl, ?_⟩; replace BK256 := Aside0.mk (blk_below (g := gb256) (o := .cells #[.int .i64 a0_0, .string a0_1, .string a0_2, .bool a0_3, .slice A0_4 l0_4.length c0_4, .string a0_5, .string a0_6, .slice (some ad257) l0_7.length c0_7] 29 (0, 0)) q8_ hb); replace BK258 := Aside0.mk (blk_below (g := gb258) (o := .cells #[.string ((rd_T44 l0_7 x12_1).f0), .int .i64 ((rd_T44 l0_7 x12_1).f1), .string ((rd_T44 l0_7 x12_1).f2)] 44 (0, 0)) q3_ hb); replace HB := Aside0.mk (below_step q2_ hb); (try clear hb); (try clear hb2); (try clear hk); (try clear hi)) | ((with_reducible refine gate_dst (N := 5) rfl ?_); (try (refine gate_guard (by rfl) ?_; dsimp only)); refine box_event ?hg (N := 5) ?hd (cs := #[.int .i64 0, .string (⟨#[]⟩ : ByteArray), .bool false, .string (⟨#[]⟩ : ByteArray), .int .i64 0, .int .i64 0, .int .i64 0, .int .i64 0, .bool false, .bool false, .int .i64 0, .int .i64 0]) (t := 51) ?hr ?_; (case hd => rfl); (case hg => rfl); (case hr => exact u0_); intro gb272 hg w21 hbox hb; have BK272 := Aside0.mk (hbox); have GW272 := Aside0.mk (((by rw [hg]; exact (below_size q2_)) : w.heap.size ≤ gb272)); have GE272 := Aside0.mk (((by rw [hg]; exact (below_size q2_)) : w.heap.size ≤ gb272)); replace HB := Aside0.mk (below_step q2_ hb); have NB256_272 := Aside0.mk ((q5_ : gb256 ≠ gb272)); have NB272_256 := Aside0.mk ((q6_ : gb272 ≠ gb256)); replace BK256 := Aside0.mk (blk_below (g := gb256) (o := .cells #[.int .i64 a0_0, .string a0_1, .string a0_2, .bool a0_3, .slice A0_4 l0_4.length c0_4, .string a0_5, .string a0_6, .slice (some ad257) l0_7.length c0_7] 29 (0, 0)) q1_ hb); have NB258_272 := Aside0.mk ((q12_ : gb258 ≠ gb272)); have NB272_258 := Aside0.mk ((q13_ : gb272 ≠ gb258)); replace BK258 := Aside0.mk (blk_below (g := gb258) (o := .cells #[.string ((rd_T44 l0_7 x12_1).f0), .int .i64 ((rd_T44 l0_7 x12_1).f1), .string ((rd_T44 l0_7 x12_1).f2)] 44 (0, 0)) q7_ hb); clear hb hbox hg; have hnb22 := NB272_256.out; have hnc22 := NB256_272.out; have hnb23 := NB272_258.out; have hnc23 := NB258_272.out; obtain ⟨hcz24_0, hcz24_1, hcz24_2, hcz24_3, hcz24_4, hcz24_5, hcz24_6, hcz24_7, hcz24_8, hcz24_9, hcz24_10, hcz24_11, hfz24_0, hfz24_1, hfz24_2, hfz24_3, hfz24_4, hfz24_5, hfz24_6, hfz24_7, hfz24_8, hfz24_9, hfz24_10, hfz24_11⟩ := cellsF12 BK272.out))
       go_ret
       exact ⟨q4_, q11_⟩
     ·rw [if_neg c6] at H
      exact absurd H (by simp)
    ·rw [if_neg c5] at H
     exact absurd H (by simp)
   ·rw [if_neg c4] at H
    have c4b0 : decide (x12_1 < (l0_7.length : Int)) = false := decide_eq_false c4
    clear c4
    have HC25 := Aside0.mk H
    clear H
    go_upto_region 8 with (fail)
    go_cut [7] (fun v7 wc => ∃ (kq : Nat) (x7_24 : Bool), v7 = .bool x7_24 ∧ Aside0 (polyglotlaw18_Right.j1 kq x7_24 a0_0 a0_1 a0_2 a0_3 l0_4 a0_5 a0_6 l0_7 = some r) ∧ Aside0 (kq ≤ k1) ∧ Aside0 (wc.heap[gb256]? = some (.cells #[.int .i64 a0_0, .string a0_1, .string a0_2, .bool a0_3, (.slice A0_4 l0_4.length c0_4), .string a0_5, .string a0_6, (.slice A0_7 l0_7.length c0_7)] 29 (0, 0))) ∧ Aside0 (Below w.heap.size w wc))
    case first =>
     have H := HC25.out
     clear HC25
     by_cases c26 : a0_5.toList = ([] : List UInt8)
     ·rw [if_pos c26] at H
      have c26b0 : (a0_5.toList == ([] : List UInt8)) = true := beq_iff_eq.mpr c26
      have c26b1 : (a0_5.toList != ([] : List UInt8)) = false := bne_eq_false_iff_eq.mpr c26
      clear c26
      (first | rw [c26b0] | (simp only [i64_w, i32_w]; rw [c26b0]) | skip)
      by_cases c27 : a0_6.toList = ([] : List UInt8)
      ·rw [if_pos c27] at H
       have c27b0 : (a0_6.toList == ([] : List UInt8)) = true := beq_iff_eq.mpr c27
       have c27b1 : (a0_6.toList != ([] : List UInt8)) = false := bne_eq_false_iff_eq.mpr c27
       clear c27
       have H' := Aside0.mk H
       clear H
       obtain ⟨hcz28_0, hcz28_1, hcz28_2, hcz28_3, hcz28_4, hcz28_5, hcz28_6, hcz28_7, hfz28_0, hfz28_1, hfz28_2, hfz28_3, hfz28_4, hfz28_5, hfz28_6, hfz28_7⟩ := cellsF8 BK256.out
       go_wp2
       go_meet
       case rel => exact ⟨_, (decide ((l0_7.length : Int) > 0)), q9_, H', ⟨(by have := HK1.out; first | omega | exact Nat.le_refl _)⟩, ⟨q1_⟩, ⟨q0_⟩⟩
      ·rw [if_neg c27] at H
       have c27b0 : (a0_6.toList == ([] : List UInt8)) = false := beq_eq_false_iff_ne.mpr c27
       have c27b1 : (a0_6.toList != ([] : List UInt8)) = true := bne_iff_ne.mpr c27
       have H' := Aside0.mk H
       clear H
       obtain ⟨hcz29_0, hcz29_1, hcz29_2, hcz29_3, hcz29_4, hcz29_5, hcz29_6, hcz29_7, hfz29_0, hfz29_1, hfz29_2, hfz29_3, hfz29_4, hfz29_5, hfz29_6, hfz29_7⟩ := cellsF8 BK256.out
       go_wp2
       go_meet
       case rel => exact ⟨_, (true), q9_, H', ⟨(by have := HK1.out; first | omega | exact Nat.le_refl _)⟩, ⟨q1_⟩, ⟨q0_⟩⟩
     ·rw [if_neg c26] at H
      have c26b0 : (a0_5.toList == ([] : List UInt8)) = false := beq_eq_false_iff_ne.mpr c26
      have c26b1 : (a0_5.toList != ([] : List UInt8)) = true := bne_iff_ne.mpr c26
      (first | rw [c26b0] | (simp only [i64_w, i32_w]; rw [c26b0]) | skip)
      have H' := Aside0.mk H
      clear H
      obtain ⟨hcz30_0, hcz30_1, hcz30_2, hcz30_3, hcz30_4, hcz30_5, hcz30_6, hcz30_7, hfz30_0, hfz30_1, hfz30_2, hfz30_3, hfz30_4, hfz30_5, hfz30_6, hfz30_7⟩ := cellsF8 BK256.out
      go_wp2
      go_meet
      case rel => exact ⟨_, (true), q9_, H', ⟨(by have := HK1.out; first | omega | exact Nat.le_refl _)⟩, ⟨q1_⟩, ⟨q0_⟩⟩
    case rest =>
     clear HC25
     try clear c1
     try clear c2
     try clear p2 p2
     try clear q2
     try clear hx2
     try clear c4
     try clear c4b0
     try clear c5
     try clear c5b0
     try clear c6
     try clear c6b0
     try clear p6
     try clear c8
     try clear c10
     try clear c12
     try clear c14
     try clear c15
     try clear c18
     try clear c22
     try clear c23
     try clear p25
     try clear q25
     try clear hx25
     try clear c26
     try clear c26b0
     try clear c26b1
     try clear c27
     try clear c27b0
     try clear c27b1
     try clear hcz11_0 hcz11_1 hcz11_2
     try clear hcz16_0 hcz16_1 hcz16_10 hcz16_11 hcz16_2 hcz16_3 hcz16_4 hcz16_5 hcz16_6 hcz16_7 hcz16_8 hcz16_9
     try clear hcz19_0 hcz19_1 hcz19_2
     try clear hcz24_0 hcz24_1 hcz24_10 hcz24_11 hcz24_2 hcz24_3 hcz24_4 hcz24_5 hcz24_6 hcz24_7 hcz24_8 hcz24_9
     try clear hcz28_0 hcz28_1 hcz28_2 hcz28_3 hcz28_4 hcz28_5 hcz28_6 hcz28_7
     try clear hcz29_0 hcz29_1 hcz29_2 hcz29_3 hcz29_4 hcz29_5 hcz29_6 hcz29_7
     try clear hcz30_0 hcz30_1 hcz30_2 hcz30_3 hcz30_4 hcz30_5 hcz30_6 hcz30_7
     try clear hcz3_0 hcz3_1 hcz3_2 hcz3_3 hcz3_4 hcz3_5 hcz3_6 hcz3_7
     try clear hfz11_0 hfz11_1 hfz11_2
     try clear hfz16_0 hfz16_1 hfz16_10 hfz16_11 hfz16_2 hfz16_3 hfz16_4 hfz16_5 hfz16_6 hfz16_7 hfz16_8 hfz16_9
     try clear hfz19_0 hfz19_1 hfz19_2
     try clear hfz24_0 hfz24_1 hfz24_10 hfz24_11 hfz24_2 hfz24_3 hfz24_4 hfz24_5 hfz24_6 hfz24_7 hfz24_8 hfz24_9
     try clear hfz28_0 hfz28_1 hfz28_2 hfz28_3 hfz28_4 hfz28_5 hfz28_6 hfz28_7
     try clear hfz29_0 hfz29_1 hfz29_2 hfz29_3 hfz29_4 hfz29_5 hfz29_6 hfz29_7
     try clear hfz30_0 hfz30_1 hfz30_2 hfz30_3 hfz30_4 hfz30_5 hfz30_6 hfz30_7
     try clear hfz3_0 hfz3_1 hfz3_2 hfz3_3 hfz3_4 hfz3_5 hfz3_6 hfz3_7
     try clear hx257_0
     try clear hx257_1
     try clear hx257_2
     try clear p257
     try clear q257
     obtain ⟨kq, x7_24, rfl, HA, HJ24, BK256, HB⟩ := hcut
     cases kq with
     | zero => exact absurd HA.out (by simp [polyglotlaw18_Right.j1])
     | succ kj24 =>
      have H := HA.out
      clear HA
      simp only [polyglotlaw18_Right.j1] at H
      have HC31 := Aside0.mk H
      clear H
      go_upto_region 9 with (fail)
      go_cut [8] (fun v8 wc => ∃ (kq : Nat) (x8_30 : Bool), v8 = .bool x8_30 ∧ Aside0 (polyglotlaw18_Right.j2 kq x7_24 x8_30 a0_0 a0_1 a0_2 a0_3 l0_4 a0_5 a0_6 l0_7 = some r) ∧ Aside0 (kq ≤ kj24) ∧ Aside0 (wc.heap[gb256]? = some (.cells #[.int .i64 a0_0, .string a0_1, .string a0_2, .bool a0_3, (.slice A0_4 l0_4.length c0_4), .string a0_5, .string a0_6, (.slice A0_7 l0_7.length c0_7)] 29 (0, 0))) ∧ Aside0 (Below w.heap.size w wc))
      case first =>
       have H := HC31.out
       clear HC31
       by_cases c32 : a0_2.toList = ([] : List UInt8)
       ·rw [if_pos c32] at H
        have c32b0 : (a0_2.toList == ([] : List UInt8)) = true := beq_iff_eq.mpr c32
        have c32b1 : (a0_2.toList != ([] : List UInt8)) = false := bne_eq_false_iff_eq.mpr c32
        clear c32
        (first | rw [c32b0] | (simp only [i64_w, i32_w]; rw [c32b0]) | skip)
        have H' := Aside0.mk H
        clear H
        obtain ⟨hcz33_0, hcz33_1, hcz33_2, hcz33_3, hcz33_4, hcz33_5, hcz33_6, hcz33_7, hfz33_0, hfz33_1, hfz33_2, hfz33_3, hfz33_4, hfz33_5, hfz33_6, hfz33_7⟩ := cellsF8 BK256.out
        go_wp2
        go_meet
        case rel => exact ⟨_, (a0_3), q9_, H', ⟨(by have := HK1.out; have := HJ24.out; first | omega | exact Nat.le_refl _)⟩, ⟨q1_⟩, ⟨q0_⟩⟩
       ·rw [if_neg c32] at H
        have c32b0 : (a0_2.toList == ([] : List UInt8)) = false := beq_eq_false_iff_ne.mpr c32
        have c32b1 : (a0_2.toList != ([] : List UInt8)) = true := bne_iff_ne.mpr c32
        (first | rw [c32b0] | (simp only [i64_w, i32_w]; rw [c32b0]) | skip)
        have H' := Aside0.mk H
        clear H
        obtain ⟨hcz34_0, hcz34_1, hcz34_2, hcz34_3, hcz34_4, hcz34_5, hcz34_6, hcz34_7, hfz34_0, hfz34_1, hfz34_2, hfz34_3, hfz34_4, hfz34_5, hfz34_6, hfz34_7⟩ := cellsF8 BK256.out
        go_wp2
        go_meet
        case rel => exact ⟨_, (true), q9_, H', ⟨(by have := HK1.out; have := HJ24.out; first | omega | exact Nat.le_refl _)⟩, ⟨q1_⟩, ⟨q0_⟩⟩
      case rest =>
       clear HC31
       try clear c1
       try clear c2
       try clear p2 p2
       try clear q2 q2
       try clear hx2
       try clear c3
       try clear c4
       try clear c4b0
       try clear c5
       try clear c5b0
       try clear c6
       try clear c6b0
       try clear p6 p6
       try clear c8
       try clear c10
       try clear c12
       try clear c14
       try clear c15
       try clear c18
       try clear c22
       try clear c23
       try clear p25 p25
       try clear q25 q25
       try clear hx25
       try clear c26
       try clear c26b0
       try clear c26b1
       try clear c27
       try clear c27b0
       try clear c27b1
       try clear c32
       try clear c32b0
       try clear c32b1
       try clear hcz11_0 hcz11_1 hcz11_2
       try clear hcz16_0 hcz16_1 hcz16_10 hcz16_11 hcz16_2 hcz16_3 hcz16_4 hcz16_5 hcz16_6 hcz16_7 hcz16_8 hcz16_9
       try clear hcz19_0 hcz19_1 hcz19_2
       try clear hcz24_0 hcz24_1 hcz24_10 hcz24_11 hcz24_2 hcz24_3 hcz24_4 hcz24_5 hcz24_6 hcz24_7 hcz24_8 hcz24_9
       try clear hcz28_0 hcz28_1 hcz28_2 hcz28_3 hcz28_4 hcz28_5 hcz28_6 hcz28_7
       try clear hcz29_0 hcz29_1 hcz29_2 hcz29_3 hcz29_4 hcz29_5 hcz29_6 hcz29_7
       try clear hcz30_0 hcz30_1 hcz30_2 hcz30_3 hcz30_4 hcz30_5 hcz30_6 hcz30_7
       try clear hcz33_0 hcz33_1 hcz33_2 hcz33_3 hcz33_4 hcz33_5 hcz33_6 hcz33_7
       try clear hcz34_0 hcz34_1 hcz34_2 hcz34_3 hcz34_4 hcz34_5 hcz34_6 hcz34_7
       try clear hcz3_0 hcz3_1 hcz3_2 hcz3_3 hcz3_4 hcz3_5 hcz3_6 hcz3_7
       try clear hfz11_0 hfz11_1 hfz11_2
       try clear hfz16_0 hfz16_1 hfz16_10 hfz16_11 hfz16_2 hfz16_3 hfz16_4 hfz16_5 hfz16_6 hfz16_7 hfz16_8 hfz16_9
       try clear hfz19_0 hfz19_1 hfz19_2
       try clear hfz24_0 hfz24_1 hfz24_10 hfz24_11 hfz24_2 hfz24_3 hfz24_4 hfz24_5 hfz24_6 hfz24_7 hfz24_8 hfz24_9
       try clear hfz28_0 hfz28_1 hfz28_2 hfz28_3 hfz28_4 hfz28_5 hfz28_6 hfz28_7
       try clear hfz29_0 hfz29_1 hfz29_2 hfz29_3 hfz29_4 hfz29_5 hfz29_6 hfz29_7
       try clear hfz30_0 hfz30_1 hfz30_2 hfz30_3 hfz30_4 hfz30_5 hfz30_6 hfz30_7
       try clear hfz33_0 hfz33_1 hfz33_2 hfz33_3 hfz33_4 hfz33_5 hfz33_6 hfz33_7
       try clear hfz34_0 hfz34_1 hfz34_2 hfz34_3 hfz34_4 hfz34_5 hfz34_6 hfz34_7
       try clear hfz3_0 hfz3_1 hfz3_2 hfz3_3 hfz3_4 hfz3_5 hfz3_6 hfz3_7
       try clear hx257_0
       try clear hx257_1
       try clear hx257_2
       try clear p257
       try clear q257
       obtain ⟨kq, x8_30, rfl, HA, HJ30, BK256, HB⟩ := hcut
       cases kq with
       | zero => exact absurd HA.out (by simp [polyglotlaw18_Right.j2])
       | succ kj30 =>
        have H := HA.out
        clear HA
        simp only [polyglotlaw18_Right.j2] at H
        by_cases c35 : a0_0 = 0
        ·rw [if_pos c35] at H
         have c35b0 : (a0_0 == 0) = true := beq_iff_eq.mpr c35
         have c35b1 : (a0_0 != 0) = false := bne_eq_false_iff_eq.mpr c35
         clear c35
         by_cases c36 : x7_24 = true
         ·subst c36
          have H1 : (some false) = some r := by rw [if_pos rfl] at H; exact H
          clear H
          have H := H1
          clear H1
          obtain rfl := Option.some.inj H
          obtain ⟨hcz37_0, hcz37_1, hcz37_2, hcz37_3, hcz37_4, hcz37_5, hcz37_6, hcz37_7, hfz37_0, hfz37_1, hfz37_2, hfz37_3, hfz37_4, hfz37_5, hfz37_6, hfz37_7⟩ := cellsF8 BK256.out
          go_wp2
          go_ret
          exact ⟨q4_, q0_⟩
         ·replace c36 := Bool.eq_false_iff.mpr c36
          subst c36
          have H1 : (some ((l0_4.length : Int) == 0)) = some r := by rw [if_neg (show ¬ (false = true) by decide)] at H; exact H
          clear H
          have H := H1
          clear H1
          obtain rfl := Option.some.inj H
          obtain ⟨hcz38_0, hcz38_1, hcz38_2, hcz38_3, hcz38_4, hcz38_5, hcz38_6, hcz38_7, hfz38_0, hfz38_1, hfz38_2, hfz38_3, hfz38_4, hfz38_5, hfz38_6, hfz38_7⟩ := cellsF8 BK256.out
          go_wp2
          go_ret
          exact ⟨q4_, q0_⟩
        ·rw [if_neg c35] at H
         have c35b0 : (a0_0 == 0) = false := beq_eq_false_iff_ne.mpr c35
         have c35b1 : (a0_0 != 0) = true := bne_iff_ne.mpr c35
         by_cases c39 : a0_0 = 1
         ·rw [if_pos c39] at H
          have c39b0 : (a0_0 == 1) = true := beq_iff_eq.mpr c39
          have c39b1 : (a0_0 != 1) = false := bne_eq_false_iff_eq.mpr c39
          clear c39
          by_cases c40 : x7_24 = true
          ·subst c40
           have H1 : (some false) = some r := by rw [if_pos rfl] at H; exact H
           clear H
           have H := H1
           clear H1
           obtain rfl := Option.some.inj H
           obtain ⟨hcz41_0, hcz41_1, hcz41_2, hcz41_3, hcz41_4, hcz41_5, hcz41_6, hcz41_7, hfz41_0, hfz41_1, hfz41_2, hfz41_3, hfz41_4, hfz41_5, hfz41_6, hfz41_7⟩ := cellsF8 BK256.out
           go_wp2
           go_ret
           exact ⟨q4_, q0_⟩
          ·replace c40 := Bool.eq_false_iff.mpr c40
           subst c40
           have H1 : (some (!x8_30)) = some r := by rw [if_neg (show ¬ (false = true) by decide)] at H; exact H
           clear H
           have H := H1
           clear H1
           obtain rfl := Option.some.inj H
           obtain ⟨hcz42_0, hcz42_1, hcz42_2, hcz42_3, hcz42_4, hcz42_5, hcz42_6, hcz42_7, hfz42_0, hfz42_1, hfz42_2, hfz42_3, hfz42_4, hfz42_5, hfz42_6, hfz42_7⟩ := cellsF8 BK256.out
           go_wp2
           go_ret
           exact ⟨q4_, q0_⟩
         ·rw [if_neg c39] at H
          have c39b0 : (a0_0 == 1) = false := beq_eq_false_iff_ne.mpr c39
          have c39b1 : (a0_0 != 1) = true := bne_iff_ne.mpr c39
          by_cases c43 : a0_0 = 2
          ·rw [if_pos c43] at H
           have c43b0 : (a0_0 == 2) = true := beq_iff_eq.mpr c43
           have c43b1 : (a0_0 != 2) = false := bne_eq_false_iff_eq.mpr c43
           clear c43
           by_cases c44 : x8_30 = true
           ·subst c44
            have H1 : (some false) = some r := by rw [if_pos rfl] at H; exact H
            clear H
            have H := H1
            clear H1
            obtain rfl := Option.some.inj H
            obtain ⟨hcz45_0, hcz45_1, hcz45_2, hcz45_3, hcz45_4, hcz45_5, hcz45_6, hcz45_7, hfz45_0, hfz45_1, hfz45_2, hfz45_3, hfz45_4, hfz45_5, hfz45_6, hfz45_7⟩ := cellsF8 BK256.out
            go_wp2
            go_ret
            exact ⟨q4_, q0_⟩
           ·replace c44 := Bool.eq_false_iff.mpr c44
            subst c44
            have H1 : (if a0_1.toList = ([] : List UInt8) then (some ((l0_4.length : Int) == 0)) else (some false)) = some r := by rw [if_neg (show ¬ (false = true) by decide)] at H; exact H
            clear H
            have H := H1
            clear H1
            by_cases c46 : a0_1.toList = ([] : List UInt8)
            ·rw [if_pos c46] at H
             have c46b0 : (a0_1.toList == ([] : List UInt8)) = true := beq_iff_eq.mpr c46
             have c46b1 : (a0_1.toList != ([] : List UInt8)) = false := bne_eq_false_iff_eq.mpr c46
             clear c46
             obtain rfl := Option.some.inj H
             obtain ⟨hcz47_0, hcz47_1, hcz47_2, hcz47_3, hcz47_4, hcz47_5, hcz47_6, hcz47_7, hfz47_0, hfz47_1, hfz47_2, hfz47_3, hfz47_4, hfz47_5, hfz47_6, hfz47_7⟩ := cellsF8 BK256.out
             go_wp2
             go_ret
             exact ⟨q4_, q0_⟩
            ·rw [if_neg c46] at H
             have c46b0 : (a0_1.toList == ([] : List UInt8)) = false := beq_eq_false_iff_ne.mpr c46
             have c46b1 : (a0_1.toList != ([] : List UInt8)) = true := bne_iff_ne.mpr c46
             obtain rfl := Option.some.inj H
             obtain ⟨hcz48_0, hcz48_1, hcz48_2, hcz48_3, hcz48_4, hcz48_5, hcz48_6, hcz48_7, hfz48_0, hfz48_1, hfz48_2, hfz48_3, hfz48_4, hfz48_5, hfz48_6, hfz48_7⟩ := cellsF8 BK256.out
             go_wp2
             go_ret
             exact ⟨q4_, q0_⟩
          ·rw [if_neg c43] at H
           have c43b0 : (a0_0 == 2) = false := beq_eq_false_iff_ne.mpr c43
           have c43b1 : (a0_0 != 2) = true := bne_iff_ne.mpr c43
           obtain rfl := Option.some.inj H
           obtain ⟨hcz49_0, hcz49_1, hcz49_2, hcz49_3, hcz49_4, hcz49_5, hcz49_6, hcz49_7, hfz49_0, hfz49_1, hfz49_2, hfz49_3, hfz49_4, hfz49_5, hfz49_6, hfz49_7⟩ := cellsF8 BK256.out
           go_wp2
           go_ret
           exact ⟨q4_, q0_⟩
end Go.Proofs.YtdhpcofnddkcaaaGreatDoor.S
namespace Go.Proofs.YtdhpcofnddkcaaaGreatDoor.S
open Go.RowKit Go.Proofs.YtdhpcofnddkcaaaGreatDoor.G Go.Proofs.YtdhpcofnddkcaaaGreatDoorW.PrintWords Go.Proofs.YtdhpcofnddkcaaaGreatDoorW.PrintLast Go.Proofs.YtdhpcofnddkcaaaGreatDoorW.PrintMore
attribute [local go_sem] max2_int min2_int max_two min_two max_three min_three max_four min_four
set_option linter.unusedVariables false
set_option linter.unusedSimpArgs false
def polyglotlaw18_text.f (a0 : ByteArray) : Option (ByteArray) := (strconv_Itoa.f (a0.size : Int)).bind fun t273 => (if t273.size + 1 ≤ 9223372036854775807 then (if (t273 ++ (⟨#[58]⟩ : ByteArray)).size + a0.size ≤ 9223372036854775807 then (if ((t273 ++ (⟨#[58]⟩ : ByteArray)) ++ a0).size + 1 ≤ 9223372036854775807 then (some (((t273 ++ (⟨#[58]⟩ : ByteArray)) ++ a0) ++ (⟨#[44]⟩ : ByteArray))) else (none)) else (none)) else (none))
end Go.Proofs.YtdhpcofnddkcaaaGreatDoor.S
namespace Go.Proofs.YtdhpcofnddkcaaaGreatDoor.S
open Go.RowKit Go.Proofs.YtdhpcofnddkcaaaGreatDoor.G Go.Proofs.YtdhpcofnddkcaaaGreatDoorW.PrintWords Go.Proofs.YtdhpcofnddkcaaaGreatDoorW.PrintLast Go.Proofs.YtdhpcofnddkcaaaGreatDoorW.PrintMore
set_option linter.unusedVariables false
set_option linter.unusedSimpArgs false
theorem lright_end (s : S29) (k : Nat) (hk : 3 ≤ k) (l : List S44) (n i : Int) (hi : ¬ i < n) : polyglotlaw18_Right.l0 k l n i s.f0 s.f1 s.f2 s.f3 s.f4 s.f5 s.f6 s.f7 = some (shapeS s) := by
  obtain ⟨m, rfl⟩ : ∃ m, k = m + 1 + 1 + 1 := ⟨k - 3, by omega⟩
  have h4 : (s.f4.length : Int) = 0 ∨ (s.f4.length : Int) > 0 := by omega
  have h7 : (s.f7.length : Int) = 0 ∨ (s.f7.length : Int) > 0 := by omega
  rw [polyglotlaw18_Right.l0, if_neg hi]
  simp only [polyglotlaw18_Right.j1, polyglotlaw18_Right.j2]
  unfold shapeS
  simp only [em_iff, map_nil_iff, len_nil_iff]
  generalize (s.f7.length : Int) = n7 at *
  generalize (s.f4.length : Int) = n4 at *
  obtain ⟨f0, f1, f2, f3, f4, f5, f6, f7⟩ := s
  have e7 : (n7 > 0) = ¬ (n7 = 0) := by
    rw [eq_iff_iff]
    omega
  simp only [e7] at *
  have hf : f0 = 0 ∨ f0 = 1 ∨ f0 = 2 ∨ (f0 ≠ 0 ∧ f0 ≠ 1 ∧ f0 ≠ 2) := by omega
  rcases hf with rfl | rfl | rfl | ⟨g0, g1, g2⟩
  · by_cases c4 : n4 = 0 <;> by_cases c5 : f5.toList = [] <;> by_cases c6 : f6.toList = [] <;> by_cases c7 : n7 = 0 <;> by_cases c2 : f2.toList = [] <;> simp [c2, c4, c5, c6, c7]
  · cases f3 <;> by_cases c2 : f2.toList = [] <;> by_cases c5 : f5.toList = [] <;> by_cases c6 : f6.toList = [] <;> by_cases c7 : n7 = 0 <;> simp [c2, c5, c6, c7]
  · cases f3 <;> by_cases c2 : f2.toList = [] <;> by_cases c1 : f1.toList = [] <;> by_cases c4 : n4 = 0 <;> by_cases c5 : f5.toList = [] <;> by_cases c6 : f6.toList = [] <;> simp [c1, c2, c4, c5, c6]
  · by_cases c2 : f2.toList = [] <;> by_cases c5 : f5.toList = [] <;> by_cases c6 : f6.toList = [] <;> simp [c2, c5, c6, g0, g1, g2]
theorem lright_all (s : S29) (l : List S44) (hl : l.length ≤ 1000000) (k0 : Nat) (hv : ∀ k, k0 ≤ k → ∀ a ∈ l, polyglotlaw18_Value.f k a.f0 a.f1 a.f2 = some (valF a.f1 a.f2)) : ∀ (d i : Nat), l.length - i ≤ d → i ≤ l.length → ∀ k, k0 + d + 3 ≤ k →
    polyglotlaw18_Right.l0 k l (l.length : Int) (i : Int) s.f0 s.f1 s.f2 s.f3 s.f4 s.f5 s.f6 s.f7 = some ((l.drop i).all okS && shapeS s) := by
  intro d
  induction d with
  | zero =>
    intro i h1 h2 k hk
    rw [lright_end s k (by omega) _ _ _ (by omega), List.drop_of_length_le (by omega)]
    rfl
  | succ d ih =>
    intro i h1 h2 k hk
    by_cases hi : i < l.length
    · obtain ⟨m, rfl⟩ : ∃ m, k = m + 1 := ⟨k - 1, by omega⟩
      rw [polyglotlaw18_Right.l0, if_pos (by omega), if_pos (by omega), if_pos (by omega), rd44 l i hi, hv m (by omega) _ (List.getElem_mem hi), Option.bind_some, flag_ok, drop_all l i hi]
      cases h : okS l[i]
      · rfl
      · rw [if_pos rfl, w64 _ (by omega) (by omega), show (i : Int) + 1 = ((i + 1 : Nat) : Int) by omega, ih (i + 1) (by omega) (by omega) m (by omega)]
        rfl
    · rw [lright_end s k (by omega) _ _ _ (by omega), List.drop_of_length_le (by omega)]
      rfl
theorem lright_f (s : S29) (hl : s.f7.length ≤ 1000000) (hs : ∀ a ∈ s.f7, a.f2.size ≤ 100000) : ∃ k0, ∀ k, k0 ≤ k → polyglotlaw18_Right.f k s.f0 s.f1 s.f2 s.f3 s.f4 s.f5 s.f6 s.f7 = some (rightS s) := by
  obtain ⟨k0, hv⟩ := lright_loop s.f7 hl hs
  refine ⟨k0 + s.f7.length + 3, fun k hk => ?_⟩
  unfold polyglotlaw18_Right.f
  have := lright_all s s.f7 hl k0 hv s.f7.length 0 (by omega) (by omega) k hk
  rw [List.drop_zero] at this
  rw [rightS_eq]
  exact this
end Go.Proofs.YtdhpcofnddkcaaaGreatDoor.S
namespace Go.Proofs.YtdhpcofnddkcaaaGreatDoor.S
open Go.RowKit Go.Proofs.YtdhpcofnddkcaaaGreatDoor.G Go.Proofs.YtdhpcofnddkcaaaGreatDoorW.PrintWords Go.Proofs.YtdhpcofnddkcaaaGreatDoorW.PrintLast Go.Proofs.YtdhpcofnddkcaaaGreatDoorW.PrintMore
attribute [local go_sem] max2_int min2_int max_two min_two max_three min_three max_four min_four
set_option linter.unusedVariables false
set_option linter.unusedSimpArgs false
namespace Sx15
theorem cellsF3 {w : World} {g : Nat} {t : TypeId} {a0 a1 a2 : Value} (h : w.heap[g]? = some (.cells #[a0, a1, a2] t (0, 0))) : w.cell? ⟨g, 0, none⟩ = some a0 ∧ w.cell? ⟨g, 1, none⟩ = some a1 ∧ w.cell? ⟨g, 2, none⟩ = some a2 ∧ w.frozen? ⟨g, 0, none⟩ = false ∧ w.frozen? ⟨g, 1, none⟩ = false ∧ w.frozen? ⟨g, 2, none⟩ = false := ⟨(blk_cell h 0).trans rfl, (blk_cell h 1).trans rfl, (blk_cell h 2).trans rfl, blk_frozen h 0, blk_frozen h 1, blk_frozen h 2⟩
theorem cellsF8 {w : World} {g : Nat} {t : TypeId} {a0 a1 a2 a3 a4 a5 a6 a7 : Value} (h : w.heap[g]? = some (.cells #[a0, a1, a2, a3, a4, a5, a6, a7] t (0, 0))) : w.cell? ⟨g, 0, none⟩ = some a0 ∧ w.cell? ⟨g, 1, none⟩ = some a1 ∧ w.cell? ⟨g, 2, none⟩ = some a2 ∧ w.cell? ⟨g, 3, none⟩ = some a3 ∧ w.cell? ⟨g, 4, none⟩ = some a4 ∧ w.cell? ⟨g, 5, none⟩ = some a5 ∧ w.cell? ⟨g, 6, none⟩ = some a6 ∧ w.cell? ⟨g, 7, none⟩ = some a7 ∧ w.frozen? ⟨g, 0, none⟩ = false ∧ w.frozen? ⟨g, 1, none⟩ = false ∧ w.frozen? ⟨g, 2, none⟩ = false ∧ w.frozen? ⟨g, 3, none⟩ = false ∧ w.frozen? ⟨g, 4, none⟩ = false ∧ w.frozen? ⟨g, 5, none⟩ = false ∧ w.frozen? ⟨g, 6, none⟩ = false ∧ w.frozen? ⟨g, 7, none⟩ = false := ⟨(blk_cell h 0).trans rfl, (blk_cell h 1).trans rfl, (blk_cell h 2).trans rfl, (blk_cell h 3).trans rfl, (blk_cell h 4).trans rfl, (blk_cell h 5).trans rfl, (blk_cell h 6).trans rfl, (blk_cell h 7).trans rfl, blk_frozen h 0, blk_frozen h 1, blk_frozen h 2, blk_frozen h 3, blk_frozen h 4, blk_frozen h 5, blk_frozen h 6, blk_frozen h 7⟩
theorem q0_ {p_ : Prop} (h_ : p_ := by repeat (first | (with_reducible first | exact HB.out | apply below_alloc | apply pw_below_drewN | apply below_drew1 | refine below_set ?_ GE274.out) | exact HB.out)) : p_ := h_
theorem q1_ {p_ : Prop} (h_ : p_ := by (with_reducible repeat (first | refine blk_drewN ?_ _ | refine blk_drew ?_ | refine blk_alloc ?_ _)); exact BK274.out) : p_ := h_
theorem q2_ {p_ : Prop} (h_ : p_ := by repeat (first | (with_reducible first | exact HB.out | apply below_alloc | apply pw_below_drewN | apply below_drew1 | refine below_set ?_ GE274.out | refine below_set ?_ GE291.out) | exact HB.out)) : p_ := h_
theorem q3_ {p_ : Prop} (h_ : p_ := by (try simp only [List.map_toArray, List.map_cons, List.map_nil]); first | done | rfl | (simp only [List.length_drop, List.length_take]; rfl)) : p_ := h_
theorem q4_ {p_ : Prop} (h_ : p_ := by repeat (first | (with_reducible first | exact HB.out | apply below_alloc | apply pw_below_drewN | apply below_drew1) | exact HB.out)) : p_ := h_
theorem q5_ {p_ : Prop} (h_ : p_ := by (with_reducible repeat (first | refine blk_drewN ?_ _ | refine blk_drew ?_ | refine blk_alloc ?_ _)); exact BK291.out) : p_ := h_
theorem q6_ {p_ : Prop} (h_ : p_ := by (with_reducible repeat (first | apply Kd.R_alloc | apply Kd.R_drewN | apply Kd.R_drew)); exact HO295.out) : p_ := h_
theorem q7_ {p_ : Prop} (h_ : p_ := by first | rfl | (simp; done) | (simp [*]; done)) : p_ := h_
theorem q8_ {p_ : Prop} (h_ : p_ := by first | (with_reducible assumption) | assumption) : p_ := h_
theorem q9_ {p_ : Prop} (h_ : p_ := by first | rfl | (simp [errW_none, errW_some] <;> rfl) | (simp [*, errW_none, errW_some] <;> rfl)) : p_ := h_
theorem q10_ {p_ : Prop} (h_ : p_ := by rw [hg]; exact (below_size q4_)) : p_ := h_
theorem u0_ {p_ : Prop} (h_ : p_ := by first | (go_simp; done) | (go_simp; rfl)) : p_ := h_
end Sx15
open Sx15
mutual
def polyglotlaw18_Bytes.j0 : Nat → ByteArray → Int → ByteArray → ByteArray → Bool → List ByteArray → ByteArray → ByteArray → List (S44) → Option (ByteArray)
 | 0, _, _, _, _, _, _, _, _, _ => none
 | k + 1, x3, x275000, x275001, x275002, x275003, x275004, x275005, x275006, x275007 => (polyglotlaw18_text.f (⟨#[97]⟩ : ByteArray)).bind fun t275 => ((polyglotlaw18_text.f x275001).bind fun t276 => (if t275.size + t276.size ≤ 9223372036854775807 then ((polyglotlaw18_text.f x3).bind fun t277 => (if (t275 ++ t276).size + t277.size ≤ 9223372036854775807 then ((polyglotlaw18_text.f x275002).bind fun t278 => (if ((t275 ++ t276) ++ t277).size + t278.size ≤ 9223372036854775807 then (some (((t275 ++ t276) ++ t277) ++ t278)) else (none))) else (none))) else (none)))
def polyglotlaw18_Bytes.l0 : Nat → ByteArray → List ByteArray → Int → Int → Option (ByteArray)
 | 0, _, _, _, _ => none
 | k + 1, x4, x42, x43, x44 => if x44 < x43 then (if 0 ≤ x44 then (if x44 < (x42.length : Int) then ((polyglotlaw18_text.f (rdOf ByteArray.empty x42 x44)).bind fun t284 => (if x4.size + t284.size ≤ 9223372036854775807 then (polyglotlaw18_Bytes.l0 k (x4 ++ t284) x42 x43 (wrap64 (x44 + 1))) else (none))) else (none)) else (none)) else (some x4)
def polyglotlaw18_Bytes.l1 : Nat → ByteArray → List (S44) → Int → Int → Option (ByteArray)
 | 0, _, _, _, _ => none
 | k + 1, x7, x70, x71, x72 => if x72 < x71 then (if 0 ≤ x72 then (if x72 < (x70.length : Int) then ((polyglotlaw18_text.f ((rd_T44 x70 x72).f0)).bind fun t292 => (if x7.size + t292.size ≤ 9223372036854775807 then ((some (([(⟨#[116]⟩ : ByteArray), (⟨#[110]⟩ : ByteArray), (⟨#[109]⟩ : ByteArray)] : List ByteArray) : List ByteArray)).bind fun y293 => (if 0 ≤ ((rd_T44 x70 x72).f1) then (if ((rd_T44 x70 x72).f1) < (y293.length : Int) then ((polyglotlaw18_text.f (rdOf ByteArray.empty y293 ((rd_T44 x70 x72).f1))).bind fun t297 => (if (x7 ++ t292).size + t297.size ≤ 9223372036854775807 then ((polyglotlaw18_text.f ((rd_T44 x70 x72).f2)).bind fun t298 => (if ((x7 ++ t292) ++ t297).size + t298.size ≤ 9223372036854775807 then (polyglotlaw18_Bytes.l1 k (((x7 ++ t292) ++ t297) ++ t298) x70 x71 (wrap64 (x72 + 1))) else (none))) else (none))) else (none)) else (none))) else (none))) else (none)) else (none)) else (some x7)
end
def polyglotlaw18_Bytes.f (k : Nat) (a0_0 : Int) (a0_1 : ByteArray) (a0_2 : ByteArray) (a0_3 : Bool) (l0_4 : List ByteArray) (a0_5 : ByteArray) (a0_6 : ByteArray) (l0_7 : List (S44)) : Option (ByteArray) := if a0_0 = 0 then (if a0_3 = true then (polyglotlaw18_Bytes.j0 k (⟨#[49]⟩ : ByteArray) a0_0 a0_1 a0_2 a0_3 l0_4 a0_5 a0_6 l0_7) else (polyglotlaw18_Bytes.j0 k (⟨#[48]⟩ : ByteArray) a0_0 a0_1 a0_2 a0_3 l0_4 a0_5 a0_6 l0_7)) else (if a0_0 = 1 then ((polyglotlaw18_text.f (⟨#[99]⟩ : ByteArray)).bind fun t279 => ((polyglotlaw18_text.f a0_1).bind fun t280 => (if t279.size + t280.size ≤ 9223372036854775807 then ((strconv_Itoa.f (l0_4.length : Int)).bind fun t281 => ((polyglotlaw18_text.f t281).bind fun t282 => (if (t279 ++ t280).size + t282.size ≤ 9223372036854775807 then (polyglotlaw18_Bytes.l0 k ((t279 ++ t280) ++ t282) l0_4 (l0_4.length : Int) 0) else (none)))) else (none)))) else ((polyglotlaw18_text.f (⟨#[113]⟩ : ByteArray)).bind fun t285 => ((polyglotlaw18_text.f a0_5).bind fun t286 => (if t285.size + t286.size ≤ 9223372036854775807 then ((polyglotlaw18_text.f a0_6).bind fun t287 => (if (t285 ++ t286).size + t287.size ≤ 9223372036854775807 then ((strconv_Itoa.f (l0_7.length : Int)).bind fun t288 => ((polyglotlaw18_text.f t288).bind fun t289 => (if ((t285 ++ t286) ++ t287).size + t289.size ≤ 9223372036854775807 then (polyglotlaw18_Bytes.l1 k (((t285 ++ t286) ++ t287) ++ t289) l0_7 (l0_7.length : Int) 0) else (none)))) else (none))) else (none)))))
theorem polyglotlaw18_Bytes.mono_l : ∀ k, (∀ y0 y1 y2 y3 y4 y5 y6 y7 y8, LeO (polyglotlaw18_Bytes.j0 k y0 y1 y2 y3 y4 y5 y6 y7 y8) (polyglotlaw18_Bytes.j0 (k + 1) y0 y1 y2 y3 y4 y5 y6 y7 y8)) ∧ (∀ y0 y1 y2 y3, LeO (polyglotlaw18_Bytes.l0 k y0 y1 y2 y3) (polyglotlaw18_Bytes.l0 (k + 1) y0 y1 y2 y3)) ∧ (∀ y0 y1 y2 y3, LeO (polyglotlaw18_Bytes.l1 k y0 y1 y2 y3) (polyglotlaw18_Bytes.l1 (k + 1) y0 y1 y2 y3))
 | 0 => ⟨fun _ _ _ _ _ _ _ _ _ r h => by simp [polyglotlaw18_Bytes.j0] at h, fun _ _ _ _ r h => by simp [polyglotlaw18_Bytes.l0] at h, fun _ _ _ _ r h => by simp [polyglotlaw18_Bytes.l1] at h⟩
 | k + 1 => by
  obtain ⟨ih0, ih1, ih2⟩ := polyglotlaw18_Bytes.mono_l k
  refine ⟨?_, ?_, ?_⟩
  ·intro y0 y1 y2 y3 y4 y5 y6 y7 y8
   unfold polyglotlaw18_Bytes.j0
   repeat' first
   | (with_reducible exact ih0 _ _ _ _ _ _ _ _ _)
   | (with_reducible exact ih1 _ _ _ _)
   | (with_reducible exact ih2 _ _ _ _)
   | (with_reducible exact LeO.refl _)
   | (with_reducible exact LeO.none _)
   | (with_reducible refine LeO.ite ?_ ?_)
   | (with_reducible refine LeO.bind ?_ (fun _ => ?_))
   | exact ih0 _ _ _ _ _ _ _ _ _
   | exact ih1 _ _ _ _
   | exact ih2 _ _ _ _
   | exact LeO.none _
   | refine LeO.ite ?_ ?_
   | refine LeO.bind ?_ (fun _ => ?_)
  ·intro y0 y1 y2 y3
   unfold polyglotlaw18_Bytes.l0
   repeat' first
   | (with_reducible exact ih0 _ _ _ _ _ _ _ _ _)
   | (with_reducible exact ih1 _ _ _ _)
   | (with_reducible exact ih2 _ _ _ _)
   | (with_reducible exact LeO.refl _)
   | (with_reducible exact LeO.none _)
   | (with_reducible refine LeO.ite ?_ ?_)
   | (with_reducible refine LeO.bind ?_ (fun _ => ?_))
   | exact ih0 _ _ _ _ _ _ _ _ _
   | exact ih1 _ _ _ _
   | exact ih2 _ _ _ _
   | exact LeO.none _
   | refine LeO.ite ?_ ?_
   | refine LeO.bind ?_ (fun _ => ?_)
  ·intro y0 y1 y2 y3
   unfold polyglotlaw18_Bytes.l1
   repeat' first
   | (with_reducible exact ih0 _ _ _ _ _ _ _ _ _)
   | (with_reducible exact ih1 _ _ _ _)
   | (with_reducible exact ih2 _ _ _ _)
   | (with_reducible exact LeO.refl _)
   | (with_reducible exact LeO.none _)
   | (with_reducible refine LeO.ite ?_ ?_)
   | (with_reducible refine LeO.bind ?_ (fun _ => ?_))
   | exact ih0 _ _ _ _ _ _ _ _ _
   | exact ih1 _ _ _ _
   | exact ih2 _ _ _ _
   | exact LeO.none _
   | refine LeO.ite ?_ ?_
   | refine LeO.bind ?_ (fun _ => ?_)
theorem polyglotlaw18_Bytes.mono : ∀ a0 a1 a2 a3 a4 a5 a6 a7 k, LeO (polyglotlaw18_Bytes.f k a0 a1 a2 a3 a4 a5 a6 a7) (polyglotlaw18_Bytes.f (k + 1) a0 a1 a2 a3 a4 a5 a6 a7) := by
 intro a0 a1 a2 a3 a4 a5 a6 a7 k
 obtain ⟨ih0, ih1, ih2⟩ := polyglotlaw18_Bytes.mono_l k
 unfold polyglotlaw18_Bytes.f
 repeat' first
   | (with_reducible exact ih0 _ _ _ _ _ _ _ _ _)
   | (with_reducible exact ih1 _ _ _ _)
   | (with_reducible exact ih2 _ _ _ _)
   | (with_reducible exact LeO.refl _)
   | (with_reducible exact LeO.none _)
   | (with_reducible refine LeO.ite ?_ ?_)
   | (with_reducible refine LeO.bind ?_ (fun _ => ?_))
   | exact ih0 _ _ _ _ _ _ _ _ _
   | exact ih1 _ _ _ _
   | exact ih2 _ _ _ _
   | exact LeO.none _
   | refine LeO.ite ?_ ?_
   | refine LeO.bind ?_ (fun _ => ?_)
def polyglotlaw18_Bytes.B5 : List Nat := [0, 0, 2, 7, 15, 0, 47, 127, 0, 256, 879, 2047, 4095]
def polyglotlaw18_Bytes.B7 : List Nat := [0, 0, 2, 7, 15, 0, 32, 96, 239, 495, 1023, 2047]
end Go.Proofs.YtdhpcofnddkcaaaGreatDoor.S
namespace Go.Proofs.YtdhpcofnddkcaaaGreatDoor.S
open Go.RowKit Go.Proofs.YtdhpcofnddkcaaaGreatDoor.G Go.Proofs.YtdhpcofnddkcaaaGreatDoorW.PrintWords Go.Proofs.YtdhpcofnddkcaaaGreatDoorW.PrintLast Go.Proofs.YtdhpcofnddkcaaaGreatDoorW.PrintMore
set_option linter.unusedVariables false
set_option linter.unusedSimpArgs false
theorem rdB9 (l : List ByteArray) (i : Nat) (h : i < l.length) : rdOf ByteArray.empty l (i : Int) = l[i] := by
  unfold rdOf
  rw [Int.toNat_natCast, List.getD_eq_getElem?_getD, List.getElem?_eq_getElem h]
  rfl
end Go.Proofs.YtdhpcofnddkcaaaGreatDoor.S
namespace Go.Proofs.YtdhpcofnddkcaaaGreatDoor.S
open Go.RowKit Go.Proofs.YtdhpcofnddkcaaaGreatDoor.G Go.Proofs.YtdhpcofnddkcaaaGreatDoorW.PrintWords Go.Proofs.YtdhpcofnddkcaaaGreatDoorW.PrintLast Go.Proofs.YtdhpcofnddkcaaaGreatDoorW.PrintMore
set_option linter.unusedVariables false
set_option linter.unusedSimpArgs false
theorem rd29 (l : List S29) (i : Nat) (h : i < l.length) : rd_T29 l (i : Int) = l[i] := by
  unfold rd_T29
  rw [Int.toNat_natCast, List.getD_eq_getElem?_getD, List.getElem?_eq_getElem h]
  rfl
theorem encS_len (L : List Net.St) : 3 * L.length ≤ (Net.encS L).length := by
  induction L with
  | nil => simp
  | cons s t ih =>
    rw [Net.encS_cons, List.length_append, List.length_cons]
    have := Net.parts_len s
    omega
end Go.Proofs.YtdhpcofnddkcaaaGreatDoor.S
namespace Go.Proofs.YtdhpcofnddkcaaaGreatDoor.S
open Go.RowKit Go.Proofs.YtdhpcofnddkcaaaGreatDoor.G Go.Proofs.YtdhpcofnddkcaaaGreatDoorW.PrintWords Go.Proofs.YtdhpcofnddkcaaaGreatDoorW.PrintLast Go.Proofs.YtdhpcofnddkcaaaGreatDoorW.PrintMore
attribute [local go_sem] max2_int min2_int max_two min_two max_three min_three max_four min_four
set_option linter.unusedVariables false
set_option linter.unusedSimpArgs false
namespace Sx5
theorem cellsF3 {w : World} {g : Nat} {t : TypeId} {a0 a1 a2 : Value} (h : w.heap[g]? = some (.cells #[a0, a1, a2] t (0, 0))) : w.cell? ⟨g, 0, none⟩ = some a0 ∧ w.cell? ⟨g, 1, none⟩ = some a1 ∧ w.cell? ⟨g, 2, none⟩ = some a2 ∧ w.frozen? ⟨g, 0, none⟩ = false ∧ w.frozen? ⟨g, 1, none⟩ = false ∧ w.frozen? ⟨g, 2, none⟩ = false := ⟨(blk_cell h 0).trans rfl, (blk_cell h 1).trans rfl, (blk_cell h 2).trans rfl, blk_frozen h 0, blk_frozen h 1, blk_frozen h 2⟩
theorem cellsF8 {w : World} {g : Nat} {t : TypeId} {a0 a1 a2 a3 a4 a5 a6 a7 : Value} (h : w.heap[g]? = some (.cells #[a0, a1, a2, a3, a4, a5, a6, a7] t (0, 0))) : w.cell? ⟨g, 0, none⟩ = some a0 ∧ w.cell? ⟨g, 1, none⟩ = some a1 ∧ w.cell? ⟨g, 2, none⟩ = some a2 ∧ w.cell? ⟨g, 3, none⟩ = some a3 ∧ w.cell? ⟨g, 4, none⟩ = some a4 ∧ w.cell? ⟨g, 5, none⟩ = some a5 ∧ w.cell? ⟨g, 6, none⟩ = some a6 ∧ w.cell? ⟨g, 7, none⟩ = some a7 ∧ w.frozen? ⟨g, 0, none⟩ = false ∧ w.frozen? ⟨g, 1, none⟩ = false ∧ w.frozen? ⟨g, 2, none⟩ = false ∧ w.frozen? ⟨g, 3, none⟩ = false ∧ w.frozen? ⟨g, 4, none⟩ = false ∧ w.frozen? ⟨g, 5, none⟩ = false ∧ w.frozen? ⟨g, 6, none⟩ = false ∧ w.frozen? ⟨g, 7, none⟩ = false := ⟨(blk_cell h 0).trans rfl, (blk_cell h 1).trans rfl, (blk_cell h 2).trans rfl, (blk_cell h 3).trans rfl, (blk_cell h 4).trans rfl, (blk_cell h 5).trans rfl, (blk_cell h 6).trans rfl, (blk_cell h 7).trans rfl, blk_frozen h 0, blk_frozen h 1, blk_frozen h 2, blk_frozen h 3, blk_frozen h 4, blk_frozen h 5, blk_frozen h 6, blk_frozen h 7⟩
theorem q0_ {p_ : Prop} (h_ : p_ := by repeat (first | (with_reducible first | exact HB.out | apply below_alloc | apply pw_below_drewN | apply below_drew1 | refine below_set ?_ GE115.out) | exact HB.out)) : p_ := h_
theorem q1_ {p_ : Prop} (h_ : p_ := by repeat (first | (with_reducible first | exact HB.out | apply below_alloc | apply pw_below_drewN | apply below_drew1) | exact HB.out)) : p_ := h_
theorem q2_ {p_ : Prop} (h_ : p_ := by first | rfl | (simp; done) | (simp [*]; done)) : p_ := h_
theorem q3_ {p_ : Prop} (h_ : p_ := by (with_reducible repeat (first | refine blk_drewN ?_ _ | refine blk_drew ?_ | refine blk_alloc ?_ _)); exact BK115.out) : p_ := h_
theorem q4_ {p_ : Prop} (h_ : p_ := by first | rfl | (simp [errW_none, errW_some] <;> rfl) | (simp [*, errW_none, errW_some] <;> rfl)) : p_ := h_
theorem q5_ {p_ : Prop} (h_ : p_ := by first | (with_reducible assumption) | assumption) : p_ := h_
end Sx5
open Sx5
mutual
def polyglotlaw18_Few.l0 : Nat → List (S29) → Int → List (S29) → Int → Int → Option (Bool)
 | 0, _, _, _, _, _ => none
 | k + 1, x0, x3, x10, x11, x12 => if x12 < x11 then (if 0 ≤ x12 then (if x12 < (x10.length : Int) then (polyglotlaw18_Few.l1 k x0 (wrap64 (x3 + (wrap64 ((wrap64 ((wrap64 ((((rd_T29 x10 x12).f1).size : Int) + (((rd_T29 x10 x12).f2).size : Int))) + (((rd_T29 x10 x12).f5).size : Int))) + (((rd_T29 x10 x12).f6).size : Int))))) x10 x11 x12 ((rd_T29 x10 x12).f4) (((rd_T29 x10 x12).f4).length : Int) 0 ((rd_T29 x10 x12).f0) ((rd_T29 x10 x12).f1) ((rd_T29 x10 x12).f2) ((rd_T29 x10 x12).f3) ((rd_T29 x10 x12).f4) ((rd_T29 x10 x12).f5) ((rd_T29 x10 x12).f6) ((rd_T29 x10 x12).f7)) else (none)) else (none)) else (if (x0.length : Int) ≤ 20 then (some (decide (x3 ≤ 3000))) else (some false))
def polyglotlaw18_Few.l1 : Nat → List (S29) → Int → List (S29) → Int → Int → List ByteArray → Int → Int → Int → ByteArray → ByteArray → Bool → List ByteArray → ByteArray → ByteArray → List (S44) → Option (Bool)
 | 0, _, _, _, _, _, _, _, _, _, _, _, _, _, _, _, _ => none
 | k + 1, x0, x3, x10, x11, x12, x34, x35, x36, x116000, x116001, x116002, x116003, x116004, x116005, x116006, x116007 => if x36 < x35 then (if 0 ≤ x36 then (if x36 < (x34.length : Int) then (polyglotlaw18_Few.l1 k x0 (wrap64 (x3 + ((rdOf ByteArray.empty x34 x36).size : Int))) x10 x11 x12 x34 x35 (wrap64 (x36 + 1)) x116000 x116001 x116002 x116003 x116004 x116005 x116006 x116007) else (none)) else (none)) else (polyglotlaw18_Few.l2 k x0 x3 x10 x11 x12 x116007 (x116007.length : Int) 0 x116000 x116001 x116002 x116003 x116004 x116005 x116006 x116007)
def polyglotlaw18_Few.l2 : Nat → List (S29) → Int → List (S29) → Int → Int → List (S44) → Int → Int → Int → ByteArray → ByteArray → Bool → List ByteArray → ByteArray → ByteArray → List (S44) → Option (Bool)
 | 0, _, _, _, _, _, _, _, _, _, _, _, _, _, _, _, _ => none
 | k + 1, x0, x3, x10, x11, x12, x46, x47, x48, x116000, x116001, x116002, x116003, x116004, x116005, x116006, x116007 => if x48 < x47 then (if 0 ≤ x48 then (if x48 < (x46.length : Int) then (polyglotlaw18_Few.l2 k x0 (wrap64 (x3 + (wrap64 ((((rd_T44 x46 x48).f0).size : Int) + (((rd_T44 x46 x48).f2).size : Int))))) x10 x11 x12 x46 x47 (wrap64 (x48 + 1)) x116000 x116001 x116002 x116003 x116004 x116005 x116006 x116007) else (none)) else (none)) else (if (x116004.length : Int) > 20 then (some false) else (if (x116007.length : Int) > 20 then (some false) else (polyglotlaw18_Few.l0 k x0 x3 x10 x11 (wrap64 (x12 + 1)))))
end
def polyglotlaw18_Few.f (k : Nat) (l0 : List (S29)) : Option (Bool) := polyglotlaw18_Few.l0 k l0 0 l0 (l0.length : Int) 0
theorem polyglotlaw18_Few.mono_l : ∀ k, (∀ y0 y1 y2 y3 y4, LeO (polyglotlaw18_Few.l0 k y0 y1 y2 y3 y4) (polyglotlaw18_Few.l0 (k + 1) y0 y1 y2 y3 y4)) ∧ (∀ y0 y1 y2 y3 y4 y5 y6 y7 y8 y9 y10 y11 y12 y13 y14 y15, LeO (polyglotlaw18_Few.l1 k y0 y1 y2 y3 y4 y5 y6 y7 y8 y9 y10 y11 y12 y13 y14 y15) (polyglotlaw18_Few.l1 (k + 1) y0 y1 y2 y3 y4 y5 y6 y7 y8 y9 y10 y11 y12 y13 y14 y15)) ∧ (∀ y0 y1 y2 y3 y4 y5 y6 y7 y8 y9 y10 y11 y12 y13 y14 y15, LeO (polyglotlaw18_Few.l2 k y0 y1 y2 y3 y4 y5 y6 y7 y8 y9 y10 y11 y12 y13 y14 y15) (polyglotlaw18_Few.l2 (k + 1) y0 y1 y2 y3 y4 y5 y6 y7 y8 y9 y10 y11 y12 y13 y14 y15))
 | 0 => ⟨fun _ _ _ _ _ r h => by simp [polyglotlaw18_Few.l0] at h, fun _ _ _ _ _ _ _ _ _ _ _ _ _ _ _ _ r h => by simp [polyglotlaw18_Few.l1] at h, fun _ _ _ _ _ _ _ _ _ _ _ _ _ _ _ _ r h => by simp [polyglotlaw18_Few.l2] at h⟩
 | k + 1 => by
  obtain ⟨ih0, ih1, ih2⟩ := polyglotlaw18_Few.mono_l k
  refine ⟨?_, ?_, ?_⟩
  ·intro y0 y1 y2 y3 y4
   unfold polyglotlaw18_Few.l0
   repeat' first
   | (with_reducible exact ih0 _ _ _ _ _)
   | (with_reducible exact ih1 _ _ _ _ _ _ _ _ _ _ _ _ _ _ _ _)
   | (with_reducible exact ih2 _ _ _ _ _ _ _ _ _ _ _ _ _ _ _ _)
   | (with_reducible exact LeO.refl _)
   | (with_reducible exact LeO.none _)
   | (with_reducible refine LeO.ite ?_ ?_)
   | (with_reducible refine LeO.bind ?_ (fun _ => ?_))
   | exact ih0 _ _ _ _ _
   | exact ih1 _ _ _ _ _ _ _ _ _ _ _ _ _ _ _ _
   | exact ih2 _ _ _ _ _ _ _ _ _ _ _ _ _ _ _ _
   | exact LeO.none _
   | refine LeO.ite ?_ ?_
   | refine LeO.bind ?_ (fun _ => ?_)
  ·intro y0 y1 y2 y3 y4 y5 y6 y7 y8 y9 y10 y11 y12 y13 y14 y15
   unfold polyglotlaw18_Few.l1
   repeat' first
   | (with_reducible exact ih0 _ _ _ _ _)
   | (with_reducible exact ih1 _ _ _ _ _ _ _ _ _ _ _ _ _ _ _ _)
   | (with_reducible exact ih2 _ _ _ _ _ _ _ _ _ _ _ _ _ _ _ _)
   | (with_reducible exact LeO.refl _)
   | (with_reducible exact LeO.none _)
   | (with_reducible refine LeO.ite ?_ ?_)
   | (with_reducible refine LeO.bind ?_ (fun _ => ?_))
   | exact ih0 _ _ _ _ _
   | exact ih1 _ _ _ _ _ _ _ _ _ _ _ _ _ _ _ _
   | exact ih2 _ _ _ _ _ _ _ _ _ _ _ _ _ _ _ _
   | exact LeO.none _
   | refine LeO.ite ?_ ?_
   | refine LeO.bind ?_ (fun _ => ?_)
  ·intro y0 y1 y2 y3 y4 y5 y6 y7 y8 y9 y10 y11 y12 y13 y14 y15
   unfold polyglotlaw18_Few.l2
   repeat' first
   | (with_reducible exact ih0 _ _ _ _ _)
   | (with_reducible exact ih1 _ _ _ _ _ _ _ _ _ _ _ _ _ _ _ _)
   | (with_reducible exact ih2 _ _ _ _ _ _ _ _ _ _ _ _ _ _ _ _)
   | (with_reducible exact LeO.refl _)
   | (with_reducible exact LeO.none _)
   | (with_reducible refine LeO.ite ?_ ?_)
   | (with_reducible refine LeO.bind ?_ (fun _ => ?_))
   | exact ih0 _ _ _ _ _
   | exact ih1 _ _ _ _ _ _ _ _ _ _ _ _ _ _ _ _
   | exact ih2 _ _ _ _ _ _ _ _ _ _ _ _ _ _ _ _
   | exact LeO.none _
   | refine LeO.ite ?_ ?_
   | refine LeO.bind ?_ (fun _ => ?_)
theorem polyglotlaw18_Few.mono : ∀ a0 k, LeO (polyglotlaw18_Few.f k a0) (polyglotlaw18_Few.f (k + 1) a0) := by
 intro a0 k
 obtain ⟨ih0, ih1, ih2⟩ := polyglotlaw18_Few.mono_l k
 unfold polyglotlaw18_Few.f
 repeat' first
   | (with_reducible exact ih0 _ _ _ _ _)
   | (with_reducible exact ih1 _ _ _ _ _ _ _ _ _ _ _ _ _ _ _ _)
   | (with_reducible exact ih2 _ _ _ _ _ _ _ _ _ _ _ _ _ _ _ _)
   | (with_reducible exact LeO.refl _)
   | (with_reducible exact LeO.none _)
   | (with_reducible refine LeO.ite ?_ ?_)
   | (with_reducible refine LeO.bind ?_ (fun _ => ?_))
   | exact ih0 _ _ _ _ _
   | exact ih1 _ _ _ _ _ _ _ _ _ _ _ _ _ _ _ _
   | exact ih2 _ _ _ _ _ _ _ _ _ _ _ _ _ _ _ _
   | exact LeO.none _
   | refine LeO.ite ?_ ?_
   | refine LeO.bind ?_ (fun _ => ?_)
set_option maxHeartbeats 8000000 in
set_option maxRecDepth 100000 in
theorem polyglotlaw18_Few.calls (k : Nat) (A0 : Option Addr) (c0 : Nat) (l0 : List (S29)) (r : Bool) (w : World) (hr0 : Kd.C k29 w A0 l0.length l0) (hc0 : l0.length ≤ c0) (h : polyglotlaw18_Few.f k l0 = some r) :
  Calls Tryz.prog 10 #[.slice A0 l0.length c0] w fun e w' => e = .returned (.bool r) ∧ Below w.heap.size w w' := by
 have hu29 := Tryz.underlying29
 have hu44 := Tryz.underlying44
 have HR0 := Aside0.mk hr0
 have HC0 := Aside0.mk hc0
 clear hr0 hc0
 have HB := Aside0.mk (Below.refl w.heap.size w)
 have H : (polyglotlaw18_Few.l0 k l0 0 l0 (l0.length : Int) 0) = some r := h
 clear h
 have H' := Aside0.mk H
 clear H
 go_enter Tryz.func10, Tryz.ntmps10
 go_wp2
 go_loopg [3, 12] k (fun kq v3 v12 w' => ∃ (x3_1 : Int) (x12_1 : Int), v3 = .int .i64 x3_1 ∧ v12 = .int .i64 x12_1 ∧ Aside0 (polyglotlaw18_Few.l0 kq l0 x3_1 l0 (l0.length : Int) x12_1 = some r) ∧ Aside0 (kq ≤ k) ∧ Aside0 (Below w.heap.size w w'))
 case atStart => exact ⟨(0), (0), q2_, q2_, H', ⟨Nat.le_refl _⟩, ⟨q1_⟩⟩
 case round =>
  clear H'
  try clear c1
  obtain ⟨x3_1, x12_1, rfl, rfl, HA, HK1, HB⟩ := hrel
  cases gk with
  | zero => exact absurd HA.out (by simp [polyglotlaw18_Few.l0])
  | succ k1 =>
   have H := HA.out
   clear HA
   simp only [polyglotlaw18_Few.l0] at H
   by_cases c2 : x12_1 < (l0.length : Int)
   ·rw [if_pos c2] at H
    have c2b0 : decide (x12_1 < (l0.length : Int)) = true := decide_eq_true c2
    clear c2
    by_cases c3 : 0 ≤ x12_1
    ·rw [if_pos c3] at H
     have c3b0 : decide (0 ≤ x12_1) = true := decide_eq_true c3
     clear c3
     by_cases c4 : x12_1 < (l0.length : Int)
     ·rw [if_pos c4] at H
      have c4b0 : decide (x12_1 < (l0.length : Int)) = true := decide_eq_true c4
      clear c4
      have H' := Aside0.mk H
      clear H
      have p114 : 0 ≤ (x12_1 : Int) := of_decide_eq_true q5_
      have q114 : x12_1 < (l0.length : Int) := of_decide_eq_true q5_
      obtain ⟨ad114, A114_4, c114_4, A114_7, c114_7, e114, hx114_0, hx114_1, hx114_2, hx114_3, hx114_4, hx114_5, hx114_6, hx114_7, hl114_4, hi114_4, hl114_7, hi114_7⟩ := at_T29 HR0.out x12_1 p114 q114
      cases e114
      replace hx114_0 := (HB.out.cell (World.block_lt_of_cell? w _ hx114_0)).trans hx114_0
      replace hx114_1 := (HB.out.cell (World.block_lt_of_cell? w _ hx114_1)).trans hx114_1
      replace hx114_2 := (HB.out.cell (World.block_lt_of_cell? w _ hx114_2)).trans hx114_2
      replace hx114_3 := (HB.out.cell (World.block_lt_of_cell? w _ hx114_3)).trans hx114_3
      replace hx114_4 := (HB.out.cell (World.block_lt_of_cell? w _ hx114_4)).trans hx114_4
      replace hx114_5 := (HB.out.cell (World.block_lt_of_cell? w _ hx114_5)).trans hx114_5
      replace hx114_6 := (HB.out.cell (World.block_lt_of_cell? w _ hx114_6)).trans hx114_6
      replace hx114_7 := (HB.out.cell (World.block_lt_of_cell? w _ hx114_7)).trans hx114_7
      have HR114_4 := Aside0.mk hi114_4
      have HC114_4 := Aside0.mk hl114_4
      clear hi114_4 hl114_4
      have HR114_7 := Aside0.mk hi114_7
      have HC114_7 := Aside0.mk hl114_7
      clear hi114_7 hl114_7
      replace p114 := eq_true p114
      replace q114 := eq_true q114
      go_wp2_with (first | ((with_reducible refine gate_dst (N := 5) rfl ?_); (try (refine gate_guard (by rfl) ?_; dsimp only)); refine box_event ?hg (N := 5) ?hd (cs := #[.int .i64 0, .string (⟨#[]⟩ : ByteArray), .string (⟨#[]⟩ : ByteArray), .bool false, .slice none 0 0, .string (⟨#[]⟩ : ByteArray), .string (⟨#[]⟩ : ByteArray), .slice none 0 0]) (t := 29) ?hr ?_; (case hd => rfl); (case hg => rfl); (case hr => first | (go_simp; done) | (go_simp; rfl)); intro gb115 hg w5 hbox hb; have BK115 := Aside0.mk (hbox); have GW115 := Aside0.mk (((by rw [hg]; exact (below_size q1_)) : w.heap.size ≤ gb115)); have GE115 := Aside0.mk (((by rw [hg]; exact (below_size q1_)) : w.heap.size ≤ gb115)); replace HB := Aside0.mk (below_step q1_ hb); clear hb hbox hg; obtain ⟨hcz6_0, hcz6_1, hcz6_2, hcz6_3, hcz6_4, hcz6_5, hcz6_6, hcz6_7, hfz6_0, hfz6_1, hfz6_2, hfz6_3, hfz6_4, hfz6_5, hfz6_6, hfz6_7⟩ := cellsF8 BK115.out))
      go_loopg [3, 36] k1 (fun kq v3 v36 w' => ∃ (x3_2 : Int) (x36_2 : Int), v3 = .int .i64 x3_2 ∧ v36 = .int .i64 x36_2 ∧ Aside0 (polyglotlaw18_Few.l1 kq l0 x3_2 l0 (l0.length : Int) x12_1 ((rd_T29 l0 x12_1).f4) (((rd_T29 l0 x12_1).f4).length : Int) x36_2 ((rd_T29 l0 x12_1).f0) ((rd_T29 l0 x12_1).f1) ((rd_T29 l0 x12_1).f2) ((rd_T29 l0 x12_1).f3) ((rd_T29 l0 x12_1).f4) ((rd_T29 l0 x12_1).f5) ((rd_T29 l0 x12_1).f6) ((rd_T29 l0 x12_1).f7) = some r) ∧ Aside0 (kq ≤ k1) ∧ Aside0 (w'.heap[gb115]? = some (.cells #[.int .i64 ((rd_T29 l0 x12_1).f0), .string ((rd_T29 l0 x12_1).f1), .string ((rd_T29 l0 x12_1).f2), .bool ((rd_T29 l0 x12_1).f3), (.slice A114_4 ((rd_T29 l0 x12_1).f4).length c114_4), .string ((rd_T29 l0 x12_1).f5), .string ((rd_T29 l0 x12_1).f6), (.slice A114_7 ((rd_T29 l0 x12_1).f7).length c114_7)] 29 (0, 0))) ∧ Aside0 (Below w.heap.size w w'))
      case atStart => exact ⟨(wrap64 (x3_1 + (wrap64 ((wrap64 ((wrap64 ((((rd_T29 l0 x12_1).f1).size : Int) + (((rd_T29 l0 x12_1).f2).size : Int))) + (((rd_T29 l0 x12_1).f5).size : Int))) + (((rd_T29 l0 x12_1).f6).size : Int))))), (0), q2_, q2_, H', ⟨Nat.le_refl _⟩, ⟨(by (with_reducible repeat (first | refine blk_drewN ?_ _ | refine blk_drew ?_ | refine blk_alloc ?_ _)); refine blk_put (cs := #[.int .i64 ((rd_T29 l0 x12_1).f0), .string ((rd_T29 l0 x12_1).f1), .string ((rd_T29 l0 x12_1).f2), .bool ((rd_T29 l0 x12_1).f3), .slice A114_4 ((rd_T29 l0 x12_1).f4).length c114_4, .string ((rd_T29 l0 x12_1).f5), .string ((rd_T29 l0 x12_1).f6), .slice none 0 0]) ?_ 7 _ rfl; (with_reducible repeat (first | refine blk_drewN ?_ _ | refine blk_drew ?_ | refine blk_alloc ?_ _)); refine blk_put (cs := #[.int .i64 ((rd_T29 l0 x12_1).f0), .string ((rd_T29 l0 x12_1).f1), .string ((rd_T29 l0 x12_1).f2), .bool ((rd_T29 l0 x12_1).f3), .slice A114_4 ((rd_T29 l0 x12_1).f4).length c114_4, .string ((rd_T29 l0 x12_1).f5), .string (⟨#[]⟩ : ByteArray), .slice none 0 0]) ?_ 6 _ rfl; (with_reducible repeat (first | refine blk_drewN ?_ _ | refine blk_drew ?_ | refine blk_alloc ?_ _)); refine blk_put (cs := #[.int .i64 ((rd_T29 l0 x12_1).f0), .string ((rd_T29 l0 x12_1).f1), .string ((rd_T29 l0 x12_1).f2), .bool ((rd_T29 l0 x12_1).f3), .slice A114_4 ((rd_T29 l0 x12_1).f4).length c114_4, .string (⟨#[]⟩ : ByteArray), .string (⟨#[]⟩ : ByteArray), .slice none 0 0]) ?_ 5 _ rfl; (with_reducible repeat (first | refine blk_drewN ?_ _ | refine blk_drew ?_ | refine blk_alloc ?_ _)); refine blk_put (cs := #[.int .i64 ((rd_T29 l0 x12_1).f0), .string ((rd_T29 l0 x12_1).f1), .string ((rd_T29 l0 x12_1).f2), .bool ((rd_T29 l0 x12_1).f3), .slice none 0 0, .string (⟨#[]⟩ : ByteArray), .string (⟨#[]⟩ : ByteArray), .slice none 0 0]) ?_ 4 _ rfl; (with_reducible repeat (first | refine blk_drewN ?_ _ | refine blk_drew ?_ | refine blk_alloc ?_ _)); refine blk_put (cs := #[.int .i64 ((rd_T29 l0 x12_1).f0), .string ((rd_T29 l0 x12_1).f1), .string ((rd_T29 l0 x12_1).f2), .bool false, .slice none 0 0, .string (⟨#[]⟩ : ByteArray), .string (⟨#[]⟩ : ByteArray), .slice none 0 0]) ?_ 3 _ rfl; (with_reducible repeat (first | refine blk_drewN ?_ _ | refine blk_drew ?_ | refine blk_alloc ?_ _)); refine blk_put (cs := #[.int .i64 ((rd_T29 l0 x12_1).f0), .string ((rd_T29 l0 x12_1).f1), .string (⟨#[]⟩ : ByteArray), .bool false, .slice none 0 0, .string (⟨#[]⟩ : ByteArray), .string (⟨#[]⟩ : ByteArray), .slice none 0 0]) ?_ 2 _ rfl; (with_reducible repeat (first | refine blk_drewN ?_ _ | refine blk_drew ?_ | refine blk_alloc ?_ _)); refine blk_put (cs := #[.int .i64 ((rd_T29 l0 x12_1).f0), .string (⟨#[]⟩ : ByteArray), .string (⟨#[]⟩ : ByteArray), .bool false, .slice none 0 0, .string (⟨#[]⟩ : ByteArray), .string (⟨#[]⟩ : ByteArray), .slice none 0 0]) ?_ 1 _ rfl; (with_reducible repeat (first | refine blk_drewN ?_ _ | refine blk_drew ?_ | refine blk_alloc ?_ _)); refine blk_put (cs := #[.int .i64 0, .string (⟨#[]⟩ : ByteArray), .string (⟨#[]⟩ : ByteArray), .bool false, .slice none 0 0, .string (⟨#[]⟩ : ByteArray), .string (⟨#[]⟩ : ByteArray), .slice none 0 0]) ?_ 0 _ rfl; (with_reducible repeat (first | refine blk_drewN ?_ _ | refine blk_drew ?_ | refine blk_alloc ?_ _)); exact BK115.out)⟩, ⟨q0_⟩⟩
      case round =>
       clear H'
       try clear c1
       try clear p1
       try clear q1
       try clear hx1
       try clear c2
       try clear c2b0
       try clear p2
       try clear c3
       try clear c3b0
       try clear c4
       try clear c4b0
       try clear p6
       try clear hcz6_0 hcz6_1 hcz6_2 hcz6_3 hcz6_4 hcz6_5 hcz6_6 hcz6_7
       try clear hfz6_0 hfz6_1 hfz6_2 hfz6_3 hfz6_4 hfz6_5 hfz6_6 hfz6_7
       try clear hx114_0
       try clear hx114_1
       try clear hx114_2
       try clear hx114_3
       try clear hx114_4
       try clear hx114_5
       try clear hx114_6
       try clear hx114_7
       try clear p114
       try clear q114
       obtain ⟨x3_2, x36_2, rfl, rfl, HA, HK2, BK115, HB⟩ := hrel
       cases gk with
       | zero => exact absurd HA.out (by simp [polyglotlaw18_Few.l1])
       | succ k2 =>
        have H := HA.out
        clear HA
        simp only [polyglotlaw18_Few.l1] at H
        by_cases c7 : x36_2 < (((rd_T29 l0 x12_1).f4).length : Int)
        ·rw [if_pos c7] at H
         have c7b0 : decide (x36_2 < (((rd_T29 l0 x12_1).f4).length : Int)) = true := decide_eq_true c7
         clear c7
         by_cases c8 : 0 ≤ x36_2
         ·rw [if_pos c8] at H
          have c8b0 : decide (0 ≤ x36_2) = true := decide_eq_true c8
          clear c8
          by_cases c9 : x36_2 < (((rd_T29 l0 x12_1).f4).length : Int)
          ·rw [if_pos c9] at H
           have c9b0 : decide (x36_2 < (((rd_T29 l0 x12_1).f4).length : Int)) = true := decide_eq_true c9
           clear c9
           have H' := Aside0.mk H
           clear H
           have p116 : 0 ≤ (x36_2 : Int) := of_decide_eq_true q5_
           have q116 : x36_2 < (((rd_T29 l0 x12_1).f4).length : Int) := of_decide_eq_true q5_
           obtain ⟨ad116, e116, hx116_0⟩ := Kd.at_string HR114_4.out x36_2 p116 q116
           cases e116
           replace hx116_0 := (HB.out.cell (World.block_lt_of_cell? w _ hx116_0)).trans hx116_0
           replace p116 := eq_true p116
           replace q116 := eq_true q116
           go_wp2
           go_roundg k2
           case measure => have := HK1.out; have := HK2.out; omega
           case rel => exact ⟨(wrap64 (x3_2 + ((rdOf ByteArray.empty ((rd_T29 l0 x12_1).f4) x36_2).size : Int))), (wrap64 (x36_2 + 1)), q2_, q2_, H', ⟨(by have := HK1.out; have := HK2.out; omega)⟩, ⟨q3_⟩, ⟨q0_⟩⟩
          ·rw [if_neg c9] at H
           exact absurd H (by simp)
         ·rw [if_neg c8] at H
          exact absurd H (by simp)
        ·rw [if_neg c7] at H
         have c7b0 : decide (x36_2 < (((rd_T29 l0 x12_1).f4).length : Int)) = false := decide_eq_false c7
         clear c7
         have H' := Aside0.mk H
         clear H
         obtain ⟨hcz10_0, hcz10_1, hcz10_2, hcz10_3, hcz10_4, hcz10_5, hcz10_6, hcz10_7, hfz10_0, hfz10_1, hfz10_2, hfz10_3, hfz10_4, hfz10_5, hfz10_6, hfz10_7⟩ := cellsF8 BK115.out
         go_wp2
         go_loopg [3, 48] k2 (fun kq v3 v48 w' => ∃ (x3_3 : Int) (x48_3 : Int), v3 = .int .i64 x3_3 ∧ v48 = .int .i64 x48_3 ∧ Aside0 (polyglotlaw18_Few.l2 kq l0 x3_3 l0 (l0.length : Int) x12_1 ((rd_T29 l0 x12_1).f7) (((rd_T29 l0 x12_1).f7).length : Int) x48_3 ((rd_T29 l0 x12_1).f0) ((rd_T29 l0 x12_1).f1) ((rd_T29 l0 x12_1).f2) ((rd_T29 l0 x12_1).f3) ((rd_T29 l0 x12_1).f4) ((rd_T29 l0 x12_1).f5) ((rd_T29 l0 x12_1).f6) ((rd_T29 l0 x12_1).f7) = some r) ∧ Aside0 (kq ≤ k2) ∧ Aside0 (w'.heap[gb115]? = some (.cells #[.int .i64 ((rd_T29 l0 x12_1).f0), .string ((rd_T29 l0 x12_1).f1), .string ((rd_T29 l0 x12_1).f2), .bool ((rd_T29 l0 x12_1).f3), (.slice A114_4 ((rd_T29 l0 x12_1).f4).length c114_4), .string ((rd_T29 l0 x12_1).f5), .string ((rd_T29 l0 x12_1).f6), (.slice A114_7 ((rd_T29 l0 x12_1).f7).length c114_7)] 29 (0, 0))) ∧ Aside0 (Below w.heap.size w w'))
         case atStart => exact ⟨(x3_2), (0), q2_, q2_, H', ⟨Nat.le_refl _⟩, ⟨q3_⟩, ⟨q0_⟩⟩
         case round =>
          clear H'
          try clear c1
          try clear p1 p1
          try clear q1 q1
          try clear hx1
          try clear c2
          try clear c2b0
          try clear p2 p2
          try clear c3
          try clear c3b0
          try clear c4
          try clear c4b0
          try clear p6 p6
          try clear c7
          try clear c7b0
          try clear c8
          try clear c8b0
          try clear c9
          try clear c9b0
          try clear c10
          try clear hcz10_0 hcz10_1 hcz10_2 hcz10_3 hcz10_4 hcz10_5 hcz10_6 hcz10_7
          try clear hcz6_0 hcz6_1 hcz6_2 hcz6_3 hcz6_4 hcz6_5 hcz6_6 hcz6_7
          try clear hfz10_0 hfz10_1 hfz10_2 hfz10_3 hfz10_4 hfz10_5 hfz10_6 hfz10_7
          try clear hfz6_0 hfz6_1 hfz6_2 hfz6_3 hfz6_4 hfz6_5 hfz6_6 hfz6_7
          try clear hx114_0
          try clear hx114_1
          try clear hx114_2
          try clear hx114_3
          try clear hx114_4
          try clear hx114_5
          try clear hx114_6
          try clear hx114_7
          try clear hx116_0
          try clear p114
          try clear p116
          try clear q114
          try clear q116
          obtain ⟨x3_3, x48_3, rfl, rfl, HA, HK3, BK115, HB⟩ := hrel
          cases gk with
          | zero => exact absurd HA.out (by simp [polyglotlaw18_Few.l2])
          | succ k3 =>
           have H := HA.out
           clear HA
           simp only [polyglotlaw18_Few.l2] at H
           by_cases c11 : x48_3 < (((rd_T29 l0 x12_1).f7).length : Int)
           ·rw [if_pos c11] at H
            have c11b0 : decide (x48_3 < (((rd_T29 l0 x12_1).f7).length : Int)) = true := decide_eq_true c11
            clear c11
            by_cases c12 : 0 ≤ x48_3
            ·rw [if_pos c12] at H
             have c12b0 : decide (0 ≤ x48_3) = true := decide_eq_true c12
             clear c12
             by_cases c13 : x48_3 < (((rd_T29 l0 x12_1).f7).length : Int)
             ·rw [if_pos c13] at H
              have c13b0 : decide (x48_3 < (((rd_T29 l0 x12_1).f7).length : Int)) = true := decide_eq_true c13
              clear c13
              have H' := Aside0.mk H
              clear H
              have p117 : 0 ≤ (x48_3 : Int) := of_decide_eq_true q5_
              have q117 : x48_3 < (((rd_T29 l0 x12_1).f7).length : Int) := of_decide_eq_true q5_
              obtain ⟨ad117, e117, hx117_0, hx117_1, hx117_2⟩ := at_T44 HR114_7.out x48_3 p117 q117
              cases e117
              replace hx117_0 := (HB.out.cell (World.block_lt_of_cell? w _ hx117_0)).trans hx117_0
              replace hx117_1 := (HB.out.cell (World.block_lt_of_cell? w _ hx117_1)).trans hx117_1
              replace hx117_2 := (HB.out.cell (World.block_lt_of_cell? w _ hx117_2)).trans hx117_2
              replace p117 := eq_true p117
              replace q117 := eq_true q117
              go_wp2_with (first | ((with_reducible refine gate_dst (N := 9) rfl ?_); (try (refine gate_guard (by rfl) ?_; dsimp only)); refine box_event ?hg (N := 9) ?hd (cs := #[.string (⟨#[]⟩ : ByteArray), .int .i64 0, .string (⟨#[]⟩ : ByteArray)]) (t := 44) ?hr ?_; (case hd => rfl); (case hg => rfl); (case hr => first | (go_simp; done) | (go_simp; rfl)); intro gb118 hg w14 hbox hb; have BK118 := Aside0.mk (hbox); have GW118 := Aside0.mk (((by rw [hg]; exact (below_size q0_)) : w.heap.size ≤ gb118)); have GE118 := Aside0.mk (((by rw [hg]; exact (below_size q0_)) : w.heap.size ≤ gb118)); replace HB := Aside0.mk (below_step q0_ hb); have NB115_118 := Aside0.mk (((by rw [hg]; exact Nat.ne_of_lt (blk_lt (g := gb115) (o := .cells #[.int .i64 ((rd_T29 l0 x12_1).f0), .string ((rd_T29 l0 x12_1).f1), .string ((rd_T29 l0 x12_1).f2), .bool ((rd_T29 l0 x12_1).f3), .slice A114_4 ((rd_T29 l0 x12_1).f4).length c114_4, .string ((rd_T29 l0 x12_1).f5), .string ((rd_T29 l0 x12_1).f6), .slice (some ad117) ((rd_T29 l0 x12_1).f7).length c114_7] 29 (0, 0)) q3_)) : gb115 ≠ gb118)); have NB118_115 := Aside0.mk (((by rw [hg]; exact Nat.ne_of_gt (blk_lt (g := gb115) (o := .cells #[.int .i64 ((rd_T29 l0 x12_1).f0), .string ((rd_T29 l0 x12_1).f1), .string ((rd_T29 l0 x12_1).f2), .bool ((rd_T29 l0 x12_1).f3), .slice A114_4 ((rd_T29 l0 x12_1).f4).length c114_4, .string ((rd_T29 l0 x12_1).f5), .string ((rd_T29 l0 x12_1).f6), .slice (some ad117) ((rd_T29 l0 x12_1).f7).length c114_7] 29 (0, 0)) q3_)) : gb118 ≠ gb115)); replace BK115 := Aside0.mk (blk_below (g := gb115) (o := .cells #[.int .i64 ((rd_T29 l0 x12_1).f0), .string ((rd_T29 l0 x12_1).f1), .string ((rd_T29 l0 x12_1).f2), .bool ((rd_T29 l0 x12_1).f3), .slice A114_4 ((rd_T29 l0 x12_1).f4).length c114_4, .string ((rd_T29 l0 x12_1).f5), .string ((rd_T29 l0 x12_1).f6), .slice (some ad117) ((rd_T29 l0 x12_1).f7).length c114_7] 29 (0, 0)) q3_ hb); clear hb hbox hg; have hnb15 := NB118_115.out; have hnc15 := NB115_118.out; obtain ⟨hcz16_0, hcz16_1, hcz16_2, hfz16_0, hfz16_1, hfz16_2⟩ := cellsF3 BK118.out))
              go_roundg k3
              case measure => have := HK1.out; have := HK2.out; have := HK3.out; omega
              case rel => exact ⟨(wrap64 (x3_3 + (wrap64 ((((rd_T44 ((rd_T29 l0 x12_1).f7) x48_3).f0).size : Int) + (((rd_T44 ((rd_T29 l0 x12_1).f7) x48_3).f2).size : Int))))), (wrap64 (x48_3 + 1)), q2_, q2_, H', ⟨(by have := HK1.out; have := HK2.out; have := HK3.out; omega)⟩, ⟨(by (with_reducible repeat (first | refine blk_drewN ?_ _ | refine blk_drew ?_ | refine blk_alloc ?_ _)); refine blk_far ?_ NB115_118.out _; (with_reducible repeat (first | refine blk_drewN ?_ _ | refine blk_drew ?_ | refine blk_alloc ?_ _)); refine blk_far ?_ NB115_118.out _; (with_reducible repeat (first | refine blk_drewN ?_ _ | refine blk_drew ?_ | refine blk_alloc ?_ _)); refine blk_far ?_ NB115_118.out _; (with_reducible repeat (first | refine blk_drewN ?_ _ | refine blk_drew ?_ | refine blk_alloc ?_ _)); exact BK115.out)⟩, ⟨(by repeat (first | (with_reducible first | exact HB.out | apply below_alloc | apply pw_below_drewN | apply below_drew1 | refine below_set ?_ GE115.out | refine below_set ?_ GE118.out) | exact HB.out))⟩⟩
             ·rw [if_neg c13] at H
              exact absurd H (by simp)
            ·rw [if_neg c12] at H
             exact absurd H (by simp)
           ·rw [if_neg c11] at H
            have c11b0 : decide (x48_3 < (((rd_T29 l0 x12_1).f7).length : Int)) = false := decide_eq_false c11
            clear c11
            by_cases c17 : (((rd_T29 l0 x12_1).f4).length : Int) > 20
            ·rw [if_pos c17] at H
             have c17b0 : decide (20 < (((rd_T29 l0 x12_1).f4).length : Int)) = true := decide_eq_true c17
             have c17b1 : decide (20 < ((rd_T29 l0 x12_1).f4).length) = true := decide_eq_true (by omega)
             clear c17
             obtain rfl := Option.some.inj H
             obtain ⟨hcz18_0, hcz18_1, hcz18_2, hcz18_3, hcz18_4, hcz18_5, hcz18_6, hcz18_7, hfz18_0, hfz18_1, hfz18_2, hfz18_3, hfz18_4, hfz18_5, hfz18_6, hfz18_7⟩ := cellsF8 BK115.out
             go_wp2
             go_ret
             exact ⟨q4_, q0_⟩
            ·rw [if_neg c17] at H
             have c17b0 : decide (20 < (((rd_T29 l0 x12_1).f4).length : Int)) = false := decide_eq_false c17
             have c17b1 : decide (20 < ((rd_T29 l0 x12_1).f4).length) = false := decide_eq_false (by omega)
             clear c17
             by_cases c19 : (((rd_T29 l0 x12_1).f7).length : Int) > 20
             ·rw [if_pos c19] at H
              have c19b0 : decide (20 < (((rd_T29 l0 x12_1).f7).length : Int)) = true := decide_eq_true c19
              have c19b1 : decide (20 < ((rd_T29 l0 x12_1).f7).length) = true := decide_eq_true (by omega)
              clear c19
              obtain rfl := Option.some.inj H
              obtain ⟨hcz20_0, hcz20_1, hcz20_2, hcz20_3, hcz20_4, hcz20_5, hcz20_6, hcz20_7, hfz20_0, hfz20_1, hfz20_2, hfz20_3, hfz20_4, hfz20_5, hfz20_6, hfz20_7⟩ := cellsF8 BK115.out
              go_wp2
              go_ret
              exact ⟨q4_, q0_⟩
             ·rw [if_neg c19] at H
              have c19b0 : decide (20 < (((rd_T29 l0 x12_1).f7).length : Int)) = false := decide_eq_false c19
              have c19b1 : decide (20 < ((rd_T29 l0 x12_1).f7).length) = false := decide_eq_false (by omega)
              clear c19
              have H' := Aside0.mk H
              clear H
              obtain ⟨hcz21_0, hcz21_1, hcz21_2, hcz21_3, hcz21_4, hcz21_5, hcz21_6, hcz21_7, hfz21_0, hfz21_1, hfz21_2, hfz21_3, hfz21_4, hfz21_5, hfz21_6, hfz21_7⟩ := cellsF8 BK115.out
              go_wp2
              go_roundg k3
              case measure => have := HK1.out; have := HK2.out; have := HK3.out; omega
              case rel => exact ⟨(x3_3), (wrap64 (x12_1 + 1)), q2_, q2_, H', ⟨(by have := HK1.out; have := HK2.out; have := HK3.out; omega)⟩, ⟨q0_⟩⟩
     ·rw [if_neg c4] at H
      exact absurd H (by simp)
    ·rw [if_neg c3] at H
     exact absurd H (by simp)
   ·rw [if_neg c2] at H
    have c2b0 : decide (x12_1 < (l0.length : Int)) = false := decide_eq_false c2
    clear c2
    by_cases c22 : (l0.length : Int) ≤ 20
    ·rw [if_pos c22] at H
     have c22b0 : decide ((l0.length : Int) ≤ 20) = true := decide_eq_true c22
     have c22b1 : decide (l0.length ≤ 20) = true := decide_eq_true (by omega)
     clear c22
     obtain rfl := Option.some.inj H
     go_wp2
     go_ret
     exact ⟨q4_, q1_⟩
    ·rw [if_neg c22] at H
     have c22b0 : decide ((l0.length : Int) ≤ 20) = false := decide_eq_false c22
     have c22b1 : decide (l0.length ≤ 20) = false := decide_eq_false (by omega)
     clear c22
     obtain rfl := Option.some.inj H
     go_wp2
     go_ret
     exact ⟨q4_, q1_⟩
end Go.Proofs.YtdhpcofnddkcaaaGreatDoor.S
namespace Go.Proofs.YtdhpcofnddkcaaaGreatDoor.S
open Go.RowKit Go.Proofs.YtdhpcofnddkcaaaGreatDoor.G Go.Proofs.YtdhpcofnddkcaaaGreatDoorW.PrintWords Go.Proofs.YtdhpcofnddkcaaaGreatDoorW.PrintLast Go.Proofs.YtdhpcofnddkcaaaGreatDoorW.PrintMore
set_option linter.unusedVariables false
set_option linter.unusedSimpArgs false
def Mem (s : S29) : Prop := s.f1.size ≤ 281474976710656 ∧ s.f2.size ≤ 281474976710656 ∧ s.f5.size ≤ 281474976710656 ∧ s.f6.size ≤ 281474976710656 ∧ s.f4.length ≤ 281474976710656 ∧ s.f7.length ≤ 281474976710656 ∧
  (∀ t ∈ s.f4, t.size ≤ 281474976710656) ∧ (∀ a ∈ s.f7, a.f0.size ≤ 281474976710656 ∧ a.f2.size ≤ 281474976710656)
def wsum (l : List ByteArray) : Nat := (l.map ByteArray.size).sum
def asum (l : List S44) : Nat := (l.map fun a => a.f0.size + a.f2.size).sum
theorem wsum_drop (l : List ByteArray) (i : Nat) (h : i < l.length) : wsum (l.drop i) = l[i].size + wsum (l.drop (i + 1)) := by
  rw [List.drop_eq_getElem_cons h]
  unfold wsum
  rw [List.map_cons, List.sum_cons]
theorem asum_drop (l : List S44) (i : Nat) (h : i < l.length) : asum (l.drop i) = (l[i].f0.size + l[i].f2.size) + asum (l.drop (i + 1)) := by
  rw [List.drop_eq_getElem_cons h]
  unfold asum
  rw [List.map_cons, List.sum_cons]
theorem wsum_le (l : List ByteArray) (h : ∀ t ∈ l, t.size ≤ 281474976710656) : wsum l ≤ l.length * 281474976710656 := by
  induction l with
  | nil => simp [wsum]
  | cons a t ih =>
    have h1 := ih (fun x hx => h x (.tail _ hx))
    have h2 := h a (.head _)
    simp [wsum] at h1 ⊢
    omega
theorem asum_le (l : List S44) (h : ∀ a ∈ l, a.f0.size ≤ 281474976710656 ∧ a.f2.size ≤ 281474976710656) : asum l ≤ l.length * 562949953421312 := by
  induction l with
  | nil => simp [asum]
  | cons a t ih =>
    have h1 := ih (fun x hx => h x (.tail _ hx))
    have h2 := h a (.head _)
    simp [asum] at h1 ⊢
    omega
theorem few_l2 (x0 x10 : List S29) (x11 x12 : Int) (s : S29) (l : List S44) (hl : l.length ≤ 281474976710656) (hm : ∀ a ∈ l, a.f0.size ≤ 281474976710656 ∧ a.f2.size ≤ 281474976710656) : ∀ (d i : Nat) (n : Int), l.length - i ≤ d → i ≤ l.length → ∀ k,
    ∃ n', polyglotlaw18_Few.l2 (d + k + 1) x0 n x10 x11 x12 l (l.length : Int) (i : Int) s.f0 s.f1 s.f2 s.f3 s.f4 s.f5 s.f6 s.f7 = (if (s.f4.length : Int) > 20 then some false else (if (s.f7.length : Int) > 20 then some false else (polyglotlaw18_Few.l0 (k + (d - (l.length - i))) x0 n' x10 x11 (wrap64 (x12 + 1))))) ∧
      (0 ≤ n → n + asum (l.drop i) ≤ 4611686018427387904 → n' = n + asum (l.drop i)) := by
  intro d
  induction d with
  | zero =>
    intro i n h1 h2 k
    refine ⟨n, ?_, fun _ _ => ?_⟩
    · rw [polyglotlaw18_Few.l2, if_neg (by omega), show 0 + k = k + (0 - (l.length - i)) by omega]
    · rw [List.drop_of_length_le (by omega)]
      simp [asum]
  | succ d ih =>
    intro i n h1 h2 k
    by_cases hi : i < l.length
    · obtain ⟨n', e1, e2⟩ := ih (i + 1) (wrap64 (n + wrap64 ((l[i].f0.size : Int) + (l[i].f2.size : Int)))) (by omega) (by omega) k
      have hb := hm _ (List.getElem_mem hi)
      refine ⟨n', ?_, fun h3 h4 => ?_⟩
      · rw [show d + 1 + k + 1 = (d + k + 1) + 1 by omega, polyglotlaw18_Few.l2, if_pos (by omega), if_pos (by omega), if_pos (by omega), rd44 l i hi, w64 ((i : Int) + 1) (by omega) (by omega), show (i : Int) + 1 = ((i + 1 : Nat) : Int) by omega, e1]
        rw [show d - (l.length - (i + 1)) = d + 1 - (l.length - i) by omega]
      · rw [asum_drop l i hi] at h4 ⊢
        rw [w64 ((l[i].f0.size : Int) + (l[i].f2.size : Int)) (by omega) (by omega), w64 (n + ((l[i].f0.size : Int) + (l[i].f2.size : Int))) (by omega) (by omega)] at e2
        rw [e2 (by omega) (by omega)]
        omega
    · refine ⟨n, ?_, fun _ _ => ?_⟩
      · rw [show d + 1 + k + 1 = (d + 1 + k) + 1 by omega, polyglotlaw18_Few.l2, if_neg (by omega), show d + 1 + k = k + (d + 1 - (l.length - i)) by omega]
      · rw [List.drop_of_length_le (by omega)]
        simp [asum]
theorem few_l1 (x0 x10 : List S29) (x11 x12 : Int) (s : S29) (l : List ByteArray) (hl : l.length ≤ 281474976710656) (hm : ∀ t ∈ l, t.size ≤ 281474976710656) : ∀ (d i : Nat) (n : Int), l.length - i ≤ d → i ≤ l.length → ∀ k,
    ∃ n', polyglotlaw18_Few.l1 (d + k + 1) x0 n x10 x11 x12 l (l.length : Int) (i : Int) s.f0 s.f1 s.f2 s.f3 s.f4 s.f5 s.f6 s.f7 = polyglotlaw18_Few.l2 (k + (d - (l.length - i))) x0 n' x10 x11 x12 s.f7 (s.f7.length : Int) 0 s.f0 s.f1 s.f2 s.f3 s.f4 s.f5 s.f6 s.f7 ∧
      (0 ≤ n → n + wsum (l.drop i) ≤ 4611686018427387904 → n' = n + wsum (l.drop i)) := by
  intro d
  induction d with
  | zero =>
    intro i n h1 h2 k
    refine ⟨n, ?_, fun _ _ => ?_⟩
    · rw [polyglotlaw18_Few.l1, if_neg (by omega), show 0 + k = k + (0 - (l.length - i)) by omega]
    · rw [List.drop_of_length_le (by omega)]
      simp [wsum]
  | succ d ih =>
    intro i n h1 h2 k
    by_cases hi : i < l.length
    · obtain ⟨n', e1, e2⟩ := ih (i + 1) (wrap64 (n + (l[i].size : Int))) (by omega) (by omega) k
      have hb := hm _ (List.getElem_mem hi)
      refine ⟨n', ?_, fun h3 h4 => ?_⟩
      · rw [show d + 1 + k + 1 = (d + k + 1) + 1 by omega, polyglotlaw18_Few.l1, if_pos (by omega), if_pos (by omega), if_pos (by omega), rdB9 l i hi, w64 ((i : Int) + 1) (by omega) (by omega), show (i : Int) + 1 = ((i + 1 : Nat) : Int) by omega, e1]
        rw [show d - (l.length - (i + 1)) = d + 1 - (l.length - i) by omega]
      · rw [wsum_drop l i hi] at h4 ⊢
        rw [w64 _ (by omega) (by omega)] at e2
        rw [e2 (by omega) (by omega)]
        omega
    · refine ⟨n, ?_, fun _ _ => ?_⟩
      · rw [show d + 1 + k + 1 = (d + 1 + k) + 1 by omega, polyglotlaw18_Few.l1, if_neg (by omega), show d + 1 + k = k + (d + 1 - (l.length - i)) by omega]
      · rw [List.drop_of_length_le (by omega)]
        simp [wsum]
def ssum (s : S29) : Nat := s.f1.size + s.f2.size + s.f5.size + s.f6.size + wsum s.f4 + asum s.f7
def tot (l : List S29) : Nat := (l.map ssum).sum
def fuel : List S29 → Nat
  | [] => 1
  | s :: t => s.f4.length + s.f7.length + 3 + fuel t
theorem tot_cons (s : S29) (t : List S29) : tot (s :: t) = ssum s + tot t := by
  unfold tot
  rw [List.map_cons, List.sum_cons]
theorem few_l0 (l : List S29) (hl : l.length ≤ 281474976710656) (hm : ∀ s ∈ l, Mem s) : ∀ (d i : Nat) (n : Int), l.length - i ≤ d → i ≤ l.length →
    ∃ b, polyglotlaw18_Few.l0 (fuel (l.drop i)) l n l (l.length : Int) (i : Int) = some b ∧ (b = true → l.length ≤ 20 ∧ (∀ s ∈ l.drop i, s.f4.length ≤ 20 ∧ s.f7.length ≤ 20) ∧ (0 ≤ n → n + tot (l.drop i) ≤ 4611686018427387904 → n + tot (l.drop i) ≤ 3000)) := by
  intro d
  induction d with
  | zero =>
    intro i n h1 h2
    rw [List.drop_of_length_le (by omega)]
    show ∃ b, polyglotlaw18_Few.l0 (0 + 1) l n l (l.length : Int) (i : Int) = some b ∧ _
    rw [polyglotlaw18_Few.l0, if_neg (by omega)]
    by_cases h : (l.length : Int) ≤ 20
    · rw [if_pos h]
      refine ⟨_, rfl, fun hb => ⟨by omega, (fun s hs => by cases hs), fun _ _ => ?_⟩⟩
      have := of_decide_eq_true hb
      show n + ((0 : Nat) : Int) ≤ 3000
      omega
    · rw [if_neg h]
      exact ⟨false, rfl, fun hb => by cases hb⟩
  | succ d ih =>
    intro i n h1 h2
    by_cases hi : i < l.length
    · have hd : l.drop i = l[i] :: l.drop (i + 1) := List.drop_eq_getElem_cons hi
      obtain ⟨m1, m2, m5, m6, m4, m7, mw, ma⟩ := hm _ (List.getElem_mem hi)
      rw [hd]
      show ∃ b, polyglotlaw18_Few.l0 (l[i].f4.length + l[i].f7.length + 3 + fuel (l.drop (i + 1))) l n l (l.length : Int) (i : Int) = some b ∧ _
      generalize hs : l[i] = s at *
      obtain ⟨n1, e1, g1⟩ := few_l1 l l (l.length : Int) (i : Int) s s.f4 m4 mw s.f4.length 0 (wrap64 (n + wrap64 (wrap64 (wrap64 ((s.f1.size : Int) + (s.f2.size : Int)) + (s.f5.size : Int)) + (s.f6.size : Int)))) (by omega) (by omega) (s.f7.length + fuel (l.drop (i + 1)) + 1)
      obtain ⟨n2, e2, g2⟩ := few_l2 l l (l.length : Int) (i : Int) s s.f7 m7 ma s.f7.length 0 n1 (by omega) (by omega) (fuel (l.drop (i + 1)))
      rw [show s.f4.length + s.f7.length + 3 + fuel (l.drop (i + 1)) = (s.f4.length + (s.f7.length + fuel (l.drop (i + 1)) + 1) + 1) + 1 by omega, polyglotlaw18_Few.l0, if_pos (by omega), if_pos (by omega), if_pos (by omega), rd29 l i hi, hs]
      rw [show ((0 : Nat) : Int) = 0 from rfl] at e1 e2
      rw [e1, show s.f7.length + fuel (l.drop (i + 1)) + 1 + (s.f4.length - (s.f4.length - 0)) = s.f7.length + fuel (l.drop (i + 1)) + 1 by omega, e2, show fuel (l.drop (i + 1)) + (s.f7.length - (s.f7.length - 0)) = fuel (l.drop (i + 1)) by omega]
      by_cases c4 : (s.f4.length : Int) > 20
      · rw [if_pos c4]
        exact ⟨false, rfl, fun hb => by cases hb⟩
      · rw [if_neg c4]
        by_cases c7 : (s.f7.length : Int) > 20
        · rw [if_pos c7]
          exact ⟨false, rfl, fun hb => by cases hb⟩
        · rw [if_neg c7, w64 ((i : Int) + 1) (by omega) (by omega), show (i : Int) + 1 = ((i + 1 : Nat) : Int) by omega]
          obtain ⟨b, eb, gb⟩ := ih (i + 1) n2 (by omega) (by omega)
          refine ⟨b, eb, fun hb => ?_⟩
          obtain ⟨q1, q2, q3⟩ := gb hb
          refine ⟨q1, ?_, fun h0 ht => ?_⟩
          · intro x hx
            rcases List.mem_cons.1 hx with rfl | hx
            · exact ⟨by omega, by omega⟩
            · exact q2 x hx
          · rw [tot_cons] at ht ⊢
            rw [List.drop_zero] at g1 g2
            have es : ssum s = s.f1.size + s.f2.size + s.f5.size + s.f6.size + wsum s.f4 + asum s.f7 := rfl
            rw [w64 ((s.f1.size : Int) + (s.f2.size : Int)) (by omega) (by omega), w64 ((s.f1.size : Int) + (s.f2.size : Int) + (s.f5.size : Int)) (by omega) (by omega), w64 ((s.f1.size : Int) + (s.f2.size : Int) + (s.f5.size : Int) + (s.f6.size : Int)) (by omega) (by omega),
              w64 (n + ((s.f1.size : Int) + (s.f2.size : Int) + (s.f5.size : Int) + (s.f6.size : Int))) (by omega) (by omega)] at g1
            have k1 := g1 (by omega) (by omega)
            have k2 := g2 (by omega) (by omega)
            have k3 := q3 (by omega) (by omega)
            omega
    · have he : i = l.length := by omega
      subst he
      rw [List.drop_of_length_le (Nat.le_refl _)]
      show ∃ b, polyglotlaw18_Few.l0 (0 + 1) l n l (l.length : Int) (l.length : Int) = some b ∧ _
      rw [polyglotlaw18_Few.l0, if_neg (by omega)]
      by_cases h : (l.length : Int) ≤ 20
      · rw [if_pos h]
        refine ⟨_, rfl, fun hb => ⟨by omega, (fun s hs => by cases hs), fun _ _ => ?_⟩⟩
        have := of_decide_eq_true hb
        show n + ((0 : Nat) : Int) ≤ 3000
        omega
      · rw [if_neg h]
        exact ⟨false, rfl, fun hb => by cases hb⟩
end Go.Proofs.YtdhpcofnddkcaaaGreatDoor.S
namespace Go.Proofs.YtdhpcofnddkcaaaGreatDoor.E
open Go.ChangeShapes Go.WideShapes Go.ChangeAt Go.RowKit Go.Joins Go.Deep Go.Proofs.YtdhpcofnddkcaaaGreatDoor.G Go.Proofs.YtdhpcofnddkcaaaGreatDoor.S Go.Proofs.YtdhpcofnddkcaaaGreatDoorW.PrintWords
set_option linter.unusedVariables false
set_option linter.unusedSimpArgs false
theorem list_of {α : Type} {p : Nat → α → Prop} : ∀ {n : Nat}, (∀ i, i < n → ∃ x, p i x) → ∃ l : List α, l.length = n ∧ ∀ i x, l[i]? = some x → p i x
  | 0, _ => ⟨[], rfl, fun i x h => by simp at h⟩
  | n + 1, h => by
    obtain ⟨l, h1, h2⟩ := list_of (p := p) (n := n) (fun i hi => h i (by omega))
    obtain ⟨x, hx⟩ := h n (by omega)
    refine ⟨l ++ [x], by simp [h1], fun i y hy => ?_⟩
    by_cases hi : i < l.length
    · rw [List.getElem?_append_left hi] at hy
      exact h2 i y hy
    · rw [List.getElem?_append_right (by omega)] at hy
      have hz : i - l.length = 0 := by
        have := (List.getElem?_eq_some_iff.1 hy).1
        simp at this
        omega
      rw [hz] at hy
      obtain rfl : x = y := by simpa using hy
      obtain rfl : i = n := by omega
      exact hx
theorem add_add (a : Addr) (m n : Nat) : (a.add m).add n = a.add (m + n) := by
  unfold Addr.add
  by_cases hm : m = 0
  · subst hm
    simp
  · by_cases hn : n = 0
    · subst hn
      simp [hm]
    · rw [if_neg hm, if_neg hn, if_neg (by omega)]
      simp [Nat.add_assoc]
section
variable {H : Type} {enc : TypeId × Value → H} {P : Program} {w : World} {base : Nat} {spare : Nat → Bool} {held : Bool}
def Fits (P : Program) (t : TypeId) (d : DataW H) : Prop := ∀ n ∈ d.weights P t, n ≤ 281474976710656
theorem weightsAll_mem {e : TypeId} : ∀ {l : List (DataW H)} {d : DataW H}, d ∈ l → ∀ n ∈ d.weights P e, n ∈ DataW.weightsAll P e l
  | a :: r, d, h, n, hn => by
    rw [DataW.weightsAll]
    rcases List.mem_cons.1 h with rfl | h
    · exact List.mem_append_left _ hn
    · exact List.mem_append_right _ (weightsAll_mem h n hn)
theorem open_rows {α : Type} (K : α → List Value → Prop) (Q : α → Prop) (sz : Nat) {t e : TypeId} (ht : P.underlying t = some (.slice e)) (hc : P.cellsOf e = sz) (hB : 0 < P.bytesOf e)
    (hel : ∀ n cs y, DataW.trod enc P w base spare held n e cs = some y → Fits P e y.1 → ∃ x, K x cs ∧ Q x) {fuel : Nat} {cs : List Value} {x : DataW H × List MemPlace} (h : DataW.trod enc P w base spare held fuel t cs = some x) (hf : Fits P t x.1) :
    ∃ (A : Option Addr) (c : Nat) (l : List α), cs = [.slice A l.length c] ∧ l.length ≤ c ∧ ReadsRow K sz w A l.length l ∧ l.length ≤ 281474976710656 ∧ ∀ y ∈ l, Q y := by
  rcases open_slice ht h with ⟨rfl, _⟩ | ⟨a, len, cap, m, n, D, Pl, rfl, hb, hl, hm, hmm, rfl, hx⟩
  · exact ⟨none, 0, [], rfl, Nat.le_refl _, ⟨rfl, Nat.zero_le _, fun hn => absurd hn (Nat.lt_irrefl _)⟩, Nat.zero_le _, fun y hy => by cases hy⟩
  · have hlm : len ≤ m := by rw [hmm]; split <;> omega
    have ew : ∀ es sp : List (DataW H), (DataW.slice es sp).weights P t = (es.length + sp.length) * P.bytesOf e :: (DataW.weightsAll P e es ++ DataW.weightsAll P e sp) := fun es sp => by simp [DataW.weights, ht]
    unfold Fits at hf
    rw [ew] at hf
    have hlen := hf _ (.head _)
    rw [List.length_map, List.length_range] at hlen
    have hle : len ≤ 281474976710656 := Nat.le_trans (Nat.le_trans (Nat.le_mul_of_pos_right len hB) (Nat.mul_le_mul_right _ (Nat.le_add_right _ _))) hlen
    obtain ⟨l, h1, h2⟩ := list_of (p := fun i x => ∃ cs', cs'.length = sz ∧ K x cs' ∧ Q x ∧ ∀ j u, cs'[j]? = some u → w.cell? (a.add (i * sz + j)) = some u) (n := len) (fun i hi => by
      obtain ⟨cs', e1, e2⟩ := hx i (by omega)
      rw [hc] at e1
      obtain ⟨_, g1, g2⟩ := World.cells?_some e1
      obtain ⟨x, k1, k2⟩ := hel n cs' _ e2 (fun q hq => hf q (.tail _ (List.mem_append_left _ (weightsAll_mem (List.mem_map_of_mem (List.mem_range.2 hi)) q hq))))
      refine ⟨x, cs', g1, k1, k2, fun j u hu => ?_⟩
      have hj := (List.getElem?_eq_some_iff.1 hu).1
      rw [← add_add, g2 j (by omega), hu])
    subst h1
    refine ⟨some a, cap, l, rfl, hl, ⟨rfl, by omega, fun _ => ⟨a, rfl, fun j p hp => ?_⟩⟩, hle, fun y hy => ?_⟩
    · obtain ⟨cs', g1, g2, _, g3⟩ := h2 j p hp
      exact ⟨cs', g1, g2, g3⟩
    · obtain ⟨i, hi, rfl⟩ := List.getElem_of_mem hy
      obtain ⟨_, _, _, g, _⟩ := h2 i _ (List.getElem?_eq_getElem hi)
      exact g
theorem trod_fields {t : TypeId} {fs : Array Field} {fuel : Nat} {cs : List Value} {x : DataW H × List MemPlace} (ht : P.underlying t = some (.struct fs)) (hone : oneCellFields P fs = true) (h : DataW.trod enc P w base spare held fuel t cs = some x) (hq : Fits P t x.1) :
    cs.length = P.cellsOf t ∧ ∃ n, ∀ i f, fs[i]? = some f → ∃ y, DataW.trod enc P w base spare held n f.type ((cs.drop i).take 1) = some y ∧ Fits P f.type y.1 := by
  obtain ⟨xs, n, _, rfl, hl, hlen, hf⟩ := DataW.trod_struct ht h
  refine ⟨hl, n, fun i f hi => ?_⟩
  have hlt : i < fs.size := (Array.getElem?_eq_some_iff.1 hi).1
  obtain ⟨o, k⟩ := hone_of hone i f hi
  have := hf i f hi
  rw [o, k, List.getElem?_eq_getElem (by omega)] at this
  have ew : ∀ ps : List (DataW H), (DataW.agg ps).weights P t = DataW.weightsEach P (fs.toList.map (·.type)) ps := fun ps => by simp [DataW.weights, ht]
  unfold Fits at hq
  rw [ew] at hq
  refine ⟨_, this, fun q hq' => hq q (DataW.weights_mem_each (j := i) (t := f.type) (d := (xs[i]'(by omega)).1) ?_ ?_ q hq')⟩
  · rw [List.getElem?_map, Array.getElem?_toList, hi]
    rfl
  · rw [List.getElem?_map, List.getElem?_eq_getElem (by omega)]
    rfl
end
theorem list3 {α : Type} {l : List α} (h : l.length = 3) : ∃ a b c, l = [a, b, c] := by
  match l, h with
  | [a, b, c], _ => exact ⟨a, b, c, rfl⟩
theorem list8 {α : Type} {l : List α} (h : l.length = 8) : ∃ a b c d e f g i, l = [a, b, c, d, e, f, g, i] := by
  match l, h with
  | [a, b, c, d, e, f, g, i], _ => exact ⟨a, b, c, d, e, f, g, i, rfl⟩
section
variable {H : Type} {enc : TypeId × Value → H} {w : World} {base : Nat} {spare : Nat → Bool} {held : Bool}
theorem str_fits {n : Nat} {cs : List Value} {y : DataW H × List MemPlace} (h : DataW.trod enc Tryz.prog w base spare held n 9 cs = some y) (hf : Fits Tryz.prog 9 y.1) : ∃ s : ByteArray, cs = [.string s] ∧ s.size ≤ 281474976710656 := by
  obtain ⟨s, e, rfl, hs⟩ := DataW.trod_string Tryz.underlying9 h
  exact ⟨s, e, hf s.data.toList.length (by simp [DataW.weights])⟩
theorem str_at (n : Nat) (cs : List Value) (y : DataW H × List MemPlace) (h : DataW.trod enc Tryz.prog w base spare held n 9 cs = some y) (hf : Fits Tryz.prog 9 y.1) : ∃ x, Kd.string.K w x cs ∧ x.size ≤ 281474976710656 := str_fits h hf
def ArgIn (a : S44) : Prop := a.f0.size ≤ 281474976710656 ∧ a.f2.size ≤ 281474976710656
set_option maxRecDepth 100000 in
theorem arg_at (n : Nat) (cs : List Value) (y : DataW H × List MemPlace) (h : DataW.trod enc Tryz.prog w base spare held n 44 cs = some y) (hq : Fits Tryz.prog 44 y.1) : ∃ x, k44.K w x cs ∧ ArgIn x := by
  obtain ⟨hl, m, hf⟩ := trod_fields Tryz.underlying44 (by kernel_rfl) h hq
  rw [arg_cells] at hl
  obtain ⟨a, b, c, rfl⟩ := list3 hl
  obtain ⟨y0, h0, f0⟩ := hf 0 _ rfl
  obtain ⟨y1, h1, f1⟩ := hf 1 _ rfl
  obtain ⟨y2, h2, f2⟩ := hf 2 _ rfl
  obtain ⟨s, e0, z0⟩ := str_fits h0 f0
  obtain ⟨k, e1, _, _⟩ := DataW.trod_int Tryz.underlying42 h1
  obtain ⟨t, e2, z2⟩ := str_fits h2 f2
  simp at e0 e1 e2
  subst e0 e1 e2
  exact ⟨⟨s, k, t⟩, k44_mk w ⟨s, k, t⟩, z0, z2⟩
theorem step_cells : Tryz.prog.cellsOf 29 = 8 := by kernel_rfl
theorem str_cells : Tryz.prog.cellsOf 9 = 1 := by kernel_rfl
set_option maxRecDepth 100000 in
theorem bytes_pos : 0 < Tryz.prog.bytesOf 9 ∧ 0 < Tryz.prog.bytesOf 44 ∧ 0 < Tryz.prog.bytesOf 29 := ⟨by decide +kernel, by decide +kernel, by decide +kernel⟩
set_option maxRecDepth 100000 in
theorem step_at (n : Nat) (cs : List Value) (y : DataW H × List MemPlace) (h : DataW.trod enc Tryz.prog w base spare held n 29 cs = some y) (hq : Fits Tryz.prog 29 y.1) : ∃ x, k29.K w x cs ∧ Mem x := by
  obtain ⟨hl, m, hf⟩ := trod_fields Tryz.underlying29 (by kernel_rfl) h hq
  rw [step_cells] at hl
  obtain ⟨c0, c1, c2, c3, c4, c5, c6, c7, rfl⟩ := list8 hl
  obtain ⟨y0, h0, f0⟩ := hf 0 _ rfl
  obtain ⟨y1, h1, f1⟩ := hf 1 _ rfl
  obtain ⟨y2, h2, f2⟩ := hf 2 _ rfl
  obtain ⟨y3, h3, f3⟩ := hf 3 _ rfl
  obtain ⟨y4, h4, f4⟩ := hf 4 _ rfl
  obtain ⟨y5, h5, f5⟩ := hf 5 _ rfl
  obtain ⟨y6, h6, f6⟩ := hf 6 _ rfl
  obtain ⟨y7, h7, f7⟩ := hf 7 _ rfl
  obtain ⟨k, e0, _, _⟩ := DataW.trod_int Tryz.underlying25 h0
  obtain ⟨s1, e1, z1⟩ := str_fits h1 f1
  obtain ⟨s2, e2, z2⟩ := str_fits h2 f2
  obtain ⟨b, e3, _⟩ := DataW.trod_bool Tryz.underlying4 h3
  obtain ⟨A4, n4, l4, e4, q4, r4, z4, w4⟩ := open_rows (Kd.string.K w) (fun x => x.size ≤ 281474976710656) 1 Tryz.underlying26 str_cells bytes_pos.1 (str_at (enc := enc)) h4 f4
  obtain ⟨s5, e5, z5⟩ := str_fits h5 f5
  obtain ⟨s6, e6, z6⟩ := str_fits h6 f6
  obtain ⟨A7, n7, l7, e7, q7, r7, z7, w7⟩ := open_rows (k44.K w) ArgIn 3 Tryz.underlying27 arg_cells bytes_pos.2.1 (arg_at (enc := enc)) h7 f7
  simp at e0 e1 e2 e3 e4 e5 e6 e7
  subst e0 e1 e2 e3 e4 e5 e6 e7
  exact ⟨⟨k, s1, s2, b, l4, s5, s6, l7⟩, k29_mk w ⟨k, s1, s2, b, l4, s5, s6, l7⟩ q4 r4 q7 r7, z1, z2, z5, z6, z4, z7, w4, w7⟩
end
set_option maxRecDepth 100000 in
theorem open_steps {H : Type} {enc : TypeId × Value → H} {W : World} {base : Nat} {v : Value} {d : DataW H} {p : List MemPlace} (hval : Value.okWide Tryz.prog W .any base 22 v) (h : DataW.Trod enc Tryz.prog W 0 (fun _ => true) true 22 v d p) (hq : Fits Tryz.prog 22 d) :
    ∃ (A : Option Addr) (c : Nat) (l : List S29), v = .slice A l.length c ∧ l.length ≤ c ∧ Kd.C k29 W A l.length l ∧ l.length ≤ 281474976710656 ∧ ∀ s ∈ l, Mem s := by
  obtain ⟨a, len, cap, rfl⟩ := okWide_slice Tryz.underlying22 hval
  obtain ⟨fuel, hf⟩ := h
  obtain ⟨A, c, l, e, hc, hC, hz, hQ⟩ := open_rows (k29.K W) Mem 8 Tryz.underlying22 step_cells bytes_pos.2.2 (step_at (enc := enc)) hf hq
  simp [Value.cells] at e
  obtain ⟨rfl, rfl, rfl⟩ := e
  exact ⟨a, cap, l, rfl, hc, hC, hz, hQ⟩
end Go.Proofs.YtdhpcofnddkcaaaGreatDoor.E
namespace Go.Proofs.YtdhpcofnddkcaaaGreatDoor.E
open Go.ChangeShapes Go.WideShapes Go.ChangeAt Go.RowKit Go.Proofs.YtdhpcofnddkcaaaGreatDoor.S Go.Proofs.YtdhpcofnddkcaaaGreatDoorW.PrintWords
set_option linter.unusedVariables false
set_option maxRecDepth 100000 in
theorem open_step1 {H : Type} {enc : TypeId × Value → H} {W : World} {base : Nat} {v : Value} {d : DataW H} {p : List MemPlace} (hval : Value.okWide Tryz.prog W .any base 29 v) (h : DataW.Trod enc Tryz.prog W 0 (fun _ => true) true 29 v d p) (hq : Fits Tryz.prog 29 d) :
    ∃ (x : S29) (A4 : Option Addr) (c4 : Nat) (A7 : Option Addr) (c7 : Nat), v = .agg #[.int .i64 x.f0, .string x.f1, .string x.f2, .bool x.f3, .slice A4 x.f4.length c4, .string x.f5, .string x.f6, .slice A7 x.f7.length c7] ∧ x.f4.length ≤ c4 ∧ Kd.C Kd.string W A4 x.f4.length x.f4 ∧ x.f7.length ≤ c7 ∧ Kd.C k44 W A7 x.f7.length x.f7 ∧ Mem x := by
  obtain ⟨cs, rfl, hsz⟩ := okWide_struct Tryz.underlying29 hval
  obtain ⟨fuel, hf⟩ := h
  obtain ⟨x, hk, hm⟩ := step_at (enc := enc) fuel _ _ hf hq
  obtain ⟨A4, c4, A7, c7, hc, l4, g4, l7, g7⟩ := k29_open hk
  refine ⟨x, A4, c4, A7, c7, ?_, l4, g4, l7, g7, hm⟩
  have e : cs.toList = _ := hc
  congr 1
  apply Array.ext'
  rw [e]
end Go.Proofs.YtdhpcofnddkcaaaGreatDoor.E
