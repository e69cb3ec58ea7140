/- ScriptCuts: for every step, int and slice of steps the call returns true and leaves them unchanged (Text 3 of 9: what the law's proof rests on, joined; walks printed by the kit's print over given contracts, walks and plain laws by hand.) -/
import Derived.Test.YtdhpcofnddkcaaaGreatDoorCut0
import Derived.Test.YtdhpcofnddkcaaaGreatDoorCut1
namespace Go.Proofs.YtdhpcofnddkcaaaGreatDoor.S
open Go.RowKit Go.Proofs.YtdhpcofnddkcaaaGreatDoor.G Go.Proofs.YtdhpcofnddkcaaaGreatDoorW.PrintWords Go.Proofs.YtdhpcofnddkcaaaGreatDoorW.PrintLast Go.Proofs.YtdhpcofnddkcaaaGreatDoorW.PrintMore
attribute [local go_sem] max2_int min2_int max_two min_two max_three min_three max_four min_four
set_option linter.unusedVariables false
set_option linter.unusedSimpArgs false
namespace Sx10
theorem cellsF3 {w : World} {g : Nat} {t : TypeId} {a0 a1 a2 : Value} (h : w.heap[g]? = some (.cells #[a0, a1, a2] t (0, 0))) : w.cell? ⟨g, 0, none⟩ = some a0 ∧ w.cell? ⟨g, 1, none⟩ = some a1 ∧ w.cell? ⟨g, 2, none⟩ = some a2 ∧ w.frozen? ⟨g, 0, none⟩ = false ∧ w.frozen? ⟨g, 1, none⟩ = false ∧ w.frozen? ⟨g, 2, none⟩ = false := ⟨(blk_cell h 0).trans rfl, (blk_cell h 1).trans rfl, (blk_cell h 2).trans rfl, blk_frozen h 0, blk_frozen h 1, blk_frozen h 2⟩
theorem q0_ {p_ : Prop} (h_ : p_ := by repeat (first | (with_reducible first | exact HB.out | apply below_alloc | apply pw_below_drewN | apply below_drew1 | refine below_set ?_ GE209.out) | exact HB.out)) : p_ := h_
theorem q1_ {p_ : Prop} (h_ : p_ := by (with_reducible repeat (first | refine blk_drewN ?_ _ | refine blk_drew ?_ | refine blk_alloc ?_ _)); refine blk_put (cs := #[.bool false, .string (⟨#[]⟩ : ByteArray), .int .i64 x210002_3]) ?_ 2 _ rfl; (with_reducible repeat (first | refine blk_drewN ?_ _ | refine blk_drew ?_ | refine blk_alloc ?_ _)); refine blk_put (cs := #[.bool false, .string x210001_3, .int .i64 x210002_3]) ?_ 1 _ rfl; (with_reducible repeat (first | refine blk_drewN ?_ _ | refine blk_drew ?_ | refine blk_alloc ?_ _)); refine blk_put (cs := #[.bool x210000_3, .string x210001_3, .int .i64 x210002_3]) ?_ 0 _ rfl; (with_reducible repeat (first | refine blk_drewN ?_ _ | refine blk_drew ?_ | refine blk_alloc ?_ _)); exact BK209.out) : p_ := h_
theorem q2_ {p_ : Prop} (h_ : p_ := by (with_reducible repeat (first | refine blk_drewN ?_ _ | refine blk_drew ?_ | refine blk_alloc ?_ _)); exact BK209.out) : p_ := h_
theorem q3_ {p_ : Prop} (h_ : p_ := by first | (with_reducible assumption) | assumption) : p_ := h_
theorem q4_ {p_ : Prop} (h_ : p_ := by first | rfl | (simp; done) | (simp [*]; done)) : p_ := h_
theorem q5_ {p_ : Prop} (h_ : p_ := by (try simp only [List.map_toArray, List.map_cons, List.map_nil]); first | done | rfl | (simp only [List.length_drop, List.length_take]; rfl)) : p_ := h_
theorem q6_ {p_ : Prop} (h_ : p_ := by (with_reducible repeat (first | refine blk_drewN ?_ _ | refine blk_drew ?_ | refine blk_alloc ?_ _)); refine blk_put (cs := #[.bool x4_1, .string x5_6, .int .i64 x210002_3]) ?_ 2 _ rfl; (with_reducible repeat (first | refine blk_drewN ?_ _ | refine blk_drew ?_ | refine blk_alloc ?_ _)); refine blk_put (cs := #[.bool x4_1, .string x210001_3, .int .i64 x210002_3]) ?_ 1 _ rfl; (with_reducible repeat (first | refine blk_drewN ?_ _ | refine blk_drew ?_ | refine blk_alloc ?_ _)); refine blk_put (cs := #[.bool x210000_3, .string x210001_3, .int .i64 x210002_3]) ?_ 0 _ rfl; (with_reducible repeat (first | refine blk_drewN ?_ _ | refine blk_drew ?_ | refine blk_alloc ?_ _)); exact BK209.out) : p_ := h_
theorem q7_ {p_ : Prop} (h_ : p_ := by first | rfl | (simp [errW_none, errW_some] <;> rfl) | (simp [*, errW_none, errW_some] <;> rfl)) : p_ := h_
theorem q8_ {p_ : Prop} (h_ : p_ := by repeat (first | (with_reducible first | exact HB.out | apply below_alloc | apply pw_below_drewN | apply below_drew1) | exact HB.out)) : p_ := h_
end Sx10
open Sx10
mutual
def polyglotlaw02_Parse.j0 : Nat → ByteArray → Bool → Option (Bool × ByteArray × Int × Bool)
 | 0, _, _ => none
 | k + 1, x0, x4 => if x4 = true then (if 1 ≤ (x0.size : Int) then (polyglotlaw02_Parse.j1 k (x0.extract 1 x0.size) x4) else (none)) else (polyglotlaw02_Parse.j1 k x0 x4)
def polyglotlaw02_Parse.j1 : Nat → ByteArray → Bool → Option (Bool × ByteArray × Int × Bool)
 | 0, _, _ => none
 | k + 1, x0, x4 => polyglotlaw02_Parse.l0 k x0 x4 (⟨#[]⟩ : ByteArray) (-1) 0
def polyglotlaw02_Parse.l0 : Nat → ByteArray → Bool → ByteArray → Int → Int → Option (Bool × ByteArray × Int × Bool)
 | 0, _, _, _, _, _ => none
 | k + 1, x0, x4, x5, x6, x7 => if x7 < (x0.size : Int) then (if 0 ≤ x7 then ((polyglotlaw02_digit.f (bt x0 x7)).bind fun t210 => (if t210 = true then (if x7 ≤ (wrap64 (x7 + 1)) then (if (wrap64 (x7 + 1)) ≤ (x0.size : Int) then (if x5.size + (x0.extract (x7 : Int).toNat ((wrap64 (x7 + 1)) : Int).toNat).size ≤ 9223372036854775807 then (polyglotlaw02_Parse.l0 k x0 x4 (x5 ++ (x0.extract (x7 : Int).toNat ((wrap64 (x7 + 1)) : Int).toNat)) x6 (wrap64 (x7 + 1))) else (none)) else (none)) else (none)) else (if (bt x0 x7) = 46 then (if x6 < 0 then (if x7 > 0 then (if (wrap64 (x7 + 1)) < (x0.size : Int) then (polyglotlaw02_Parse.l0 k x0 x4 x5 x7 (wrap64 (x7 + 1))) else (some (false, (⟨#[]⟩ : ByteArray), 0, false))) else (some (false, (⟨#[]⟩ : ByteArray), 0, false))) else (some (false, (⟨#[]⟩ : ByteArray), 0, false))) else (some (false, (⟨#[]⟩ : ByteArray), 0, false))))) else (none)) else (if (x5.size : Int) = 0 then (polyglotlaw02_Parse.j3 k x0 x4 x5 x6 true) else (polyglotlaw02_Parse.j3 k x0 x4 x5 x6 (decide ((x5.size : Int) > 40))))
def polyglotlaw02_Parse.j3 : Nat → ByteArray → Bool → ByteArray → Int → Bool → Option (Bool × ByteArray × Int × Bool)
 | 0, _, _, _, _, _ => none
 | k + 1, x0, x4, x5, x6, x67 => if x67 = true then (some (false, (⟨#[]⟩ : ByteArray), 0, false)) else (if x6 ≥ 0 then (polyglotlaw02_Parse.j4 k x4 x5 (wrap64 ((wrap64 ((x0.size : Int) - 1)) - x6))) else (polyglotlaw02_Parse.j4 k x4 x5 0))
def polyglotlaw02_Parse.j4 : Nat → Bool → ByteArray → Int → Option (Bool × ByteArray × Int × Bool)
 | 0, _, _, _ => none
 | k + 1, x4, x5, x8 => polyglotlaw02_Parse.l1 k x4 x5 x8
def polyglotlaw02_Parse.l1 : Nat → Bool → ByteArray → Int → Option (Bool × ByteArray × Int × Bool)
 | 0, _, _, _ => none
 | k + 1, x4, x5, x8 => if (x5.size : Int) > (wrap64 (x8 + 1)) then (if 0 < (x5.size : Int) then (if (bt x5 0) = 48 then (if 1 ≤ (x5.size : Int) then (polyglotlaw02_Parse.l1 k x4 (x5.extract 1 x5.size) x8) else (none)) else (some (x4, x5, x8, true))) else (none)) else (some (x4, x5, x8, true))
end
def polyglotlaw02_Parse.f (k : Nat) (a0 : ByteArray) : Option (Bool × ByteArray × Int × Bool) := if (a0.size : Int) > 0 then (if 0 < (a0.size : Int) then (polyglotlaw02_Parse.j0 k a0 ((bt a0 0) == 45)) else (none)) else (polyglotlaw02_Parse.j0 k a0 false)
theorem polyglotlaw02_Parse.mono_l : ∀ k, (∀ y0 y1, LeO (polyglotlaw02_Parse.j0 k y0 y1) (polyglotlaw02_Parse.j0 (k + 1) y0 y1)) ∧ (∀ y0 y1, LeO (polyglotlaw02_Parse.j1 k y0 y1) (polyglotlaw02_Parse.j1 (k + 1) y0 y1)) ∧ (∀ y0 y1 y2 y3 y4, LeO (polyglotlaw02_Parse.l0 k y0 y1 y2 y3 y4) (polyglotlaw02_Parse.l0 (k + 1) y0 y1 y2 y3 y4)) ∧ (∀ y0 y1 y2 y3 y4, LeO (polyglotlaw02_Parse.j3 k y0 y1 y2 y3 y4) (polyglotlaw02_Parse.j3 (k + 1) y0 y1 y2 y3 y4)) ∧ (∀ y0 y1 y2, LeO (polyglotlaw02_Parse.j4 k y0 y1 y2) (polyglotlaw02_Parse.j4 (k + 1) y0 y1 y2)) ∧ (∀ y0 y1 y2, LeO (polyglotlaw02_Parse.l1 k y0 y1 y2) (polyglotlaw02_Parse.l1 (k + 1) y0 y1 y2))
 | 0 => ⟨fun _ _ r h => by simp [polyglotlaw02_Parse.j0] at h, fun _ _ r h => by simp [polyglotlaw02_Parse.j1] at h, fun _ _ _ _ _ r h => by simp [polyglotlaw02_Parse.l0] at h, fun _ _ _ _ _ r h => by simp [polyglotlaw02_Parse.j3] at h, fun _ _ _ r h => by simp [polyglotlaw02_Parse.j4] at h, fun _ _ _ r h => by simp [polyglotlaw02_Parse.l1] at h⟩
 | k + 1 => by
  obtain ⟨ih0, ih1, ih2, ih3, ih4, ih5⟩ := polyglotlaw02_Parse.mono_l k
  refine ⟨?_, ?_, ?_, ?_, ?_, ?_⟩
  ·intro y0 y1
   unfold polyglotlaw02_Parse.j0
   repeat' first
   | (with_reducible exact ih0 _ _)
   | (with_reducible exact ih1 _ _)
   | (with_reducible exact ih2 _ _ _ _ _)
   | (with_reducible exact ih3 _ _ _ _ _)
   | (with_reducible exact ih4 _ _ _)
   | (with_reducible exact ih5 _ _ _)
   | (with_reducible exact LeO.refl _)
   | (with_reducible exact LeO.none _)
   | (with_reducible refine LeO.ite ?_ ?_)
   | (with_reducible refine LeO.bind ?_ (fun _ => ?_))
   | exact ih0 _ _
   | exact ih1 _ _
   | exact ih2 _ _ _ _ _
   | exact ih3 _ _ _ _ _
   | exact ih4 _ _ _
   | exact ih5 _ _ _
   | exact LeO.none _
   | refine LeO.ite ?_ ?_
   | refine LeO.bind ?_ (fun _ => ?_)
  ·intro y0 y1
   unfold polyglotlaw02_Parse.j1
   repeat' first
   | (with_reducible exact ih0 _ _)
   | (with_reducible exact ih1 _ _)
   | (with_reducible exact ih2 _ _ _ _ _)
   | (with_reducible exact ih3 _ _ _ _ _)
   | (with_reducible exact ih4 _ _ _)
   | (with_reducible exact ih5 _ _ _)
   | (with_reducible exact LeO.refl _)
   | (with_reducible exact LeO.none _)
   | (with_reducible refine LeO.ite ?_ ?_)
   | (with_reducible refine LeO.bind ?_ (fun _ => ?_))
   | exact ih0 _ _
   | exact ih1 _ _
   | exact ih2 _ _ _ _ _
   | exact ih3 _ _ _ _ _
   | exact ih4 _ _ _
   | exact ih5 _ _ _
   | exact LeO.none _
   | refine LeO.ite ?_ ?_
   | refine LeO.bind ?_ (fun _ => ?_)
  ·intro y0 y1 y2 y3 y4
   unfold polyglotlaw02_Parse.l0
   repeat' first
   | (with_reducible exact ih0 _ _)
   | (with_reducible exact ih1 _ _)
   | (with_reducible exact ih2 _ _ _ _ _)
   | (with_reducible exact ih3 _ _ _ _ _)
   | (with_reducible exact ih4 _ _ _)
   | (with_reducible exact ih5 _ _ _)
   | (with_reducible exact LeO.refl _)
   | (with_reducible exact LeO.none _)
   | (with_reducible refine LeO.ite ?_ ?_)
   | (with_reducible refine LeO.bind ?_ (fun _ => ?_))
   | exact ih0 _ _
   | exact ih1 _ _
   | exact ih2 _ _ _ _ _
   | exact ih3 _ _ _ _ _
   | exact ih4 _ _ _
   | exact ih5 _ _ _
   | exact LeO.none _
   | refine LeO.ite ?_ ?_
   | refine LeO.bind ?_ (fun _ => ?_)
  ·intro y0 y1 y2 y3 y4
   unfold polyglotlaw02_Parse.j3
   repeat' first
   | (with_reducible exact ih0 _ _)
   | (with_reducible exact ih1 _ _)
   | (with_reducible exact ih2 _ _ _ _ _)
   | (with_reducible exact ih3 _ _ _ _ _)
   | (with_reducible exact ih4 _ _ _)
   | (with_reducible exact ih5 _ _ _)
   | (with_reducible exact LeO.refl _)
   | (with_reducible exact LeO.none _)
   | (with_reducible refine LeO.ite ?_ ?_)
   | (with_reducible refine LeO.bind ?_ (fun _ => ?_))
   | exact ih0 _ _
   | exact ih1 _ _
   | exact ih2 _ _ _ _ _
   | exact ih3 _ _ _ _ _
   | exact ih4 _ _ _
   | exact ih5 _ _ _
   | exact LeO.none _
   | refine LeO.ite ?_ ?_
   | refine LeO.bind ?_ (fun _ => ?_)
  ·intro y0 y1 y2
   unfold polyglotlaw02_Parse.j4
   repeat' first
   | (with_reducible exact ih0 _ _)
   | (with_reducible exact ih1 _ _)
   | (with_reducible exact ih2 _ _ _ _ _)
   | (with_reducible exact ih3 _ _ _ _ _)
   | (with_reducible exact ih4 _ _ _)
   | (with_reducible exact ih5 _ _ _)
   | (with_reducible exact LeO.refl _)
   | (with_reducible exact LeO.none _)
   | (with_reducible refine LeO.ite ?_ ?_)
   | (with_reducible refine LeO.bind ?_ (fun _ => ?_))
   | exact ih0 _ _
   | exact ih1 _ _
   | exact ih2 _ _ _ _ _
   | exact ih3 _ _ _ _ _
   | exact ih4 _ _ _
   | exact ih5 _ _ _
   | exact LeO.none _
   | refine LeO.ite ?_ ?_
   | refine LeO.bind ?_ (fun _ => ?_)
  ·intro y0 y1 y2
   unfold polyglotlaw02_Parse.l1
   repeat' first
   | (with_reducible exact ih0 _ _)
   | (with_reducible exact ih1 _ _)
   | (with_reducible exact ih2 _ _ _ _ _)
   | (with_reducible exact ih3 _ _ _ _ _)
   | (with_reducible exact ih4 _ _ _)
   | (with_reducible exact ih5 _ _ _)
   | (with_reducible exact LeO.refl _)
   | (with_reducible exact LeO.none _)
   | (with_reducible refine LeO.ite ?_ ?_)
   | (with_reducible refine LeO.bind ?_ (fun _ => ?_))
   | exact ih0 _ _
   | exact ih1 _ _
   | exact ih2 _ _ _ _ _
   | exact ih3 _ _ _ _ _
   | exact ih4 _ _ _
   | exact ih5 _ _ _
   | exact LeO.none _
   | refine LeO.ite ?_ ?_
   | refine LeO.bind ?_ (fun _ => ?_)
theorem polyglotlaw02_Parse.mono : ∀ a0 k, LeO (polyglotlaw02_Parse.f k a0) (polyglotlaw02_Parse.f (k + 1) a0) := by
 intro a0 k
 obtain ⟨ih0, ih1, ih2, ih3, ih4, ih5⟩ := polyglotlaw02_Parse.mono_l k
 unfold polyglotlaw02_Parse.f
 repeat' first
   | (with_reducible exact ih0 _ _)
   | (with_reducible exact ih1 _ _)
   | (with_reducible exact ih2 _ _ _ _ _)
   | (with_reducible exact ih3 _ _ _ _ _)
   | (with_reducible exact ih4 _ _ _)
   | (with_reducible exact ih5 _ _ _)
   | (with_reducible exact LeO.refl _)
   | (with_reducible exact LeO.none _)
   | (with_reducible refine LeO.ite ?_ ?_)
   | (with_reducible refine LeO.bind ?_ (fun _ => ?_))
   | exact ih0 _ _
   | exact ih1 _ _
   | exact ih2 _ _ _ _ _
   | exact ih3 _ _ _ _ _
   | exact ih4 _ _ _
   | exact ih5 _ _ _
   | exact LeO.none _
   | refine LeO.ite ?_ ?_
   | refine LeO.bind ?_ (fun _ => ?_)
set_option maxHeartbeats 8000000 in
set_option maxRecDepth 100000 in
theorem polyglotlaw02_Parse.calls (k : Nat) (a0 : ByteArray) (r1 : Bool) (r2 : ByteArray) (r3 : Int) (r4 : Bool) (w : World) (h : polyglotlaw02_Parse.f k a0 = some (r1, r2, r3, r4)) :
  Calls Tryz.prog 31 #[.string a0] w fun e w' => e = .returned (.tuple #[.agg #[.bool r1, .string r2, .int .i64 r3], .bool r4]) ∧ Below w.heap.size w w' := by
 have hu46 := Tryz.underlying46
 have HB := Aside0.mk (Below.refl w.heap.size w)
 have H : (if (a0.size : Int) > 0 then (if 0 < (a0.size : Int) then (polyglotlaw02_Parse.j0 k a0 ((bt a0 0) == 45)) else (none)) else (polyglotlaw02_Parse.j0 k a0 false)) = some (r1, r2, r3, r4) := h
 clear h
 have HC2 := Aside0.mk H
 clear H
 go_enter Tryz.func31, Tryz.ntmps31
 go_upto_region 1 with (first | ((with_reducible refine gate_dst (N := 2) rfl ?_); (try (refine gate_guard (by rfl) ?_; dsimp only)); refine box_event ?hg (N := 2) ?hd (cs := #[.bool false, .string (⟨#[]⟩ : ByteArray), .int .i64 0]) (t := 46) ?hr ?_; (case hd => rfl); (case hg => rfl); (case hr => first | (go_simp; done) | (go_simp; rfl)); intro gb209 hg w3 hbox hb; have BK209 := Aside0.mk (hbox); have GW209 := Aside0.mk (((by rw [hg]; exact (below_size q8_)) : w.heap.size ≤ gb209)); have GE209 := Aside0.mk (((by rw [hg]; exact (below_size q8_)) : w.heap.size ≤ gb209)); replace HB := Aside0.mk (below_step q8_ hb); clear hb hbox hg))
 (try simp only [Act.put, List.setIfInBounds_toArray, List.set_cons_zero, List.set_cons_succ])
 go_cut [4] (fun v4 wc => ∃ (kq : Nat) (x4_1 : Bool), v4 = .bool x4_1 ∧ Aside0 (polyglotlaw02_Parse.j0 kq a0 x4_1 = some (r1, r2, r3, r4)) ∧ Aside0 (kq ≤ k) ∧ Aside0 (wc.heap[gb209]? = some (.cells #[.bool false, .string (⟨#[]⟩ : ByteArray), .int .i64 0] 46 (0, 0))) ∧ Aside0 (Below w.heap.size w wc))
 case first =>
  have H := HC2.out
  clear HC2
  by_cases c4 : (a0.size : Int) > 0
  ·rw [if_pos c4] at H
   have c4b0 : decide (0 < (a0.size : Int)) = true := decide_eq_true c4
   have c4b1 : decide (0 < a0.size) = true := decide_eq_true (by omega)
   clear c4
   (first | rw [c4b0] | (simp only [i64_w, i32_w]; rw [c4b0]) | skip)
   by_cases c5 : 0 < (a0.size : Int)
   ·rw [if_pos c5] at H
    have c5b0 : decide (0 < (a0.size : Int)) = true := decide_eq_true c5
    have c5b1 : decide (0 < a0.size) = true := decide_eq_true (by omega)
    clear c5
    have H' := Aside0.mk H
    clear H
    have p6 : 0 ≤ (0 : Int) := (by omega)
    have q6 : 0 < a0.size := (by have : (0 : Int) < (a0.size : Int) := of_decide_eq_true q3_; omega)
    have hx6 : ∀ h : 0 < a0.size, ((a0[0]'h).toNat : Int) = bt a0 0 := bt_at a0 0
    clear p6
    have qi6 : (0 < (a0.size : Int)) = True := eq_true (of_decide_eq_true q3_)
    replace q6 := eq_true q6
    go_wp2
    go_meet
    case rel => exact ⟨_, (((bt a0 0) == 45)), q4_, H', ⟨(by first | omega | exact Nat.le_refl _)⟩, ⟨q2_⟩, ⟨q0_⟩⟩
   ·rw [if_neg c5] at H
    exact absurd H (by simp)
  ·rw [if_neg c4] at H
   have c4b0 : decide (0 < (a0.size : Int)) = false := decide_eq_false c4
   have c4b1 : decide (0 < a0.size) = false := decide_eq_false (by omega)
   clear c4
   (first | rw [c4b0] | (simp only [i64_w, i32_w]; rw [c4b0]) | skip)
   have H' := Aside0.mk H
   clear H
   go_wp2
   go_meet
   case rel => exact ⟨_, (false), q4_, H', ⟨(by first | omega | exact Nat.le_refl _)⟩, ⟨q2_⟩, ⟨q0_⟩⟩
 case rest =>
  clear HC2
  try clear p2
  try clear c3
  try clear c4
  try clear c4b0
  try clear c4b1
  try clear c5
  try clear c5b0
  try clear c5b1
  try clear p6 p6
  try clear q6 q6
  try clear hx6
  try clear qi6
  obtain ⟨kq, x4_1, rfl, HA, HJ1, BK209, HB⟩ := hcut
  cases kq with
  | zero => exact absurd HA.out (by simp [polyglotlaw02_Parse.j0])
  | succ kj1 =>
   have H := HA.out
   clear HA
   simp only [polyglotlaw02_Parse.j0] at H
   have HC7 := Aside0.mk H
   clear H
   go_upto_if 17 with (fail)
   go_cut [0] (fun v0 wc => ∃ (kq : Nat) (x0_6 : ByteArray), v0 = .string x0_6 ∧ Aside0 (polyglotlaw02_Parse.j1 kq x0_6 x4_1 = some (r1, r2, r3, r4)) ∧ Aside0 (kq ≤ kj1) ∧ Aside0 (wc.heap[gb209]? = some (.cells #[.bool false, .string (⟨#[]⟩ : ByteArray), .int .i64 0] 46 (0, 0))) ∧ Aside0 (Below w.heap.size w wc))
   case first =>
    have H := HC7.out
    clear HC7
    by_cases c8 : x4_1 = true
    ·subst c8
     have H1 : (if 1 ≤ (a0.size : Int) then (polyglotlaw02_Parse.j1 kj1 (a0.extract 1 a0.size) true) else (none)) = some (r1, r2, r3, r4) := by rw [if_pos rfl] at H; exact H
     clear H
     have H := H1
     clear H1
     by_cases c9 : 1 ≤ (a0.size : Int)
     ·rw [if_pos c9] at H
      have c9b0 := eq_true c9
      have c9b1 : decide (1 ≤ (a0.size : Int)) = true := decide_eq_true c9
      clear c9
      have H' := Aside0.mk H
      clear H
      go_wp2
      go_meet
      case rel => exact ⟨_, (a0.extract 1 a0.size), q4_, H', ⟨(by have := HJ1.out; first | omega | exact Nat.le_refl _)⟩, ⟨q2_⟩, ⟨q0_⟩⟩
     ·rw [if_neg c9] at H
      exact absurd H (by simp)
    ·replace c8 := Bool.eq_false_iff.mpr c8
     subst c8
     have H1 : (polyglotlaw02_Parse.j1 kj1 a0 false) = some (r1, r2, r3, r4) := by rw [if_neg (show ¬ (false = true) by decide)] at H; exact H
     clear H
     have H := H1
     clear H1
     have H' := Aside0.mk H
     clear H
     go_wp2
     go_meet
     case rel => exact ⟨_, (a0), q4_, H', ⟨(by have := HJ1.out; first | omega | exact Nat.le_refl _)⟩, ⟨q2_⟩, ⟨q0_⟩⟩
   case rest =>
    clear HC7
    try clear p2 p2
    try clear c3
    try clear c4
    try clear c4b0
    try clear c4b1
    try clear c5
    try clear c5b0
    try clear c5b1
    try clear p6 p6
    try clear q6 q6
    try clear hx6
    try clear qi6
    try clear c8
    try clear c9
    try clear c9b0
    try clear c9b1
    obtain ⟨kq, x0_6, rfl, HA, HJ6, BK209, HB⟩ := hcut
    cases kq with
    | zero => exact absurd HA.out (by simp [polyglotlaw02_Parse.j1])
    | succ kj6 =>
     have H := HA.out
     clear HA
     simp only [polyglotlaw02_Parse.j1] at H
     have H' := Aside0.mk H
     clear H
     go_wp2
     go_loopg [5, 6, 7] kj6 (fun kq v5 v6 v7 w' => ∃ (x5_3 : ByteArray) (x6_3 : Int) (x7_3 : Int) (x210000_3 : Bool) (x210001_3 : ByteArray) (x210002_3 : Int), v5 = .string x5_3 ∧ v6 = .int .i64 x6_3 ∧ v7 = .int .i64 x7_3 ∧ Aside0 (polyglotlaw02_Parse.l0 kq x0_6 x4_1 x5_3 x6_3 x7_3 = some (r1, r2, r3, r4)) ∧ Aside0 (kq ≤ kj6) ∧ Aside0 (w'.heap[gb209]? = some (.cells #[.bool x210000_3, .string x210001_3, .int .i64 x210002_3] 46 (0, 0))) ∧ Aside0 (Below w.heap.size w w'))
     case atStart => exact ⟨((⟨#[]⟩ : ByteArray)), ((-1)), (0), (false), ((⟨#[]⟩ : ByteArray)), (0), q4_, q4_, q4_, H', ⟨Nat.le_refl _⟩, ⟨q2_⟩, ⟨q0_⟩⟩
     case round =>
      clear H'
      try clear p2 p2
      try clear c3
      try clear c4
      try clear c4b0
      try clear c4b1
      try clear c5
      try clear c5b0
      try clear c5b1
      try clear p6 p6
      try clear q6 q6
      try clear hx6
      try clear qi6
      try clear c8
      try clear c9
      try clear c9b0
      try clear c9b1
      obtain ⟨x5_3, x6_3, x7_3, x210000_3, x210001_3, x210002_3, rfl, rfl, rfl, HA, HK3, BK209, HB⟩ := hrel
      cases gk with
      | zero => exact absurd HA.out (by simp [polyglotlaw02_Parse.l0])
      | succ k3 =>
       have H := HA.out
       clear HA
       simp only [polyglotlaw02_Parse.l0] at H
       by_cases c10 : x7_3 < (x0_6.size : Int)
       ·rw [if_pos c10] at H
        have c10b0 : decide (x7_3 < (x0_6.size : Int)) = true := decide_eq_true c10
        clear c10
        by_cases c11 : 0 ≤ x7_3
        ·rw [if_pos c11] at H
         have c11b0 : decide (0 ≤ x7_3) = true := decide_eq_true c11
         clear c11
         replace H := Option.bind_eq_some_iff.mp H
         obtain ⟨t210, A130, H⟩ := H
         replace H : (if t210 = true then (if x7_3 ≤ (wrap64 (x7_3 + 1)) then (if (wrap64 (x7_3 + 1)) ≤ (x0_6.size : Int) then (if x5_3.size + (x0_6.extract (x7_3 : Int).toNat ((wrap64 (x7_3 + 1)) : Int).toNat).size ≤ 9223372036854775807 then (polyglotlaw02_Parse.l0 k3 x0_6 x4_1 (x5_3 ++ (x0_6.extract (x7_3 : Int).toNat ((wrap64 (x7_3 + 1)) : Int).toNat)) x6_3 (wrap64 (x7_3 + 1))) else (none)) else (none)) else (none)) else (if (bt x0_6 x7_3) = 46 then (if x6_3 < 0 then (if x7_3 > 0 then (if (wrap64 (x7_3 + 1)) < (x0_6.size : Int) then (polyglotlaw02_Parse.l0 k3 x0_6 x4_1 x5_3 x7_3 (wrap64 (x7_3 + 1))) else (some (false, (⟨#[]⟩ : ByteArray), 0, false))) else (some (false, (⟨#[]⟩ : ByteArray), 0, false))) else (some (false, (⟨#[]⟩ : ByteArray), 0, false))) else (some (false, (⟨#[]⟩ : ByteArray), 0, false)))) = some (r1, r2, r3, r4) := H
         have A13 := Aside0.mk A130
         clear A130
         by_cases c14 : t210 = true
         ·subst c14
          have H1 : (if x7_3 ≤ (wrap64 (x7_3 + 1)) then (if (wrap64 (x7_3 + 1)) ≤ (x0_6.size : Int) then (if x5_3.size + (x0_6.extract (x7_3 : Int).toNat ((wrap64 (x7_3 + 1)) : Int).toNat).size ≤ 9223372036854775807 then (polyglotlaw02_Parse.l0 k3 x0_6 x4_1 (x5_3 ++ (x0_6.extract (x7_3 : Int).toNat ((wrap64 (x7_3 + 1)) : Int).toNat)) x6_3 (wrap64 (x7_3 + 1))) else (none)) else (none)) else (none)) = some (r1, r2, r3, r4) := by rw [if_pos rfl] at H; exact H
          clear H
          have H := H1
          clear H1
          have c15b0 := eq_true (of_decide_eq_true q3_ : 0 ≤ x7_3)
          by_cases c16 : x7_3 ≤ (wrap64 (x7_3 + 1))
          ·rw [if_pos c16] at H
           have c16b0 := eq_true c16
           have c16b1 : decide (x7_3 ≤ (wrap64 (x7_3 + 1))) = true := decide_eq_true c16
           by_cases c17 : (wrap64 (x7_3 + 1)) ≤ (x0_6.size : Int)
           ·rw [if_pos c17] at H
            have c17b0 := eq_true c17
            have c17b1 : decide ((wrap64 (x7_3 + 1)) ≤ (x0_6.size : Int)) = true := decide_eq_true c17
            by_cases c18 : x5_3.size + (x0_6.extract (x7_3 : Int).toNat ((wrap64 (x7_3 + 1)) : Int).toNat).size ≤ 9223372036854775807
            ·rw [if_pos c18] at H
             have c18b0 := eq_true c18
             have c18b1 : decide (x5_3.size + (x0_6.extract (x7_3 : Int).toNat ((wrap64 (x7_3 + 1)) : Int).toNat).size ≤ 9223372036854775807) = true := decide_eq_true c18
             try have c18b2 : (9223372036854775807 < x5_3.size + (x0_6.extract (x7_3 : Int).toNat ((wrap64 (x7_3 + 1)) : Int).toNat).size) = False := eq_false (Nat.not_lt.2 c18)
             have H' := Aside0.mk H
             clear H
             have p12 : 0 ≤ (x7_3 : Int) := of_decide_eq_true q3_
             have q12 : x7_3 < (x0_6.size : Int) := of_decide_eq_true q3_
             have hx12 := bt_at x0_6 x7_3
             replace p12 := eq_true p12
             replace q12 := eq_true q12
             go_wp2_with (first | ((with_reducible refine gate_callee (f := 45) rfl ?_); refine goesL_ (some 31) rfl rfl Tryz.func45 (by kernel_rfl) rfl #[.int .u8 (bt x0_6 x7_3)] rfl q5_ ?_; (with_reducible refine (polyglotlaw02_digit.calls (bt x0_6 x7_3) true _ A13.out).mono ?_); rintro e w' ⟨rfl, ⟨nd, rfl⟩⟩; refine ⟨_, rfl, ?_⟩))
             go_roundg k3
             case measure => have := HJ1.out; have := HJ6.out; have := HK3.out; omega
             case rel => exact ⟨(x5_3 ++ (x0_6.extract (x7_3 : Int).toNat ((wrap64 (x7_3 + 1)) : Int).toNat)), (x6_3), (wrap64 (x7_3 + 1)), (x210000_3), (x210001_3), (x210002_3), q4_, q4_, q4_, H', ⟨(by have := HJ1.out; have := HJ6.out; have := HK3.out; omega)⟩, ⟨q2_⟩, ⟨q0_⟩⟩
            ·rw [if_neg c18] at H
             exact absurd H (by simp)
           ·rw [if_neg c17] at H
            exact absurd H (by simp)
          ·rw [if_neg c16] at H
           exact absurd H (by simp)
         ·replace c14 := Bool.eq_false_iff.mpr c14
          subst c14
          have H1 : (if (bt x0_6 x7_3) = 46 then (if x6_3 < 0 then (if x7_3 > 0 then (if (wrap64 (x7_3 + 1)) < (x0_6.size : Int) then (polyglotlaw02_Parse.l0 k3 x0_6 x4_1 x5_3 x7_3 (wrap64 (x7_3 + 1))) else (some (false, (⟨#[]⟩ : ByteArray), 0, false))) else (some (false, (⟨#[]⟩ : ByteArray), 0, false))) else (some (false, (⟨#[]⟩ : ByteArray), 0, false))) else (some (false, (⟨#[]⟩ : ByteArray), 0, false))) = some (r1, r2, r3, r4) := by rw [if_neg (show ¬ (false = true) by decide)] at H; exact H
          clear H
          have H := H1
          clear H1
          by_cases c20 : (bt x0_6 x7_3) = 46
          ·rw [if_pos c20] at H
           have c20b0 : ((bt x0_6 x7_3) == 46) = true := beq_iff_eq.mpr c20
           have c20b1 : ((bt x0_6 x7_3) != 46) = false := bne_eq_false_iff_eq.mpr c20
           clear c20
           by_cases c21 : x6_3 < 0
           ·rw [if_pos c21] at H
            have c21b0 : decide (x6_3 < 0) = true := decide_eq_true c21
            clear c21
            by_cases c22 : x7_3 > 0
            ·rw [if_pos c22] at H
             have c22b0 : decide (0 < x7_3) = true := decide_eq_true c22
             clear c22
             by_cases c23 : (wrap64 (x7_3 + 1)) < (x0_6.size : Int)
             ·rw [if_pos c23] at H
              have c23b0 : decide ((wrap64 (x7_3 + 1)) < (x0_6.size : Int)) = true := decide_eq_true c23
              clear c23
              have H' := Aside0.mk H
              clear H
              have p12 : 0 ≤ (x7_3 : Int) := of_decide_eq_true q3_
              have q12 : x7_3 < (x0_6.size : Int) := of_decide_eq_true q3_
              have hx12 := bt_at x0_6 x7_3
              replace p12 := eq_true p12
              replace q12 := eq_true q12
              go_wp2_with (first | ((with_reducible refine gate_callee (f := 45) rfl ?_); refine goesL_ (some 31) rfl rfl Tryz.func45 (by kernel_rfl) rfl #[.int .u8 (bt x0_6 x7_3)] rfl q5_ ?_; (with_reducible refine (polyglotlaw02_digit.calls (bt x0_6 x7_3) false _ A13.out).mono ?_); rintro e w' ⟨rfl, ⟨nd, rfl⟩⟩; refine ⟨_, rfl, ?_⟩; have p19 : 0 ≤ (x7_3 : Int) := of_decide_eq_true q3_; have q19 : x7_3 < (x0_6.size : Int) := of_decide_eq_true q3_; have hx19 := bt_at x0_6 x7_3; replace p19 := eq_true p19; replace q19 := eq_true q19))
              go_roundg k3
              case measure => have := HJ1.out; have := HJ6.out; have := HK3.out; omega
              case rel => exact ⟨(x5_3), (x7_3), (wrap64 (x7_3 + 1)), (x210000_3), (x210001_3), (x210002_3), q4_, q4_, q4_, H', ⟨(by have := HJ1.out; have := HJ6.out; have := HK3.out; omega)⟩, ⟨q2_⟩, ⟨q0_⟩⟩
             ·rw [if_neg c23] at H
              have c23b0 : decide ((wrap64 (x7_3 + 1)) < (x0_6.size : Int)) = false := decide_eq_false c23
              clear c23
              simp only [Option.some.injEq, Prod.mk.injEq] at H
              obtain ⟨rfl, rfl, rfl, rfl⟩ := H
              have p12 : 0 ≤ (x7_3 : Int) := of_decide_eq_true q3_
              have q12 : x7_3 < (x0_6.size : Int) := of_decide_eq_true q3_
              have hx12 := bt_at x0_6 x7_3
              replace p12 := eq_true p12
              replace q12 := eq_true q12
              go_wp2_with (first | ((with_reducible refine gate_callee (f := 45) rfl ?_); refine goesL_ (some 31) rfl rfl Tryz.func45 (by kernel_rfl) rfl #[.int .u8 (bt x0_6 x7_3)] rfl q5_ ?_; (with_reducible refine (polyglotlaw02_digit.calls (bt x0_6 x7_3) false _ A13.out).mono ?_); rintro e w' ⟨rfl, ⟨nd, rfl⟩⟩; refine ⟨_, rfl, ?_⟩; (try (rw [drewN_self wr]; generalize hq_ : World.drewN wr _ = wr; have n0_ : Aside0 (wr.heap[gb209]? = some (.cells #[.bool x210000_3, .string x210001_3, .int .i64 x210002_3] 46 (0, 0))) := ⟨(by rw [← hq_]; exact q2_)⟩; have n1_ : Aside0 (Below w.heap.size w wr) := ⟨(by rw [← hq_]; exact q0_)⟩; clear BK209 HB hq_; have BK209 := n0_; have HB := n1_; clear n0_ n1_)); have p19 : 0 ≤ (x7_3 : Int) := of_decide_eq_true q3_; have q19 : x7_3 < (x0_6.size : Int) := of_decide_eq_true q3_; have hx19 := bt_at x0_6 x7_3; replace p19 := eq_true p19; replace q19 := eq_true q19; obtain ⟨hcz24_0, hcz24_1, hcz24_2, hfz24_0, hfz24_1, hfz24_2⟩ := cellsF3 BK209.out))
              refine bodyPost_ret (results_ct rfl _ _ gb209 46 #[.bool false, .string (⟨#[]⟩ : ByteArray), .int .i64 0] (0, 0) _ rfl q1_ Tryz.underlying46 rfl (by kernel_rfl)) rfl ?_
              exact ⟨q7_, q0_⟩
            ·rw [if_neg c22] at H
             have c22b0 : decide (0 < x7_3) = false := decide_eq_false c22
             clear c22
             simp only [Option.some.injEq, Prod.mk.injEq] at H
             obtain ⟨rfl, rfl, rfl, rfl⟩ := H
             have p12 : 0 ≤ (x7_3 : Int) := of_decide_eq_true q3_
             have q12 : x7_3 < (x0_6.size : Int) := of_decide_eq_true q3_
             have hx12 := bt_at x0_6 x7_3
             replace p12 := eq_true p12
             replace q12 := eq_true q12
             go_wp2_with (first | ((with_reducible refine gate_callee (f := 45) rfl ?_); refine goesL_ (some 31) rfl rfl Tryz.func45 (by kernel_rfl) rfl #[.int .u8 (bt x0_6 x7_3)] rfl q5_ ?_; (with_reducible refine (polyglotlaw02_digit.calls (bt x0_6 x7_3) false _ A13.out).mono ?_); rintro e w' ⟨rfl, ⟨nd, rfl⟩⟩; refine ⟨_, rfl, ?_⟩; (try (rw [drewN_self wr]; generalize hq_ : World.drewN wr _ = wr; have n0_ : Aside0 (wr.heap[gb209]? = some (.cells #[.bool x210000_3, .string x210001_3, .int .i64 x210002_3] 46 (0, 0))) := ⟨(by rw [← hq_]; exact q2_)⟩; have n1_ : Aside0 (Below w.heap.size w wr) := ⟨(by rw [← hq_]; exact q0_)⟩; clear BK209 HB hq_; have BK209 := n0_; have HB := n1_; clear n0_ n1_)); have p19 : 0 ≤ (x7_3 : Int) := of_decide_eq_true q3_; have q19 : x7_3 < (x0_6.size : Int) := of_decide_eq_true q3_; have hx19 := bt_at x0_6 x7_3; replace p19 := eq_true p19; replace q19 := eq_true q19; obtain ⟨hcz25_0, hcz25_1, hcz25_2, hfz25_0, hfz25_1, hfz25_2⟩ := cellsF3 BK209.out))
             refine bodyPost_ret (results_ct rfl _ _ gb209 46 #[.bool false, .string (⟨#[]⟩ : ByteArray), .int .i64 0] (0, 0) _ rfl q1_ Tryz.underlying46 rfl (by kernel_rfl)) rfl ?_
             exact ⟨q7_, q0_⟩
           ·rw [if_neg c21] at H
            have c21b0 : decide (x6_3 < 0) = false := decide_eq_false c21
            clear c21
            simp only [Option.some.injEq, Prod.mk.injEq] at H
            obtain ⟨rfl, rfl, rfl, rfl⟩ := H
            have p12 : 0 ≤ (x7_3 : Int) := of_decide_eq_true q3_
            have q12 : x7_3 < (x0_6.size : Int) := of_decide_eq_true q3_
            have hx12 := bt_at x0_6 x7_3
            replace p12 := eq_true p12
            replace q12 := eq_true q12
            go_wp2_with (first | ((with_reducible refine gate_callee (f := 45) rfl ?_); refine goesL_ (some 31) rfl rfl Tryz.func45 (by kernel_rfl) rfl #[.int .u8 (bt x0_6 x7_3)] rfl q5_ ?_; (with_reducible refine (polyglotlaw02_digit.calls (bt x0_6 x7_3) false _ A13.out).mono ?_); rintro e w' ⟨rfl, ⟨nd, rfl⟩⟩; refine ⟨_, rfl, ?_⟩; (try (rw [drewN_self wr]; generalize hq_ : World.drewN wr _ = wr; have n0_ : Aside0 (wr.heap[gb209]? = some (.cells #[.bool x210000_3, .string x210001_3, .int .i64 x210002_3] 46 (0, 0))) := ⟨(by rw [← hq_]; exact q2_)⟩; have n1_ : Aside0 (Below w.heap.size w wr) := ⟨(by rw [← hq_]; exact q0_)⟩; clear BK209 HB hq_; have BK209 := n0_; have HB := n1_; clear n0_ n1_)); have p19 : 0 ≤ (x7_3 : Int) := of_decide_eq_true q3_; have q19 : x7_3 < (x0_6.size : Int) := of_decide_eq_true q3_; have hx19 := bt_at x0_6 x7_3; replace p19 := eq_true p19; replace q19 := eq_true q19; obtain ⟨hcz26_0, hcz26_1, hcz26_2, hfz26_0, hfz26_1, hfz26_2⟩ := cellsF3 BK209.out))
            refine bodyPost_ret (results_ct rfl _ _ gb209 46 #[.bool false, .string (⟨#[]⟩ : ByteArray), .int .i64 0] (0, 0) _ rfl q1_ Tryz.underlying46 rfl (by kernel_rfl)) rfl ?_
            exact ⟨q7_, q0_⟩
          ·rw [if_neg c20] at H
           have c20b0 : ((bt x0_6 x7_3) == 46) = false := beq_eq_false_iff_ne.mpr c20
           have c20b1 : ((bt x0_6 x7_3) != 46) = true := bne_iff_ne.mpr c20
           simp only [Option.some.injEq, Prod.mk.injEq] at H
           obtain ⟨rfl, rfl, rfl, rfl⟩ := H
           have p12 : 0 ≤ (x7_3 : Int) := of_decide_eq_true q3_
           have q12 : x7_3 < (x0_6.size : Int) := of_decide_eq_true q3_
           have hx12 := bt_at x0_6 x7_3
           replace p12 := eq_true p12
           replace q12 := eq_true q12
           go_wp2_with (first | ((with_reducible refine gate_callee (f := 45) rfl ?_); refine goesL_ (some 31) rfl rfl Tryz.func45 (by kernel_rfl) rfl #[.int .u8 (bt x0_6 x7_3)] rfl q5_ ?_; (with_reducible refine (polyglotlaw02_digit.calls (bt x0_6 x7_3) false _ A13.out).mono ?_); rintro e w' ⟨rfl, ⟨nd, rfl⟩⟩; refine ⟨_, rfl, ?_⟩; (try (rw [drewN_self wr]; generalize hq_ : World.drewN wr _ = wr; have n0_ : Aside0 (wr.heap[gb209]? = some (.cells #[.bool x210000_3, .string x210001_3, .int .i64 x210002_3] 46 (0, 0))) := ⟨(by rw [← hq_]; exact q2_)⟩; have n1_ : Aside0 (Below w.heap.size w wr) := ⟨(by rw [← hq_]; exact q0_)⟩; clear BK209 HB hq_; have BK209 := n0_; have HB := n1_; clear n0_ n1_)); have p19 : 0 ≤ (x7_3 : Int) := of_decide_eq_true q3_; have q19 : x7_3 < (x0_6.size : Int) := of_decide_eq_true q3_; have hx19 := bt_at x0_6 x7_3; replace p19 := eq_true p19; replace q19 := eq_true q19; obtain ⟨hcz27_0, hcz27_1, hcz27_2, hfz27_0, hfz27_1, hfz27_2⟩ := cellsF3 BK209.out))
           refine bodyPost_ret (results_ct rfl _ _ gb209 46 #[.bool false, .string (⟨#[]⟩ : ByteArray), .int .i64 0] (0, 0) _ rfl q1_ Tryz.underlying46 rfl (by kernel_rfl)) rfl ?_
           exact ⟨q7_, q0_⟩
        ·rw [if_neg c11] at H
         exact absurd H (by simp)
       ·rw [if_neg c10] at H
        have c10b0 : decide (x7_3 < (x0_6.size : Int)) = false := decide_eq_false c10
        clear c10
        have HC28 := Aside0.mk H
        clear H
        go_upto_region 14 with (fail)
        go_cut [67] (fun v67 wc => ∃ (kq : Nat) (x67_27 : Bool), v67 = .bool x67_27 ∧ Aside0 (polyglotlaw02_Parse.j3 kq x0_6 x4_1 x5_3 x6_3 x67_27 = some (r1, r2, r3, r4)) ∧ Aside0 (kq ≤ k3) ∧ Aside0 (wc.heap[gb209]? = some (.cells #[.bool x210000_3, .string x210001_3, .int .i64 x210002_3] 46 (0, 0))) ∧ Aside0 (Below w.heap.size w wc))
        case first =>
         have H := HC28.out
         clear HC28
         by_cases c29 : (x5_3.size : Int) = 0
         ·rw [if_pos c29] at H
          have c29b0 : ((x5_3.size : Int) == 0) = true := beq_iff_eq.mpr c29
          have c29b1 : ((x5_3.size : Int) != 0) = false := bne_eq_false_iff_eq.mpr c29
          clear c29
          (first | rw [c29b0] | (simp only [i64_w, i32_w]; rw [c29b0]) | skip)
          have H' := Aside0.mk H
          clear H
          go_wp2
          go_meet
          case rel => exact ⟨_, (true), q4_, H', ⟨(by have := HJ1.out; have := HJ6.out; have := HK3.out; first | omega | exact Nat.le_refl _)⟩, ⟨q2_⟩, ⟨q0_⟩⟩
         ·rw [if_neg c29] at H
          have c29b0 : ((x5_3.size : Int) == 0) = false := beq_eq_false_iff_ne.mpr c29
          have c29b1 : ((x5_3.size : Int) != 0) = true := bne_iff_ne.mpr c29
          (first | rw [c29b0] | (simp only [i64_w, i32_w]; rw [c29b0]) | skip)
          have H' := Aside0.mk H
          clear H
          go_wp2
          go_meet
          case rel => exact ⟨_, (decide ((x5_3.size : Int) > 40)), q4_, H', ⟨(by have := HJ1.out; have := HJ6.out; have := HK3.out; first | omega | exact Nat.le_refl _)⟩, ⟨q2_⟩, ⟨q0_⟩⟩
        case rest =>
         clear HC28
         try clear c1
         try clear p1
         try clear q1
         try clear hx1
         try clear c2
         try clear p2 p2
         try clear c3
         try clear c4
         try clear c4b0
         try clear c4b1
         try clear c5
         try clear c5b0
         try clear c5b1
         try clear p6 p6
         try clear q6 q6
         try clear hx6
         try clear qi6
         try clear c8
         try clear c9
         try clear c9b0
         try clear c9b1
         try clear c10
         try clear c10b0
         try clear c11
         try clear c11b0
         try clear p12 p12
         try clear q12 q12
         try clear hx12
         try clear c14
         try clear c15
         try clear c15b0
         try clear c16
         try clear c16b0
         try clear c16b1
         try clear c17
         try clear c17b0
         try clear c17b1
         try clear c18
         try clear c18b0
         try clear c18b1
         try clear c18b2
         try clear p19 p19
         try clear q19 q19
         try clear hx19
         try clear c20
         try clear c20b0
         try clear c20b1
         try clear c21
         try clear c21b0
         try clear c22
         try clear c22b0
         try clear c23
         try clear c23b0
         try clear c29
         try clear c29b0
         try clear c29b1
         try clear hcz24_0 hcz24_1 hcz24_2
         try clear hcz25_0 hcz25_1 hcz25_2
         try clear hcz26_0 hcz26_1 hcz26_2
         try clear hcz27_0 hcz27_1 hcz27_2
         try clear hfz24_0 hfz24_1 hfz24_2
         try clear hfz25_0 hfz25_1 hfz25_2
         try clear hfz26_0 hfz26_1 hfz26_2
         try clear hfz27_0 hfz27_1 hfz27_2
         obtain ⟨kq, x67_27, rfl, HA, HJ27, BK209, HB⟩ := hcut
         cases kq with
         | zero => exact absurd HA.out (by simp [polyglotlaw02_Parse.j3])
         | succ kj27 =>
          have H := HA.out
          clear HA
          simp only [polyglotlaw02_Parse.j3] at H
          by_cases c30 : x67_27 = true
          ·subst c30
           have H1 : (some (false, (⟨#[]⟩ : ByteArray), 0, false)) = some (r1, r2, r3, r4) := by rw [if_pos rfl] at H; exact H
           clear H
           have H := H1
           clear H1
           simp only [Option.some.injEq, Prod.mk.injEq] at H
           obtain ⟨rfl, rfl, rfl, rfl⟩ := H
           obtain ⟨hcz31_0, hcz31_1, hcz31_2, hfz31_0, hfz31_1, hfz31_2⟩ := cellsF3 BK209.out
           go_wp2
           refine bodyPost_ret (results_ct rfl _ _ gb209 46 #[.bool false, .string (⟨#[]⟩ : ByteArray), .int .i64 0] (0, 0) _ rfl q1_ Tryz.underlying46 rfl (by kernel_rfl)) rfl ?_
           exact ⟨q7_, q0_⟩
          ·replace c30 := Bool.eq_false_iff.mpr c30
           subst c30
           have H1 : (if x6_3 ≥ 0 then (polyglotlaw02_Parse.j4 kj27 x4_1 x5_3 (wrap64 ((wrap64 ((x0_6.size : Int) - 1)) - x6_3))) else (polyglotlaw02_Parse.j4 kj27 x4_1 x5_3 0)) = some (r1, r2, r3, r4) := by rw [if_neg (show ¬ (false = true) by decide)] at H; exact H
           clear H
           have H := H1
           clear H1
           have HC32 := Aside0.mk H
           clear H
           go_upto_if 70 with (fail)
           go_cut [8] (fun v8 wc => ∃ (kq : Nat) (x8_31 : Int), v8 = .int .i64 x8_31 ∧ Aside0 (polyglotlaw02_Parse.j4 kq x4_1 x5_3 x8_31 = some (r1, r2, r3, r4)) ∧ Aside0 (kq ≤ kj27) ∧ Aside0 (wc.heap[gb209]? = some (.cells #[.bool x210000_3, .string x210001_3, .int .i64 x210002_3] 46 (0, 0))) ∧ Aside0 (Below w.heap.size w wc))
           case first =>
            have H := HC32.out
            clear HC32
            by_cases c33 : x6_3 ≥ 0
            ·rw [if_pos c33] at H
             have c33b0 : decide (0 ≤ x6_3) = true := decide_eq_true c33
             clear c33
             (first | rw [c33b0] | (simp only [i64_w, i32_w]; rw [c33b0]) | skip)
             have H' := Aside0.mk H
             clear H
             go_wp2
             go_meet
             case rel => exact ⟨_, (wrap64 ((wrap64 ((x0_6.size : Int) - 1)) - x6_3)), q4_, H', ⟨(by have := HJ1.out; have := HJ6.out; have := HK3.out; have := HJ27.out; first | omega | exact Nat.le_refl _)⟩, ⟨q2_⟩, ⟨q0_⟩⟩
            ·rw [if_neg c33] at H
             have c33b0 : decide (0 ≤ x6_3) = false := decide_eq_false c33
             clear c33
             (first | rw [c33b0] | (simp only [i64_w, i32_w]; rw [c33b0]) | skip)
             have H' := Aside0.mk H
             clear H
             go_wp2
             go_meet
             case rel => exact ⟨_, (0), q4_, H', ⟨(by have := HJ1.out; have := HJ6.out; have := HK3.out; have := HJ27.out; first | omega | exact Nat.le_refl _)⟩, ⟨q2_⟩, ⟨q0_⟩⟩
           case rest =>
            clear HC32
            try clear c1
            try clear p1 p1
            try clear q1 q1
            try clear hx1
            try clear c2
            try clear p2 p2
            try clear c3
            try clear c4
            try clear c4b0
            try clear c4b1
            try clear c5
            try clear c5b0
            try clear c5b1
            try clear p6 p6
            try clear q6 q6
            try clear hx6
            try clear qi6
            try clear c8
            try clear c9
            try clear c9b0
            try clear c9b1
            try clear c10
            try clear c10b0
            try clear c11
            try clear c11b0
            try clear p12 p12
            try clear q12 q12
            try clear hx12
            try clear c14
            try clear c15
            try clear c15b0
            try clear c16
            try clear c16b0
            try clear c16b1
            try clear c17
            try clear c17b0
            try clear c17b1
            try clear c18
            try clear c18b0
            try clear c18b1
            try clear c18b2
            try clear p19 p19
            try clear q19 q19
            try clear hx19
            try clear c20
            try clear c20b0
            try clear c20b1
            try clear c21
            try clear c21b0
            try clear c22
            try clear c22b0
            try clear c23
            try clear c23b0
            try clear c29
            try clear c29b0
            try clear c29b1
            try clear c30
            try clear c31
            try clear c33
            try clear c33b0
            try clear hcz24_0 hcz24_1 hcz24_2
            try clear hcz25_0 hcz25_1 hcz25_2
            try clear hcz26_0 hcz26_1 hcz26_2
            try clear hcz27_0 hcz27_1 hcz27_2
            try clear hcz31_0 hcz31_1 hcz31_2
            try clear hfz24_0 hfz24_1 hfz24_2
            try clear hfz25_0 hfz25_1 hfz25_2
            try clear hfz26_0 hfz26_1 hfz26_2
            try clear hfz27_0 hfz27_1 hfz27_2
            try clear hfz31_0 hfz31_1 hfz31_2
            obtain ⟨kq, x8_31, rfl, HA, HJ31, BK209, HB⟩ := hcut
            cases kq with
            | zero => exact absurd HA.out (by simp [polyglotlaw02_Parse.j4])
            | succ kj31 =>
             have H := HA.out
             clear HA
             simp only [polyglotlaw02_Parse.j4] at H
             have H' := Aside0.mk H
             clear H
             go_wp2
             go_loopg [5] kj31 (fun kq v5 w' => ∃ (x5_6 : ByteArray), v5 = .string x5_6 ∧ Aside0 (polyglotlaw02_Parse.l1 kq x4_1 x5_6 x8_31 = some (r1, r2, r3, r4)) ∧ Aside0 (kq ≤ kj31) ∧ Aside0 (w'.heap[gb209]? = some (.cells #[.bool x210000_3, .string x210001_3, .int .i64 x210002_3] 46 (0, 0))) ∧ Aside0 (Below w.heap.size w w'))
             case atStart => exact ⟨(x5_3), q4_, H', ⟨Nat.le_refl _⟩, ⟨q2_⟩, ⟨q0_⟩⟩
             case round =>
              clear H'
              try clear c1
              try clear p1 p1
              try clear q1 q1
              try clear hx1
              try clear c2
              try clear p2 p2
              try clear c3
              try clear c4
              try clear c4b0
              try clear c4b1
              try clear c5
              try clear c5b0
              try clear c5b1
              try clear p6 p6
              try clear q6 q6
              try clear hx6
              try clear qi6
              try clear c8
              try clear c9
              try clear c9b0
              try clear c9b1
              try clear c10
              try clear c10b0
              try clear c11
              try clear c11b0
              try clear p12 p12
              try clear q12 q12
              try clear hx12
              try clear c14
              try clear c15
              try clear c15b0
              try clear c16
              try clear c16b0
              try clear c16b1
              try clear c17
              try clear c17b0
              try clear c17b1
              try clear c18
              try clear c18b0
              try clear c18b1
              try clear c18b2
              try clear p19 p19
              try clear q19 q19
              try clear hx19
              try clear c20
              try clear c20b0
              try clear c20b1
              try clear c21
              try clear c21b0
              try clear c22
              try clear c22b0
              try clear c23
              try clear c23b0
              try clear c29
              try clear c29b0
              try clear c29b1
              try clear c30
              try clear c31
              try clear c33
              try clear c33b0
              try clear hcz24_0 hcz24_1 hcz24_2
              try clear hcz25_0 hcz25_1 hcz25_2
              try clear hcz26_0 hcz26_1 hcz26_2
              try clear hcz27_0 hcz27_1 hcz27_2
              try clear hcz31_0 hcz31_1 hcz31_2
              try clear hfz24_0 hfz24_1 hfz24_2
              try clear hfz25_0 hfz25_1 hfz25_2
              try clear hfz26_0 hfz26_1 hfz26_2
              try clear hfz27_0 hfz27_1 hfz27_2
              try clear hfz31_0 hfz31_1 hfz31_2
              obtain ⟨x5_6, rfl, HA, HK6, BK209, HB⟩ := hrel
              cases gk with
              | zero => exact absurd HA.out (by simp [polyglotlaw02_Parse.l1])
              | succ k6 =>
               have H := HA.out
               clear HA
               simp only [polyglotlaw02_Parse.l1] at H
               by_cases c34 : (x5_6.size : Int) > (wrap64 (x8_31 + 1))
               ·rw [if_pos c34] at H
                have c34b0 : decide ((wrap64 (x8_31 + 1)) < (x5_6.size : Int)) = true := decide_eq_true c34
                clear c34
                by_cases c35 : 0 < (x5_6.size : Int)
                ·rw [if_pos c35] at H
                 have c35b0 : decide (0 < (x5_6.size : Int)) = true := decide_eq_true c35
                 have c35b1 : decide (0 < x5_6.size) = true := decide_eq_true (by omega)
                 clear c35
                 by_cases c37 : (bt x5_6 0) = 48
                 ·rw [if_pos c37] at H
                  have c37b0 : ((bt x5_6 0) == 48) = true := beq_iff_eq.mpr c37
                  have c37b1 : ((bt x5_6 0) != 48) = false := bne_eq_false_iff_eq.mpr c37
                  clear c37
                  by_cases c38 : 1 ≤ (x5_6.size : Int)
                  ·rw [if_pos c38] at H
                   have c38b0 := eq_true c38
                   have c38b1 : decide (1 ≤ (x5_6.size : Int)) = true := decide_eq_true c38
                   clear c38
                   have H' := Aside0.mk H
                   clear H
                   have p36 : 0 ≤ (0 : Int) := (by omega)
                   have q36 : 0 < x5_6.size := (by have : (0 : Int) < (x5_6.size : Int) := of_decide_eq_true q3_; omega)
                   have hx36 : ∀ h : 0 < x5_6.size, ((x5_6[0]'h).toNat : Int) = bt x5_6 0 := bt_at x5_6 0
                   clear p36
                   have qi36 : (0 < (x5_6.size : Int)) = True := eq_true (of_decide_eq_true q3_)
                   replace q36 := eq_true q36
                   go_wp2
                   go_roundg k6
                   case measure => have := HJ1.out; have := HJ6.out; have := HK3.out; have := HJ27.out; have := HJ31.out; have := HK6.out; omega
                   case rel => exact ⟨(x5_6.extract 1 x5_6.size), q4_, H', ⟨(by have := HJ1.out; have := HJ6.out; have := HK3.out; have := HJ27.out; have := HJ31.out; have := HK6.out; omega)⟩, ⟨q2_⟩, ⟨q0_⟩⟩
                  ·rw [if_neg c38] at H
                   exact absurd H (by simp)
                 ·rw [if_neg c37] at H
                  have c37b0 : ((bt x5_6 0) == 48) = false := beq_eq_false_iff_ne.mpr c37
                  have c37b1 : ((bt x5_6 0) != 48) = true := bne_iff_ne.mpr c37
                  simp only [Option.some.injEq, Prod.mk.injEq] at H
                  obtain ⟨rfl, rfl, rfl, rfl⟩ := H
                  have p36 : 0 ≤ (0 : Int) := (by omega)
                  have q36 : 0 < x5_6.size := (by have : (0 : Int) < (x5_6.size : Int) := of_decide_eq_true q3_; omega)
                  have hx36 : ∀ h : 0 < x5_6.size, ((x5_6[0]'h).toNat : Int) = bt x5_6 0 := bt_at x5_6 0
                  clear p36
                  have qi36 : (0 < (x5_6.size : Int)) = True := eq_true (of_decide_eq_true q3_)
                  replace q36 := eq_true q36
                  obtain ⟨hcz39_0, hcz39_1, hcz39_2, hfz39_0, hfz39_1, hfz39_2⟩ := cellsF3 BK209.out
                  go_wp2
                  refine bodyPost_ret (results_ct rfl _ _ gb209 46 #[.bool x4_1, .string x5_6, .int .i64 x8_31] (0, 0) _ rfl q6_ Tryz.underlying46 rfl (by kernel_rfl)) rfl ?_
                  exact ⟨q7_, q0_⟩
                ·rw [if_neg c35] at H
                 exact absurd H (by simp)
               ·rw [if_neg c34] at H
                have c34b0 : decide ((wrap64 (x8_31 + 1)) < (x5_6.size : Int)) = false := decide_eq_false c34
                clear c34
                simp only [Option.some.injEq, Prod.mk.injEq] at H
                obtain ⟨rfl, rfl, rfl, rfl⟩ := H
                obtain ⟨hcz40_0, hcz40_1, hcz40_2, hfz40_0, hfz40_1, hfz40_2⟩ := cellsF3 BK209.out
                go_wp2
                refine bodyPost_ret (results_ct rfl _ _ gb209 46 #[.bool x4_1, .string x5_6, .int .i64 x8_31] (0, 0) _ rfl q6_ Tryz.underlying46 rfl (by kernel_rfl)) rfl ?_
                exact ⟨q7_, q0_⟩
end Go.Proofs.YtdhpcofnddkcaaaGreatDoor.S
namespace Go.Proofs.YtdhpcofnddkcaaaGreatDoor.S
open Go.RowKit Go.Proofs.YtdhpcofnddkcaaaGreatDoor.G Go.Proofs.YtdhpcofnddkcaaaGreatDoorW.PrintWords Go.Proofs.YtdhpcofnddkcaaaGreatDoorW.PrintLast Go.Proofs.YtdhpcofnddkcaaaGreatDoorW.PrintMore
set_option linter.unusedVariables false
set_option linter.unusedSimpArgs false
theorem repeatL_one (c : UInt8) : ∀ m, Lib.repeatL [c] m = List.replicate m c
  | 0 => rfl
  | m + 1 => by
    show [c] ++ Lib.repeatL [c] m = _
    rw [repeatL_one c m, List.replicate_succ]
    rfl
abbrev bl (s : ByteArray) : List UInt8 := s.data.toList
theorem tl (s : ByteArray) : s.toList = bl s := Lib.toList_data s
theorem sz (s : ByteArray) : s.size = (bl s).length := Lib.size_eq s
theorem ba_ext {a b : ByteArray} (h : bl a = bl b) : a = b := by
  cases a; cases b; congr 1; exact Array.ext' h
theorem bl_app (a b : ByteArray) : bl (a ++ b) = bl a ++ bl b := by show (a ++ b).data.toList = _; rw [ByteArray.data_append, Array.toList_append]
theorem bl_ext (s : ByteArray) (a b : Nat) : bl (s.extract a b) = ((bl s).drop a).take (b - a) := Lib.extract_data s a b
theorem bl_mk (l : List UInt8) : bl ⟨l.toArray⟩ = l := rfl
theorem sz_app (a b : ByteArray) : (a ++ b).size = a.size + b.size := ByteArray.size_append
theorem w64 (x : Int) (h0 : -9223372036854775808 ≤ x) (h1 : x ≤ 9223372036854775807) : wrap64 x = x := by unfold wrap64; omega
theorem bt_nat (s : ByteArray) (i : Nat) (c : UInt8) (h : (bl s)[i]? = some c) : bt s (i : Int) = c.toNat := by
  obtain ⟨hl, e⟩ := List.getElem?_eq_some_iff.1 h
  have hl' : i < s.size := by rw [sz]; exact hl
  unfold bt
  rw [Int.toNat_natCast, dif_pos hl']
  rw [← e]
  rfl
theorem digit_f (c : UInt8) : polyglotlaw02_digit.f (c.toNat : Int) = some (isDig c) := by
  unfold polyglotlaw02_digit.f isDig
  by_cases h : 48 ≤ c.toNat
  · rw [if_pos (by omega)]
    simp [h]
    omega
  · rw [if_neg (by omega)]
    simp [h]
abbrev digs (l : List UInt8) : Bool := l.all isDig
def stripTo (m : Nat) : List UInt8 → List UInt8
  | [] => []
  | c :: t => if m < t.length + 1 ∧ c = 48 then stripTo m t else c :: t
theorem dw48 (l : List UInt8) : l = List.replicate (l.length - (Lib.trimLeftS l [48]).length) 48 ++ Lib.trimLeftS l [48] := by
  induction l with
  | nil => rfl
  | cons c t ih =>
    unfold Lib.trimLeftS at ih ⊢
    rw [List.dropWhile_cons]
    by_cases h : ([48] : List UInt8).contains c = true
    · rw [if_pos h]
      have hc : c = 48 := by simpa using h
      have hl : (t.dropWhile fun x => ([48] : List UInt8).contains x).length ≤ t.length := (List.dropWhile_suffix _).length_le
      rw [List.length_cons, show t.length + 1 - (t.dropWhile fun x => ([48] : List UInt8).contains x).length = (t.length - (t.dropWhile fun x => ([48] : List UInt8).contains x).length) + 1 by omega, List.replicate_succ, List.cons_append, ← ih, hc]
    · rw [if_neg h]
      simp
theorem strip_eq (m : Nat) : ∀ L : List UInt8, m ≤ L.length → 1 ≤ m → (if (Lib.trimLeftS L [48]).length < m then List.replicate (m - (Lib.trimLeftS L [48]).length) 48 ++ Lib.trimLeftS L [48] else Lib.trimLeftS L [48]) = stripTo m L
  | [], h, h1 => by simp at h; omega
  | c :: t, h, h1 => by
    rw [List.length_cons] at h
    by_cases hc : c = 48
    · have e : Lib.trimLeftS (c :: t) [48] = Lib.trimLeftS t [48] := by
        unfold Lib.trimLeftS
        rw [List.dropWhile_cons, if_pos (by simpa using hc)]
      rw [e]
      unfold stripTo
      by_cases hm : m < t.length + 1
      · rw [if_pos (⟨hm, hc⟩ : m < t.length + 1 ∧ c = 48)]
        exact strip_eq m t (by omega) h1
      · rw [if_neg (fun h => hm h.1 : ¬ (m < t.length + 1 ∧ c = 48))]
        have hd := dw48 (c :: t)
        rw [e, List.length_cons] at hd
        have hl : (Lib.trimLeftS t [48]).length ≤ t.length := (List.dropWhile_suffix _).length_le
        rw [if_pos (by omega), show m - (Lib.trimLeftS t [48]).length = t.length + 1 - (Lib.trimLeftS t [48]).length by omega]
        exact hd.symm
    · have e : Lib.trimLeftS (c :: t) [48] = c :: t := by
        unfold Lib.trimLeftS
        rw [List.dropWhile_cons, if_neg (by simpa using hc)]
      rw [e, if_neg (by rw [List.length_cons]; omega)]
      unfold stripTo
      rw [if_neg (fun h => hc h.2 : ¬ (m < t.length + 1 ∧ c = 48))]
theorem make0_ok (n : Bool) (D : ByteArray) (sc : Nat) (h : sc + 1 ≤ (bl D).length) (hl : (bl D).length ≤ 1000000) : dec_make0.f n D sc = some (n, ⟨(stripTo (sc + 1) (bl D)).toArray⟩, (sc : Int)) := by
  have hT : strings_TrimLeft.f D ⟨#[48]⟩ = some ⟨(Lib.trimLeftS (bl D) [48]).toArray⟩ := by
    unfold strings_TrimLeft.f
    rw [if_pos ⟨by decide, by decide⟩]
  have hlt : (Lib.trimLeftS (bl D) [48]).length ≤ (bl D).length := (List.dropWhile_suffix _).length_le
  have hst := strip_eq (sc + 1) (bl D) h (by omega)
  unfold dec_make0.f
  rw [hT, Option.bind_some, sz, bl_mk, w64 ((sc : Int) + 1) (by omega) (by omega), w64 _ (by omega) (by omega)]
  by_cases hc : (Lib.trimLeftS (bl D) [48]).length < sc + 1
  · rw [if_pos hc] at hst
    rw [if_pos (by omega)]
    have hR : strings_Repeat.f ⟨#[48]⟩ ((sc : Int) + 1 - ((Lib.trimLeftS (bl D) [48]).length : Int)) = some ⟨(List.replicate (sc + 1 - (Lib.trimLeftS (bl D) [48]).length) 48).toArray⟩ := by
      unfold strings_Repeat.f
      have e : ((sc : Int) + 1 - ((Lib.trimLeftS (bl D) [48]).length : Int)).toNat = sc + 1 - (Lib.trimLeftS (bl D) [48]).length := by omega
      rw [if_pos ⟨by omega, by omega, by rw [e]; show 1 * _ ≤ _; omega⟩, e]
      rw [show (⟨#[48]⟩ : ByteArray).data.toList = [48] from rfl, repeatL_one]
    rw [hR, Option.bind_some, if_pos (by rw [sz, bl_mk, List.length_replicate]; omega), ← hst]
    congr 3
  · rw [if_neg hc] at hst
    rw [if_neg (by omega), ← hst]
theorem dw_nil {p : UInt8 → Bool} : ∀ {l : List UInt8}, l.dropWhile p = [] ↔ ∀ x ∈ l, p x = true
  | [] => by simp
  | a :: l => by
    rw [List.dropWhile_cons]
    by_cases h : p a = true
    · rw [if_pos h, dw_nil]
      simp [h]
    · rw [if_neg h]
      simp [h]
theorem isDigits_ok (s : ByteArray) (hs : s.size ≤ 1000000) : dec_isDigits.f s = some (!(bl s).isEmpty && (bl s).all isDig) := by
  unfold dec_isDigits.f
  rw [tl]
  by_cases h0 : bl s = []
  · rw [if_pos h0, h0]; rfl
  · rw [if_neg h0]
    have hT : strings_Trim.f s ⟨#[48, 49, 50, 51, 52, 53, 54, 55, 56, 57]⟩ = some ⟨(Lib.trimS (bl s) [48, 49, 50, 51, 52, 53, 54, 55, 56, 57]).toArray⟩ := by
      unfold strings_Trim.f
      rw [if_pos ⟨by omega, by decide, by decide⟩]
    rw [hT, Option.bind_some, tl, bl_mk]
    congr 1
    have hc : ∀ c : UInt8, ([48, 49, 50, 51, 52, 53, 54, 55, 56, 57] : List UInt8).contains c = isDig c := fun c => by
      have h : ∀ n : Nat, n < 256 → ([48, 49, 50, 51, 52, 53, 54, 55, 56, 57] : List UInt8).contains (UInt8.ofNat n) = isDig (UInt8.ofNat n) := by decide +kernel
      have := h c.toNat c.toNat_lt
      rwa [show UInt8.ofNat c.toNat = c by simp] at this
    have h1 : (bl s).isEmpty = false := by simpa using h0
    rw [h1, Bool.not_false, Bool.true_and]
    unfold Lib.trimS Lib.trimLeftS Lib.trimRightS
    rw [show (fun x => ([48, 49, 50, 51, 52, 53, 54, 55, 56, 57] : List UInt8).contains x) = isDig from funext hc]
    by_cases ha : (bl s).all isDig = true
    · rw [ha]
      have e : (bl s).reverse.dropWhile isDig = [] := by
        rw [dw_nil]
        intro x hx
        exact List.all_eq_true.1 ha x (List.mem_reverse.1 hx)
      rw [e]; rfl
    · have ha' : (bl s).all isDig = false := by simpa using ha
      rw [ha', beq_eq_false_iff_ne]
      intro e
      apply ha
      rw [List.all_eq_true]
      intro x hx
      have e2 := dw_nil.1 e
      by_cases hxd : isDig x = true
      · exact hxd
      · exfalso
        have hm : x ∈ ((bl s).reverse.dropWhile isDig).reverse := by
          rw [List.mem_reverse]
          have hsp := List.takeWhile_append_dropWhile (p := isDig) (l := (bl s).reverse)
          have hx2 : x ∈ (bl s).reverse := List.mem_reverse.2 hx
          rw [← hsp] at hx2
          rcases List.mem_append.1 hx2 with h | h
          · exact absurd (List.all_eq_true.1 (List.all_takeWhile) x h) hxd
          · exact h
        exact hxd (e2 x hm)
def scan : List UInt8 → List UInt8 → Int → Nat → Option (List UInt8 × Int)
  | [], acc, pt, _ => some (acc, pt)
  | c :: t, acc, pt, i => if isDig c = true then scan t (acc ++ [c]) pt (i + 1) else if c = 46 ∧ pt < 0 ∧ 0 < i ∧ t ≠ [] then scan t acc i (i + 1) else none
theorem scan_behind : ∀ (t acc : List UInt8) (pt : Int) (i : Nat), 0 ≤ pt → scan t acc pt i = if digs t = true then some (acc ++ t, pt) else none
  | [], acc, pt, i, h => by simp [scan, digs]
  | c :: t, acc, pt, i, h => by
    unfold scan
    by_cases hc : isDig c = true
    · rw [if_pos hc, scan_behind t _ pt _ h]
      simp [digs, hc]
    · rw [if_neg hc, if_neg (by omega), if_neg (by simp [digs, hc])]
theorem dig_ne {c : UInt8} (h : isDig c = true) : (c != 46) = true := by
  rw [bne_iff_ne]
  rintro rfl
  exact absurd h (by decide)
theorem scan_ahead : ∀ (t acc : List UInt8) (i : Nat), scan t acc (-1) i = match behind t with
    | [] => if digs t = true then some (acc ++ t, -1) else none
    | _ :: P => if digs (ahead t) = true ∧ 0 < i + (ahead t).length ∧ P ≠ [] ∧ digs P = true then some (acc ++ ahead t ++ P, ((i + (ahead t).length : Nat) : Int)) else none
  | [], acc, i => by simp [scan, behind, digs]
  | c :: t, acc, i => by
    unfold scan
    by_cases hc : isDig c = true
    · have h1 : behind (c :: t) = behind t := by unfold behind; rw [List.dropWhile_cons, if_pos (dig_ne hc)]
      have h2 : ahead (c :: t) = c :: ahead t := by unfold ahead; rw [List.takeWhile_cons, if_pos (dig_ne hc)]
      rw [if_pos hc, scan_ahead t, h1, h2]
      cases hb : behind t with
      | nil => simp [digs, hc]
      | cons z P =>
        have e : digs (c :: ahead t) = digs (ahead t) := by simp [digs, hc]
        simp only [e, List.length_cons]
        by_cases hq : digs (ahead t) = true ∧ 0 < i + 1 + (ahead t).length ∧ P ≠ [] ∧ digs P = true
        · rw [if_pos hq, if_pos ⟨hq.1, by omega, hq.2.2⟩]
          simp
          omega
        · rw [if_neg hq, if_neg (fun h => hq ⟨h.1, by omega, h.2.2⟩)]
    · rw [if_neg hc]
      by_cases h46 : c = 46
      · subst h46
        have h1 : behind (46 :: t) = 46 :: t := by unfold behind; rw [List.dropWhile_cons, if_neg (by decide)]
        have h2 : ahead (46 :: t) = [] := by unfold ahead; rw [List.takeWhile_cons, if_neg (by decide)]
        rw [h1, h2]
        by_cases hq : 0 < i ∧ t ≠ []
        · rw [if_pos ⟨rfl, by decide, hq.1, hq.2⟩, scan_behind _ _ _ _ (by omega)]
          by_cases hd : digs t = true
          · rw [if_pos hd]
            show _ = if _ then _ else _
            rw [if_pos ⟨rfl, by simp; exact hq.1, hq.2, hd⟩]
            simp
          · rw [if_neg hd]
            show _ = if _ then _ else _
            rw [if_neg (fun h => hd h.2.2.2)]
        · rw [if_neg (fun h => hq ⟨h.2.2.1, h.2.2.2⟩)]
          show _ = if _ then _ else _
          rw [if_neg (fun h => hq ⟨by simpa using h.2.1, h.2.2.1⟩)]
      · rw [if_neg (fun h => h46 h.1)]
        have hne : (c != 46) = true := by rw [bne_iff_ne]; exact h46
        have h1 : behind (c :: t) = behind t := by unfold behind; rw [List.dropWhile_cons, if_pos hne]
        have h2 : ahead (c :: t) = c :: ahead t := by unfold ahead; rw [List.takeWhile_cons, if_pos hne]
        rw [h1, h2]
        cases hb : behind t with
        | nil => rw [if_neg (by simp [digs, hc])]
        | cons z P =>
          show _ = if _ then _ else _
          rw [if_neg (fun h => hc (by have := h.1; simp [digs] at this; exact this.1))]
def parseL (R : List UInt8) : Option (List UInt8 × Nat) := match behind R with
  | [] => if R ≠ [] ∧ digs R = true ∧ R.length ≤ 40 then some (R, 0) else none
  | _ :: P => if digs (ahead R) = true ∧ ahead R ≠ [] ∧ P ≠ [] ∧ digs P = true ∧ (ahead R ++ P).length ≤ 40 then some (ahead R ++ P, P.length) else none
def parseV (neg : Bool) (R : List UInt8) : Bool × ByteArray × Int × Bool := match parseL R with
  | none => (false, ⟨#[]⟩, 0, false)
  | some (D, sc) => (neg, ⟨(stripTo (sc + 1) D).toArray⟩, (sc : Int), true)
theorem ahead_behind (R : List UInt8) : R = ahead R ++ behind R := (List.takeWhile_append_dropWhile).symm
theorem behind_head {R P : List UInt8} {z : UInt8} (h : behind R = z :: P) : z = 46 := by
  have := List.head?_dropWhile_not (fun x : UInt8 => x != 46) R
  rw [show R.dropWhile (fun x => x != 46) = z :: P from h] at this
  simpa using this
theorem ahead_not (R : List UInt8) : ∀ c ∈ ahead R, c ≠ 46 := fun c hc => by
  have := List.all_eq_true.1 (List.all_takeWhile (p := fun x : UInt8 => x != 46) (l := R)) c hc
  simpa using this
theorem l1_strip (neg : Bool) (sc : Nat) (hsc : sc ≤ 1000000) : ∀ (n : Nat) (D : ByteArray), D.size ≤ n → D.size ≤ 1000000 → ∃ k, polyglotlaw02_Parse.l1 k neg D (sc : Int) = some (neg, ⟨(stripTo (sc + 1) (bl D)).toArray⟩, (sc : Int), true) := by
  intro n
  induction n with
  | zero =>
    intro D hn hD
    have h0 : bl D = [] := List.eq_nil_of_length_eq_zero (by rw [← sz]; omega)
    refine ⟨1, ?_⟩
    rw [polyglotlaw02_Parse.l1, w64 _ (by omega) (by omega), if_neg (by omega), h0]
    congr 2
    exact congrArg (fun x => (x, ((sc : Int), true))) (ba_ext (by rw [h0]; rfl))
  | succ n ih =>
    intro D hn hD
    cases hb : bl D with
    | nil =>
      refine ⟨1, ?_⟩
      have hz : D.size = 0 := by rw [sz, hb]; rfl
      rw [polyglotlaw02_Parse.l1, w64 _ (by omega) (by omega), if_neg (by omega)]
      congr 2
      exact congrArg (fun x => (x, ((sc : Int), true))) (ba_ext (by rw [hb]; rfl))
    | cons c t =>
      have hz : D.size = t.length + 1 := by rw [sz, hb]; rfl
      have hb0 : bt D 0 = c.toNat := bt_nat D 0 c (by rw [hb]; rfl)
      have hself : (⟨(c :: t).toArray⟩ : ByteArray) = D := ba_ext (by rw [hb])
      unfold stripTo
      by_cases h1 : sc + 1 < t.length + 1
      · by_cases h2 : c = 48
        · rw [if_pos ⟨h1, h2⟩]
          have e : bl (D.extract 1 D.size) = t := by rw [bl_ext, hb, List.drop_one, List.tail_cons, List.take_of_length_le (by omega)]
          obtain ⟨k, hk⟩ := ih (D.extract 1 D.size) (by rw [sz, e]; omega) (by rw [sz, e]; omega)
          refine ⟨k + 1, ?_⟩
          rw [polyglotlaw02_Parse.l1, w64 _ (by omega) (by omega), if_pos (by omega), if_pos (by omega), hb0, if_pos (by rw [h2]; rfl), if_pos (by omega), hk, e]
        · rw [if_neg (fun h => h2 h.2), hself]
          refine ⟨1, ?_⟩
          rw [polyglotlaw02_Parse.l1, w64 _ (by omega) (by omega), if_pos (by omega), if_pos (by omega), hb0, if_neg (fun h => h2 (UInt8.toNat_inj.1 (by show c.toNat = 48; omega)))]
      · rw [if_neg (fun h => h1 h.1), hself]
        refine ⟨1, ?_⟩
        rw [polyglotlaw02_Parse.l1, w64 _ (by omega) (by omega), if_neg (by omega)]
theorem law_end (R : ByteArray) (hR : R.size ≤ 100000) (neg : Bool) (acc : ByteArray) (ha : acc.size ≤ 100000) (pt : Int) (h0 : pt = -1 ∨ 0 ≤ pt ∧ pt < R.size) :
    ∃ k, polyglotlaw02_Parse.l0 k R neg acc pt (R.size : Int) = some (if acc.size = 0 ∨ 40 < acc.size then (false, ⟨#[]⟩, 0, false) else (neg, ⟨(stripTo ((if pt < 0 then 0 else (R.size : Int) - 1 - pt).toNat + 1) (bl acc)).toArray⟩, (if pt < 0 then 0 else (R.size : Int) - 1 - pt), true)) := by
  by_cases hz : acc.size = 0
  · refine ⟨2, ?_⟩
    rw [polyglotlaw02_Parse.l0, if_neg (by omega), if_pos (by omega), polyglotlaw02_Parse.j3, if_pos rfl, if_pos (Or.inl hz)]
  · by_cases h40 : 40 < acc.size
    · refine ⟨2, ?_⟩
      rw [polyglotlaw02_Parse.l0, if_neg (by omega), if_neg (by omega), polyglotlaw02_Parse.j3, if_pos (by simp; omega), if_pos (Or.inr h40)]
    · rw [if_neg (by omega)]
      rcases h0 with rfl | ⟨h0, h1⟩
      · obtain ⟨k, hk⟩ := l1_strip neg 0 (by omega) acc.size acc (Nat.le_refl _) (by omega)
        refine ⟨k + 3, ?_⟩
        rw [polyglotlaw02_Parse.l0, if_neg (by omega), if_neg (by omega), polyglotlaw02_Parse.j3, if_neg (by simp; omega), if_neg (by decide), polyglotlaw02_Parse.j4]
        exact hk
      · obtain ⟨sc, hsc⟩ := Int.eq_ofNat_of_zero_le (show 0 ≤ (R.size : Int) - 1 - pt by omega)
        rw [if_neg (by omega), hsc, Int.toNat_natCast]
        obtain ⟨k, hk⟩ := l1_strip neg sc (by omega) acc.size acc (Nat.le_refl _) (by omega)
        refine ⟨k + 3, ?_⟩
        rw [polyglotlaw02_Parse.l0, if_neg (by omega), if_neg (by omega), polyglotlaw02_Parse.j3, if_neg (by simp; omega), if_pos (by omega), polyglotlaw02_Parse.j4, w64 ((R.size : Int) - 1) (by omega) (by omega), w64 _ (by omega) (by omega), hsc]
        exact hk
theorem law_scan (R : ByteArray) (hR : R.size ≤ 100000) (neg : Bool) : ∀ (t : List UInt8) (acc : ByteArray) (pt : Int) (i : Nat), bl R = (bl R).take i ++ t → i + t.length = R.size → acc.size ≤ i → (pt = -1 ∨ 0 ≤ pt ∧ pt < i) →
    ∃ k, polyglotlaw02_Parse.l0 k R neg acc pt (i : Int) = some (match scan t (bl acc) pt i with
      | none => (false, ⟨#[]⟩, 0, false)
      | some (a, p) => if a.length = 0 ∨ 40 < a.length then (false, ⟨#[]⟩, 0, false) else (neg, ⟨(stripTo ((if p < 0 then 0 else (R.size : Int) - 1 - p).toNat + 1) a).toArray⟩, (if p < 0 then 0 else (R.size : Int) - 1 - p), true))
  | [], acc, pt, i, hb, hi, ha, hp => by
    have e : i = R.size := by simpa using hi
    subst e
    obtain ⟨k, hk⟩ := law_end R hR neg acc (by omega) pt hp
    refine ⟨k, ?_⟩
    rw [hk]
    unfold scan
    rw [sz acc]
  | c :: t, acc, pt, i, hb, hi, ha, hp => by
    rw [List.length_cons] at hi
    have hil : i < R.size := by omega
    have hc : (bl R)[i]? = some c := by
      rw [hb, List.getElem?_append_right (by rw [List.length_take]; omega), List.length_take, ← sz, Nat.min_eq_left (by omega), Nat.sub_self]
      rfl
    have hdr : (bl R).drop i = c :: t := by
      rw [hb, List.drop_append_of_le_length (by rw [List.length_take, ← sz]; omega), List.drop_eq_nil_of_le (by rw [List.length_take]; omega)]
      rfl
    have htk : bl R = (bl R).take (i + 1) ++ t := by
      have h1 : (bl R).drop (i + 1) = t := by rw [show (bl R).drop (i + 1) = ((bl R).drop i).drop 1 by rw [List.drop_drop], hdr]; rfl
      rw [← h1, List.take_append_drop]
    have hbt := bt_nat R i c hc
    have hw : wrap64 ((i : Int) + 1) = ((i + 1 : Nat) : Int) := by rw [w64 _ (by omega) (by omega)]; simp
    unfold scan
    by_cases hg : isDig c = true
    · rw [if_pos hg]
      have e : bl (R.extract i (i + 1)) = [c] := by rw [bl_ext, hdr]; simp
      obtain ⟨k, hk⟩ := law_scan R hR neg t (acc ++ R.extract i (i + 1)) pt (i + 1) htk (by omega) (by rw [sz_app, sz (R.extract i (i + 1)), e]; simp; omega) (by omega)
      refine ⟨k + 1, ?_⟩
      rw [polyglotlaw02_Parse.l0, if_pos (by omega), if_pos (by omega), hbt, digit_f, Option.bind_some, if_pos hg, hw, if_pos (by omega), if_pos (by omega), Int.toNat_natCast, Int.toNat_natCast, if_pos (by rw [sz (R.extract i (i + 1)), e]; simp; omega), hk, bl_app, e]
    · rw [if_neg hg]
      by_cases hq : c = 46 ∧ pt < 0 ∧ 0 < i ∧ t ≠ []
      · rw [if_pos hq]
        have htl : 0 < t.length := List.length_pos_iff.2 hq.2.2.2
        obtain ⟨k, hk⟩ := law_scan R hR neg t acc (i : Int) (i + 1) htk (by omega) (by omega) (Or.inr ⟨by omega, by omega⟩)
        refine ⟨k + 1, ?_⟩
        rw [polyglotlaw02_Parse.l0, if_pos (by omega), if_pos (by omega), hbt, digit_f, Option.bind_some, if_neg hg, if_pos (by rw [hq.1]; rfl), if_pos hq.2.1, if_pos (by omega), hw, if_pos (by omega), hk]
      · rw [if_neg hq]
        refine ⟨1, ?_⟩
        rw [polyglotlaw02_Parse.l0, if_pos (by omega), if_pos (by omega), hbt, digit_f, Option.bind_some, if_neg hg]
        by_cases h46 : (c.toNat : Int) = 46
        · have hc46 : c = 46 := UInt8.toNat_inj.1 (by show c.toNat = 46; omega)
          rw [if_pos h46]
          by_cases hp0 : pt < 0
          · rw [if_pos hp0]
            by_cases hi0 : 0 < i
            · rw [if_pos (by omega), hw, if_neg]
              intro hlt
              apply hq
              refine ⟨hc46, hp0, hi0, ?_⟩
              rintro rfl
              simp at hi
              omega
            · rw [if_neg (by omega)]
          · rw [if_neg hp0]
        · rw [if_neg h46]
theorem scan_parse (R : ByteArray) (neg : Bool) (hR : R.size ≤ 100000) : (match scan (bl R) [] (-1) 0 with
      | none => ((false, ⟨#[]⟩, 0, false) : Bool × ByteArray × Int × Bool)
      | some (a, p) => if a.length = 0 ∨ 40 < a.length then (false, ⟨#[]⟩, 0, false) else (neg, ⟨(stripTo ((if p < 0 then 0 else (R.size : Int) - 1 - p).toNat + 1) a).toArray⟩, (if p < 0 then 0 else (R.size : Int) - 1 - p), true)) = parseV neg (bl R) := by
  rw [scan_ahead]
  unfold parseV parseL
  cases hb : behind (bl R) with
  | nil =>
    by_cases hd : digs (bl R) = true
    · rw [if_pos hd]
      show (if _ then _ else _) = _
      rw [List.nil_append]
      by_cases hq : bl R ≠ [] ∧ digs (bl R) = true ∧ (bl R).length ≤ 40
      · have := List.length_pos_iff.2 hq.1
        rw [if_pos hq, if_neg (by omega)]
        rfl
      · rw [if_neg hq, if_pos]
        by_cases h0 : (bl R).length = 0
        · exact Or.inl h0
        · right
          have h1 : bl R ≠ [] := by intro h; rw [h] at h0; exact h0 rfl
          have : ¬ (bl R).length ≤ 40 := fun h => hq ⟨h1, hd, h⟩
          omega
    · rw [if_neg hd, if_neg (fun h => hd h.2.1)]
  | cons z P =>
    simp only [List.nil_append, Nat.zero_add]
    have hz := behind_head hb
    subst hz
    have hsp := ahead_behind (bl R)
    rw [hb] at hsp
    have hlen : R.size = (ahead (bl R)).length + 1 + P.length := by rw [sz]; conv => lhs; rw [hsp]
                                                                    simp; omega
    by_cases hq : digs (ahead (bl R)) = true ∧ 0 < (ahead (bl R)).length ∧ P ≠ [] ∧ digs P = true
    · rw [if_pos hq]
      have hne : ahead (bl R) ≠ [] := List.length_pos_iff.1 hq.2.1
      have hsc : (R.size : Int) - 1 - ((ahead (bl R)).length : Int) = (P.length : Int) := by omega
      show (if _ then _ else _) = _
      by_cases h40 : (ahead (bl R) ++ P).length ≤ 40
      · rw [if_neg (show ¬ ((ahead (bl R) ++ P).length = 0 ∨ 40 < (ahead (bl R) ++ P).length) by rw [List.length_append] at h40 ⊢; omega), if_neg (show ¬ (((ahead (bl R)).length : Int) < 0) by omega), hsc]
        rw [if_pos (show digs (ahead (bl R)) = true ∧ ahead (bl R) ≠ [] ∧ P ≠ [] ∧ digs P = true ∧ (ahead (bl R) ++ P).length ≤ 40 from ⟨hq.1, hne, hq.2.2.1, hq.2.2.2, h40⟩)]
        rfl
      · rw [if_pos (show (ahead (bl R) ++ P).length = 0 ∨ 40 < (ahead (bl R) ++ P).length from Or.inr (by omega)), if_neg (fun h => h40 h.2.2.2.2)]
    · rw [if_neg hq, if_neg (fun h => hq ⟨h.1, List.length_pos_iff.2 h.2.1, h.2.2.1, h.2.2.2.1⟩)]
def negOf (s : ByteArray) : Bool := Lib.hasPrefix (bl s) [45]
def restOf (s : ByteArray) : List UInt8 := Lib.trimPrefix (bl s) [45]
theorem lawParse_ok (s : ByteArray) (hs : s.size ≤ 100000) : ∃ k, polyglotlaw02_Parse.f k s = some (parseV (negOf s) (restOf s)) := by
  have hfin : ∀ (R : ByteArray) (neg : Bool), R.size ≤ 100000 → ∃ k, polyglotlaw02_Parse.j1 k R neg = some (parseV neg (bl R)) := fun R neg hR => by
    obtain ⟨k, hk⟩ := law_scan R hR neg (bl R) ⟨#[]⟩ (-1) 0 (by simp) (by rw [← sz]; omega) (by decide) (Or.inl rfl)
    refine ⟨k + 1, ?_⟩
    rw [polyglotlaw02_Parse.j1, ← scan_parse R neg hR]
    exact hk
  cases hb : bl s with
  | nil =>
    have hz : s.size = 0 := by rw [sz, hb]; rfl
    obtain ⟨k, hk⟩ := hfin s false hs
    refine ⟨k + 1, ?_⟩
    unfold polyglotlaw02_Parse.f
    rw [if_neg (by omega), polyglotlaw02_Parse.j0, if_neg (by decide), hk]
    unfold negOf restOf
    rw [hb]; rfl
  | cons c t =>
    have hz : s.size = t.length + 1 := by rw [sz, hb]; rfl
    have hb0 : bt s 0 = c.toNat := bt_nat s 0 c (by rw [hb]; rfl)
    unfold polyglotlaw02_Parse.f
    by_cases h45 : c = 45
    · have e : bl (s.extract 1 s.size) = t := by rw [bl_ext, hb, List.drop_one, List.tail_cons, List.take_of_length_le (by omega)]
      obtain ⟨k, hk⟩ := hfin (s.extract 1 s.size) true (by rw [sz, e]; omega)
      refine ⟨k + 1, ?_⟩
      rw [if_pos (by omega), if_pos (by omega), hb0, h45]
      rw [show (((45 : UInt8).toNat : Int) == 45) = true from rfl, polyglotlaw02_Parse.j0, if_pos rfl, if_pos (by omega), hk, e]
      unfold negOf restOf
      rw [hb, h45]; rfl
    · have hn : ((c.toNat : Int) == 45) = false := by
        rw [beq_eq_false_iff_ne]
        intro h
        exact h45 (UInt8.toNat_inj.1 (by show c.toNat = 45; omega))
      obtain ⟨k, hk⟩ := hfin s false hs
      refine ⟨k + 1, ?_⟩
      have hp : Lib.hasPrefix (c :: t) [45] = false := by
        show ((45 == c) && List.isPrefixOf [] t) = false
        rw [show ((45 : UInt8) == c) = false by rw [beq_eq_false_iff_ne]; exact fun h => h45 h.symm]; rfl
      rw [if_pos (by omega), if_pos (by omega), hb0, hn, polyglotlaw02_Parse.j0, if_neg (by decide), hk]
      unfold negOf restOf Lib.trimPrefix
      rw [hb, hp]; rfl
theorem occ46 (R : List UInt8) (j : Nat) : Lib.occAt R [46] j = (R[j]? == some 46) := by
  unfold Lib.occAt
  have h : R[j]? = (R.drop j).head? := by rw [List.head?_drop]
  rw [h]
  cases R.drop j with
  | nil => rfl
  | cons c t =>
    show ((46 == c) && List.isPrefixOf [] t) = ((some c : Option UInt8) == some 46)
    by_cases e : c = 46
    · subst e; rfl
    · rw [show ((46 : UInt8) == c) = false by rw [beq_eq_false_iff_ne]; exact fun h => e h.symm]
      rw [show ((some c : Option UInt8) == some 46) = false by rw [beq_eq_false_iff_ne]; exact fun h => e (Option.some.inj h)]
      rfl
theorem cut46 (R : List UInt8) : Lib.cut R [46] = match behind R with | [] => (R, [], false) | _ :: P => (ahead R, P, true) := by
  have hsp := ahead_behind R
  cases hb : behind R with
  | nil =>
    rw [hb, List.append_nil] at hsp
    have hn : Lib.index R [46] = -1 := Lib.index_none fun j hj => by
      rw [occ46, beq_eq_false_iff_ne]
      intro h
      have hm := List.mem_of_getElem? h
      rw [hsp] at hm
      exact ahead_not R 46 hm rfl
    unfold Lib.cut
    rw [hn]
    rfl
  | cons z P =>
    have hz := behind_head hb
    subst hz
    rw [hb] at hsp
    have hne := ahead_not R
    obtain ⟨W, hW⟩ : ∃ W, ahead R = W := ⟨_, rfl⟩
    rw [hW] at hne hsp ⊢
    subst hsp
    have hi : Lib.index (W ++ 46 :: P) [46] = (W.length : Nat) := Lib.index_hit (fun j hj => by
      rw [occ46, beq_eq_false_iff_ne]
      intro h
      rw [List.getElem?_append_left hj] at h
      exact hne 46 (List.mem_of_getElem? h) rfl) (by rw [List.length_append]; omega) (by
      rw [occ46, List.getElem?_append_right (Nat.le_refl _), Nat.sub_self]
      rfl)
    unfold Lib.cut
    rw [hi, if_pos (by omega), Int.toNat_natCast]
    have h2 : (W ++ 46 :: P).drop (W.length + 1) = P := by
      rw [← List.drop_drop, List.drop_left]; rfl
    rw [List.take_left]
    show (W, (W ++ 46 :: P).drop (W.length + 1), true) = (W, P, true)
    rw [h2]
theorem parse_ok (s : ByteArray) (hs : s.size ≤ 100000) : dec_Parse.f s = some (parseV (negOf s) (restOf s)) := by
  have hC : strings_CutPrefix.f s ⟨#[45]⟩ = some (⟨(restOf s).toArray⟩, negOf s) := rfl
  have hrl : (restOf s).length ≤ 100000 := by
    unfold restOf Lib.trimPrefix
    split
    · rw [List.length_drop, ← sz]; omega
    · rw [← sz]; exact hs
  obtain ⟨R, hR⟩ : ∃ R, restOf s = R := ⟨_, rfl⟩
  obtain ⟨neg, hneg⟩ : ∃ n, negOf s = n := ⟨_, rfl⟩
  rw [hR] at hC hrl ⊢
  rw [hneg] at hC ⊢
  have hcut := cut46 R
  have hsp := ahead_behind R
  have hD : ∀ l : List UInt8, l.length ≤ 100000 → dec_isDigits.f ⟨l.toArray⟩ = some (!l.isEmpty && digs l) := fun l hl => isDigits_ok ⟨l.toArray⟩ (by rw [sz]; exact Nat.le_trans hl (by omega))
  unfold dec_Parse.f
  rw [hC, Option.bind_some]
  have hK : strings_Cut.f ⟨R.toArray⟩ ⟨#[46]⟩ = some (⟨(Lib.cut R [46]).1.toArray⟩, ⟨(Lib.cut R [46]).2.1.toArray⟩, (Lib.cut R [46]).2.2) := by
    unfold strings_Cut.f
    rw [if_pos (by rw [sz]; show R.length < _; omega)]
  rw [hK, Option.bind_some, hcut]
  unfold parseV parseL
  cases hb : behind R with
  | nil =>
    dsimp only
    rw [hD R (by omega), Option.bind_some]
    by_cases hq : (!R.isEmpty && digs R) = true
    · have hq2 : R ≠ [] ∧ digs R = true := by simpa using hq
      have hl0 := List.length_pos_iff.2 hq2.1
      have z1 : (⟨R.toArray⟩ : ByteArray).size = R.length := sz _
      have z2 : (⟨([] : List UInt8).toArray⟩ : ByteArray).size = 0 := rfl
      rw [if_pos hq, if_neg (by decide), z1, z2, w64 _ (by omega) (by omega)]
      by_cases h40 : R.length ≤ 40
      · rw [if_neg (by omega), if_pos (by omega), if_pos (show R ≠ [] ∧ digs R = true ∧ R.length ≤ 40 from ⟨hq2.1, hq2.2, h40⟩)]
        have e : (⟨R.toArray⟩ : ByteArray) ++ ⟨([] : List UInt8).toArray⟩ = ⟨R.toArray⟩ := ba_ext (by rw [bl_app]; simp)
        have hm := make0_ok neg ⟨R.toArray⟩ 0 (by show 0 + 1 ≤ R.length; omega) (by show R.length ≤ _; omega)
        rw [e, show ((0 : Nat) : Int) = (0 : Nat) from rfl, hm, Option.bind_some]
      · rw [if_pos (by omega), if_neg (fun h => h40 h.2.2)]
    · rw [if_neg hq, if_neg (fun h => hq (by simp [h.1, h.2.1]))]
  | cons z P =>
    dsimp only
    have hz := behind_head hb
    subst hz
    rw [hb] at hsp
    have hlen : R.length = (ahead R).length + 1 + P.length := by
      have := congrArg List.length hsp
      rw [List.length_append, List.length_cons] at this
      omega
    obtain ⟨W, hW⟩ : ∃ W, ahead R = W := ⟨_, rfl⟩
    rw [hW] at hlen ⊢
    rw [hD W (by omega), Option.bind_some]
    by_cases hq : (!W.isEmpty && digs W) = true
    · have hq2 : W ≠ [] ∧ digs W = true := by simpa using hq
      have hl0 := List.length_pos_iff.2 hq2.1
      rw [if_pos hq, if_pos rfl, hD P (by omega), Option.bind_some]
      by_cases hp : (!P.isEmpty && digs P) = true
      · have hp2 : P ≠ [] ∧ digs P = true := by simpa using hp
        have hp0 := List.length_pos_iff.2 hp2.1
        have z1 : (⟨W.toArray⟩ : ByteArray).size = W.length := sz _
        have z2 : (⟨P.toArray⟩ : ByteArray).size = P.length := sz _
        rw [if_pos hp, z1, z2, w64 _ (by omega) (by omega)]
        by_cases h40 : (W ++ P).length ≤ 40
        · have h41 := h40
          rw [List.length_append] at h41
          rw [if_neg (by omega), if_pos (by omega), if_pos (show digs W = true ∧ W ≠ [] ∧ P ≠ [] ∧ digs P = true ∧ (W ++ P).length ≤ 40 from ⟨hq2.2, hq2.1, hp2.1, hp2.2, h40⟩)]
          have e : (⟨W.toArray⟩ : ByteArray) ++ ⟨P.toArray⟩ = ⟨(W ++ P).toArray⟩ := ba_ext (by rw [bl_app])
          have hm := make0_ok neg ⟨(W ++ P).toArray⟩ P.length (by show _ ≤ (W ++ P).length; rw [List.length_append]; omega) (by show (W ++ P).length ≤ _; omega)
          rw [e, hm, Option.bind_some]
        · have h41 := h40
          rw [List.length_append] at h41
          rw [if_pos (by omega), if_neg (fun h => h40 h.2.2.2.2)]
      · rw [if_neg hp, if_neg (fun h => hp (by simp [h.2.2.1, h.2.2.2.1]))]
    · rw [if_neg hq, if_neg (fun h => hq (by simp [h.1, h.2.1]))]
end Go.Proofs.YtdhpcofnddkcaaaGreatDoor.S
namespace Go.Proofs.YtdhpcofnddkcaaaGreatDoor.S
open Go.RowKit Go.Proofs.YtdhpcofnddkcaaaGreatDoor.G Go.Proofs.YtdhpcofnddkcaaaGreatDoorW.PrintWords Go.Proofs.YtdhpcofnddkcaaaGreatDoorW.PrintLast Go.Proofs.YtdhpcofnddkcaaaGreatDoorW.PrintMore
attribute [local go_sem] max2_int min2_int max_two min_two max_three min_three max_four min_four
set_option linter.unusedVariables false
set_option linter.unusedSimpArgs false
namespace Sx7
theorem cellsF3 {w : World} {g : Nat} {t : TypeId} {a0 a1 a2 : Value} (h : w.heap[g]? = some (.cells #[a0, a1, a2] t (0, 0))) : w.cell? ⟨g, 0, none⟩ = some a0 ∧ w.cell? ⟨g, 1, none⟩ = some a1 ∧ w.cell? ⟨g, 2, none⟩ = some a2 ∧ w.frozen? ⟨g, 0, none⟩ = false ∧ w.frozen? ⟨g, 1, none⟩ = false ∧ w.frozen? ⟨g, 2, none⟩ = false := ⟨(blk_cell h 0).trans rfl, (blk_cell h 1).trans rfl, (blk_cell h 2).trans rfl, blk_frozen h 0, blk_frozen h 1, blk_frozen h 2⟩
theorem cellsF12 {w : World} {g : Nat} {t : TypeId} {a0 a1 a2 a3 a4 a5 a6 a7 a8 a9 a10 a11 : Value} (h : w.heap[g]? = some (.cells #[a0, a1, a2, a3, a4, a5, a6, a7, a8, a9, a10, a11] t (0, 0))) : w.cell? ⟨g, 0, none⟩ = some a0 ∧ w.cell? ⟨g, 1, none⟩ = some a1 ∧ w.cell? ⟨g, 2, none⟩ = some a2 ∧ w.cell? ⟨g, 3, none⟩ = some a3 ∧ w.cell? ⟨g, 4, none⟩ = some a4 ∧ w.cell? ⟨g, 5, none⟩ = some a5 ∧ w.cell? ⟨g, 6, none⟩ = some a6 ∧ w.cell? ⟨g, 7, none⟩ = some a7 ∧ w.cell? ⟨g, 8, none⟩ = some a8 ∧ w.cell? ⟨g, 9, none⟩ = some a9 ∧ w.cell? ⟨g, 10, none⟩ = some a10 ∧ w.cell? ⟨g, 11, none⟩ = some a11 ∧ w.frozen? ⟨g, 0, none⟩ = false ∧ w.frozen? ⟨g, 1, none⟩ = false ∧ w.frozen? ⟨g, 2, none⟩ = false ∧ w.frozen? ⟨g, 3, none⟩ = false ∧ w.frozen? ⟨g, 4, none⟩ = false ∧ w.frozen? ⟨g, 5, none⟩ = false ∧ w.frozen? ⟨g, 6, none⟩ = false ∧ w.frozen? ⟨g, 7, none⟩ = false ∧ w.frozen? ⟨g, 8, none⟩ = false ∧ w.frozen? ⟨g, 9, none⟩ = false ∧ w.frozen? ⟨g, 10, none⟩ = false ∧ w.frozen? ⟨g, 11, none⟩ = false := ⟨(blk_cell h 0).trans rfl, (blk_cell h 1).trans rfl, (blk_cell h 2).trans rfl, (blk_cell h 3).trans rfl, (blk_cell h 4).trans rfl, (blk_cell h 5).trans rfl, (blk_cell h 6).trans rfl, (blk_cell h 7).trans rfl, (blk_cell h 8).trans rfl, (blk_cell h 9).trans rfl, (blk_cell h 10).trans rfl, (blk_cell h 11).trans rfl, blk_frozen h 0, blk_frozen h 1, blk_frozen h 2, blk_frozen h 3, blk_frozen h 4, blk_frozen h 5, blk_frozen h 6, blk_frozen h 7, blk_frozen h 8, blk_frozen h 9, blk_frozen h 10, blk_frozen h 11⟩
theorem q0_ {p_ : Prop} (h_ : p_ := by (with_reducible repeat (first | refine blk_drewN ?_ _ | refine blk_drew ?_ | refine blk_alloc ?_ _)); refine blk_put (cs := #[.int .i64 0, .string (⟨#[]⟩ : ByteArray), .bool false, .string (⟨#[]⟩ : ByteArray), .int .i64 0, .int .i64 0, .int .i64 0, .int .i64 0, .bool false, .bool false, .int .i64 0, .int .i64 0]) ?_ 11 _ rfl; (with_reducible repeat (first | refine blk_drewN ?_ _ | refine blk_drew ?_ | refine blk_alloc ?_ _)); refine blk_put (cs := #[.int .i64 0, .string (⟨#[]⟩ : ByteArray), .bool false, .string (⟨#[]⟩ : ByteArray), .int .i64 0, .int .i64 0, .int .i64 0, .int .i64 0, .bool false, .bool false, .int .i64 0, .int .i64 0]) ?_ 10 _ rfl; (with_reducible repeat (first | refine blk_drewN ?_ _ | refine blk_drew ?_ | refine blk_alloc ?_ _)); refine blk_put (cs := #[.int .i64 0, .string (⟨#[]⟩ : ByteArray), .bool false, .string (⟨#[]⟩ : ByteArray), .int .i64 0, .int .i64 0, .int .i64 0, .int .i64 0, .bool false, .bool false, .int .i64 0, .int .i64 0]) ?_ 9 _ rfl; (with_reducible repeat (first | refine blk_drewN ?_ _ | refine blk_drew ?_ | refine blk_alloc ?_ _)); refine blk_put (cs := #[.int .i64 0, .string (⟨#[]⟩ : ByteArray), .bool false, .string (⟨#[]⟩ : ByteArray), .int .i64 0, .int .i64 0, .int .i64 0, .int .i64 0, .bool false, .bool false, .int .i64 0, .int .i64 0]) ?_ 8 _ rfl; (with_reducible repeat (first | refine blk_drewN ?_ _ | refine blk_drew ?_ | refine blk_alloc ?_ _)); refine blk_put (cs := #[.int .i64 0, .string (⟨#[]⟩ : ByteArray), .bool false, .string (⟨#[]⟩ : ByteArray), .int .i64 0, .int .i64 0, .int .i64 0, .int .i64 0, .bool false, .bool false, .int .i64 0, .int .i64 0]) ?_ 7 _ rfl; (with_reducible repeat (first | refine blk_drewN ?_ _ | refine blk_drew ?_ | refine blk_alloc ?_ _)); refine blk_put (cs := #[.int .i64 0, .string (⟨#[]⟩ : ByteArray), .bool false, .string (⟨#[]⟩ : ByteArray), .int .i64 0, .int .i64 0, .int .i64 0, .int .i64 0, .bool false, .bool false, .int .i64 0, .int .i64 0]) ?_ 6 _ rfl; (with_reducible repeat (first | refine blk_drewN ?_ _ | refine blk_drew ?_ | refine blk_alloc ?_ _)); refine blk_put (cs := #[.int .i64 0, .string (⟨#[]⟩ : ByteArray), .bool false, .string (⟨#[]⟩ : ByteArray), .int .i64 0, .int .i64 0, .int .i64 0, .int .i64 0, .bool false, .bool false, .int .i64 0, .int .i64 0]) ?_ 5 _ rfl; (with_reducible repeat (first | refine blk_drewN ?_ _ | refine blk_drew ?_ | refine blk_alloc ?_ _)); refine blk_put (cs := #[.int .i64 0, .string (⟨#[]⟩ : ByteArray), .bool false, .string (⟨#[]⟩ : ByteArray), .int .i64 0, .int .i64 0, .int .i64 0, .int .i64 0, .bool false, .bool false, .int .i64 0, .int .i64 0]) ?_ 4 _ rfl; (with_reducible repeat (first | refine blk_drewN ?_ _ | refine blk_drew ?_ | refine blk_alloc ?_ _)); refine blk_put (cs := #[.int .i64 0, .string (⟨#[]⟩ : ByteArray), .bool false, .string (⟨#[]⟩ : ByteArray), .int .i64 0, .int .i64 0, .int .i64 0, .int .i64 0, .bool false, .bool false, .int .i64 0, .int .i64 0]) ?_ 3 _ rfl; (with_reducible repeat (first | refine blk_drewN ?_ _ | refine blk_drew ?_ | refine blk_alloc ?_ _)); refine blk_put (cs := #[.int .i64 0, .string (⟨#[]⟩ : ByteArray), .bool false, .string (⟨#[]⟩ : ByteArray), .int .i64 0, .int .i64 0, .int .i64 0, .int .i64 0, .bool false, .bool false, .int .i64 0, .int .i64 0]) ?_ 2 _ rfl; (with_reducible repeat (first | refine blk_drewN ?_ _ | refine blk_drew ?_ | refine blk_alloc ?_ _)); refine blk_put (cs := #[.int .i64 0, .string (⟨#[]⟩ : ByteArray), .bool false, .string (⟨#[]⟩ : ByteArray), .int .i64 0, .int .i64 0, .int .i64 0, .int .i64 0, .bool false, .bool false, .int .i64 0, .int .i64 0]) ?_ 1 _ rfl; (with_reducible repeat (first | refine blk_drewN ?_ _ | refine blk_drew ?_ | refine blk_alloc ?_ _)); refine blk_put (cs := #[.int .i64 0, .string (⟨#[]⟩ : ByteArray), .bool false, .string (⟨#[]⟩ : ByteArray), .int .i64 0, .int .i64 0, .int .i64 0, .int .i64 0, .bool false, .bool false, .int .i64 0, .int .i64 0]) ?_ 0 _ rfl; (with_reducible repeat (first | refine blk_drewN ?_ _ | refine blk_drew ?_ | refine blk_alloc ?_ _)); exact BK148.out) : p_ := h_
theorem q1_ {p_ : Prop} (h_ : p_ := by (with_reducible repeat (first | refine blk_drewN ?_ _ | refine blk_drew ?_ | refine blk_alloc ?_ _)); exact BK147.out) : p_ := h_
theorem q2_ {p_ : Prop} (h_ : p_ := by repeat (first | (with_reducible first | exact HB.out | apply below_alloc | apply pw_below_drewN | apply below_drew1 | refine below_set ?_ GE147.out | refine below_set ?_ GE148.out) | exact HB.out)) : p_ := h_
theorem q3_ {p_ : Prop} (h_ : p_ := by repeat (first | (with_reducible first | exact HB.out | apply below_alloc | apply pw_below_drewN | apply below_drew1 | refine below_set ?_ GE147.out) | exact HB.out)) : p_ := h_
theorem q4_ {p_ : Prop} (h_ : p_ := by repeat (first | (with_reducible first | exact HB.out | apply below_alloc | apply pw_below_drewN | apply below_drew1) | exact HB.out)) : p_ := h_
theorem q5_ {p_ : Prop} (h_ : p_ := by (with_reducible repeat (first | refine blk_drewN ?_ _ | refine blk_drew ?_ | refine blk_alloc ?_ _)); exact BK148.out) : p_ := h_
theorem q6_ {p_ : Prop} (h_ : p_ := by rw [hg]; exact Nat.ne_of_lt (blk_lt (g := gb147) (o := .cells #[.string a0_0, .int .i64 a0_1, .string a0_2] 44 (0, 0)) q1_)) : p_ := h_
theorem q7_ {p_ : Prop} (h_ : p_ := by rw [hg]; exact Nat.ne_of_gt (blk_lt (g := gb147) (o := .cells #[.string a0_0, .int .i64 a0_1, .string a0_2] 44 (0, 0)) q1_)) : p_ := h_
theorem q8_ {p_ : Prop} (h_ : p_ := by (try simp only [List.map_toArray, List.map_cons, List.map_nil]); first | done | rfl | (simp only [List.length_drop, List.length_take]; rfl)) : p_ := h_
theorem q9_ {p_ : Prop} (h_ : p_ := by first | rfl | (simp [errW_none, errW_some] <;> rfl) | (simp [*, errW_none, errW_some] <;> rfl)) : p_ := h_
theorem q10_ {p_ : Prop} (h_ : p_ := by repeat (first | (with_reducible first | exact HB.out | apply below_alloc | apply pw_below_drewN | apply below_drew1 | refine below_set ?_ GE147.out | refine below_set ?_ GE148.out | refine below_set ?_ GE165.out) | exact HB.out)) : p_ := h_
theorem q11_ {p_ : Prop} (h_ : p_ := by rw [hg]; exact (below_size q4_)) : p_ := h_
theorem q12_ {p_ : Prop} (h_ : p_ := by rw [hg]; exact (below_size q3_)) : p_ := h_
theorem q13_ {p_ : Prop} (h_ : p_ := by rw [hg]; exact Nat.ne_of_lt (blk_lt (g := gb148) (o := .cells #[.int .i64 0, .string (⟨#[]⟩ : ByteArray), .bool false, .string (⟨#[]⟩ : ByteArray), .int .i64 0, .int .i64 0, .int .i64 0, .int .i64 0, .bool false, .bool false, .int .i64 0, .int .i64 0] 51 (0, 0)) q5_)) : p_ := h_
theorem q14_ {p_ : Prop} (h_ : p_ := by rw [hg]; exact Nat.ne_of_gt (blk_lt (g := gb148) (o := .cells #[.int .i64 0, .string (⟨#[]⟩ : ByteArray), .bool false, .string (⟨#[]⟩ : ByteArray), .int .i64 0, .int .i64 0, .int .i64 0, .int .i64 0, .bool false, .bool false, .int .i64 0, .int .i64 0] 51 (0, 0)) q5_)) : p_ := h_
theorem u0_ {p_ : Prop} (h_ : p_ := by first | (go_simp; done) | (go_simp; rfl)) : p_ := h_
end Sx7
open Sx7
def script_Arg_Value.f (a0_0 : ByteArray) (a0_1 : Int) (a0_2 : ByteArray) : Option (Int × ByteArray × Bool × ByteArray × Int × Int × Int × Int × Bool × Bool × Int × Int × Bool) := if a0_1 = 0 then ((value_Str.f a0_2).bind fun bt149 => (some (bt149.1, bt149.2.1, bt149.2.2.1, bt149.2.2.2.1, bt149.2.2.2.2.1, bt149.2.2.2.2.2.1, bt149.2.2.2.2.2.2.1, bt149.2.2.2.2.2.2.2.1, bt149.2.2.2.2.2.2.2.2.1, bt149.2.2.2.2.2.2.2.2.2.1, bt149.2.2.2.2.2.2.2.2.2.2.1, bt149.2.2.2.2.2.2.2.2.2.2.2, true))) else (if a0_1 = 1 then ((dec_Parse.f a0_2).bind fun bt161 => (if bt161.2.2.2 = true then ((value_Num.f bt161.1 bt161.2.1 bt161.2.2.1).bind fun bt166 => (some (bt166.1, bt166.2.1, bt166.2.2.1, bt166.2.2.2.1, bt166.2.2.2.2.1, bt166.2.2.2.2.2.1, bt166.2.2.2.2.2.2.1, bt166.2.2.2.2.2.2.2.1, bt166.2.2.2.2.2.2.2.2.1, bt166.2.2.2.2.2.2.2.2.2.1, bt166.2.2.2.2.2.2.2.2.2.2.1, bt166.2.2.2.2.2.2.2.2.2.2.2, true))) else (some (0, (⟨#[]⟩ : ByteArray), false, (⟨#[]⟩ : ByteArray), 0, 0, 0, 0, false, false, 0, 0, false)))) else (if a0_1 = 2 then ((script_seconds.f a0_2).bind fun bt178 => (if bt178.2 = true then ((value_At.f bt178.1).bind fun bt180 => (some (bt180.1, bt180.2.1, bt180.2.2.1, bt180.2.2.2.1, bt180.2.2.2.2.1, bt180.2.2.2.2.2.1, bt180.2.2.2.2.2.2.1, bt180.2.2.2.2.2.2.2.1, bt180.2.2.2.2.2.2.2.2.1, bt180.2.2.2.2.2.2.2.2.2.1, bt180.2.2.2.2.2.2.2.2.2.2.1, bt180.2.2.2.2.2.2.2.2.2.2.2, true))) else (some (0, (⟨#[]⟩ : ByteArray), false, (⟨#[]⟩ : ByteArray), 0, 0, 0, 0, false, false, 0, 0, false)))) else (some (0, (⟨#[]⟩ : ByteArray), false, (⟨#[]⟩ : ByteArray), 0, 0, 0, 0, false, false, 0, 0, false))))
set_option maxHeartbeats 8000000 in
set_option maxRecDepth 100000 in
theorem script_Arg_Value.calls (a0_0 : ByteArray) (a0_1 : Int) (a0_2 : ByteArray) (r1 : Int) (r2 : ByteArray) (r3 : Bool) (r4 : ByteArray) (r5 : Int) (r6 : Int) (r7 : Int) (r8 : Int) (r9 : Bool) (r10 : Bool) (r11 : Int) (r12 : Int) (r13 : Bool) (w : World) (h : script_Arg_Value.f a0_0 a0_1 a0_2 = some (r1, r2, r3, r4, r5, r6, r7, r8, r9, r10, r11, r12, r13)) (HT0_ : Tab_ w := by exact Tab_.step HT0_ (by repeat (first | (with_reducible first | exact HB.out | apply below_alloc | apply pw_below_drewN | apply below_drew1 | refine below_set ?_ (Aside0.out (by assumption))) | exact HB.out))) (HP0_ : TabP_ w := by exact TabP_.step HP0_ (by repeat (first | (with_reducible first | exact HB.out | apply below_alloc | apply pw_below_drewN | apply below_drew1 | refine below_set ?_ (Aside0.out (by assumption))) | exact HB.out))) (HE0_ : TabE_ w := by exact TabE_.step HE0_ (by repeat (first | (with_reducible first | exact HB.out | apply below_alloc | apply pw_below_drewN | apply below_drew1 | refine below_set ?_ (Aside0.out (by assumption))) | exact HB.out))) :
  Calls Tryz.prog 17 #[.agg #[.string a0_0, .int .i64 a0_1, .string a0_2]] w fun e w' => e = .returned (.tuple #[.agg #[.int .i64 r1, .string r2, .bool r3, .string r4, .int .i64 r5, .int .i64 r6, .int .i64 r7, .int .i64 r8, .bool r9, .bool r10, .int .i64 r11, .int .i64 r12], .bool r13]) ∧ Below w.heap.size w w' := by
 have hu44 := Tryz.underlying44
 have hu51 := Tryz.underlying51
 have hu46 := Tryz.underlying46
 have HB := Aside0.mk (Below.refl w.heap.size w)
 have H : (if a0_1 = 0 then ((value_Str.f a0_2).bind fun bt149 => (some (bt149.1, bt149.2.1, bt149.2.2.1, bt149.2.2.2.1, bt149.2.2.2.2.1, bt149.2.2.2.2.2.1, bt149.2.2.2.2.2.2.1, bt149.2.2.2.2.2.2.2.1, bt149.2.2.2.2.2.2.2.2.1, bt149.2.2.2.2.2.2.2.2.2.1, bt149.2.2.2.2.2.2.2.2.2.2.1, bt149.2.2.2.2.2.2.2.2.2.2.2, true))) else (if a0_1 = 1 then ((dec_Parse.f a0_2).bind fun bt161 => (if bt161.2.2.2 = true then ((value_Num.f bt161.1 bt161.2.1 bt161.2.2.1).bind fun bt166 => (some (bt166.1, bt166.2.1, bt166.2.2.1, bt166.2.2.2.1, bt166.2.2.2.2.1, bt166.2.2.2.2.2.1, bt166.2.2.2.2.2.2.1, bt166.2.2.2.2.2.2.2.1, bt166.2.2.2.2.2.2.2.2.1, bt166.2.2.2.2.2.2.2.2.2.1, bt166.2.2.2.2.2.2.2.2.2.2.1, bt166.2.2.2.2.2.2.2.2.2.2.2, true))) else (some (0, (⟨#[]⟩ : ByteArray), false, (⟨#[]⟩ : ByteArray), 0, 0, 0, 0, false, false, 0, 0, false)))) else (if a0_1 = 2 then ((script_seconds.f a0_2).bind fun bt178 => (if bt178.2 = true then ((value_At.f bt178.1).bind fun bt180 => (some (bt180.1, bt180.2.1, bt180.2.2.1, bt180.2.2.2.1, bt180.2.2.2.2.1, bt180.2.2.2.2.2.1, bt180.2.2.2.2.2.2.1, bt180.2.2.2.2.2.2.2.1, bt180.2.2.2.2.2.2.2.2.1, bt180.2.2.2.2.2.2.2.2.2.1, bt180.2.2.2.2.2.2.2.2.2.2.1, bt180.2.2.2.2.2.2.2.2.2.2.2, true))) else (some (0, (⟨#[]⟩ : ByteArray), false, (⟨#[]⟩ : ByteArray), 0, 0, 0, 0, false, false, 0, 0, false)))) else (some (0, (⟨#[]⟩ : ByteArray), false, (⟨#[]⟩ : ByteArray), 0, 0, 0, 0, false, false, 0, 0, false))))) = some (r1, r2, r3, r4, r5, r6, r7, r8, r9, r10, r11, r12, r13) := h
 clear h
 by_cases c2 : a0_1 = 0
 ·rw [if_pos c2] at H
  have c2b0 : (a0_1 == 0) = true := beq_iff_eq.mpr c2
  have c2b1 : (a0_1 != 0) = false := bne_eq_false_iff_eq.mpr c2
  clear c2
  replace H := Option.bind_eq_some_iff.mp H
  obtain ⟨⟨t149, t150, t151, t152, t153, t154, t155, t156, t157, t158, t159, t160⟩, A30, H⟩ := H
  replace H : (some (t149, t150, t151, t152, t153, t154, t155, t156, t157, t158, t159, t160, true)) = some (r1, r2, r3, r4, r5, r6, r7, r8, r9, r10, r11, r12, r13) := H
  have A3 := Aside0.mk A30
  clear A30
  simp only [Option.some.injEq, Prod.mk.injEq] at H
  obtain ⟨rfl, rfl, rfl, rfl, rfl, rfl, rfl, rfl, rfl, rfl, rfl, rfl, rfl⟩ := H
  go_enter Tryz.func17, Tryz.ntmps17
  go_wp2_with (first | ((with_reducible refine gate_dst (N := 1) rfl ?_); refine box_event ?hg (N := 1) ?hd (cs := #[.string a0_0, .int .i64 a0_1, .string a0_2]) (t := 44) ?hr ?_; (case hd => rfl); (case hg => rfl); (case hr => exact u0_); intro gb147 hg w4 hbox hb; have BK147 := Aside0.mk (hbox); have GW147 := Aside0.mk ((q11_ : w.heap.size ≤ gb147)); have GE147 := Aside0.mk ((q11_ : w.heap.size ≤ gb147)); replace HB := Aside0.mk (below_step q4_ hb); clear hb hbox hg) | ((with_reducible refine gate_dst (N := 2) rfl ?_); refine box_event ?hg (N := 2) ?hd (cs := #[.int .i64 0, .string (⟨#[]⟩ : ByteArray), .bool false, .string (⟨#[]⟩ : ByteArray), .int .i64 0, .int .i64 0, .int .i64 0, .int .i64 0, .bool false, .bool false, .int .i64 0, .int .i64 0]) (t := 51) ?hr ?_; (case hd => rfl); (case hg => rfl); (case hr => exact u0_); intro gb148 hg w5 hbox hb; have BK148 := Aside0.mk (hbox); have GW148 := Aside0.mk ((q12_ : w.heap.size ≤ gb148)); have GE148 := Aside0.mk ((q12_ : w.heap.size ≤ gb148)); replace HB := Aside0.mk (below_step q3_ hb); have NB147_148 := Aside0.mk ((q6_ : gb147 ≠ gb148)); have NB148_147 := Aside0.mk ((q7_ : gb148 ≠ gb147)); replace BK147 := Aside0.mk (blk_below (g := gb147) (o := .cells #[.string a0_0, .int .i64 a0_1, .string a0_2] 44 (0, 0)) q1_ hb); clear hb hbox hg; have hnb6 := NB147_148.out; have hnc6 := NB148_147.out; obtain ⟨hcz7_0, hcz7_1, hcz7_2, hfz7_0, hfz7_1, hfz7_2⟩ := cellsF3 BK147.out) | ((with_reducible refine gate_callee (f := 26) rfl ?_); refine goesL_ (some 14) rfl rfl Tryz.func26 (by kernel_rfl) rfl #[.string a0_2] rfl q8_ ?_; (with_reducible refine (value_Str.calls a0_2 t149 t150 t151 t152 t153 t154 t155 t156 t157 t158 t159 t160 _ A3.out).mono ?_); rintro e w8 ⟨rfl, hb⟩; refine ⟨_, rfl, ?_⟩; replace BK147 := Aside0.mk (blk_below (g := gb147) (o := .cells #[.string a0_0, .int .i64 a0_1, .string a0_2] 44 (0, 0)) q1_ hb); replace BK148 := Aside0.mk (blk_below (g := gb148) (o := .cells #[.int .i64 0, .string (⟨#[]⟩ : ByteArray), .bool false, .string (⟨#[]⟩ : ByteArray), .int .i64 0, .int .i64 0, .int .i64 0, .int .i64 0, .bool false, .bool false, .int .i64 0, .int .i64 0] 51 (0, 0)) q5_ hb); replace HB := Aside0.mk (below_step q2_ hb); (try clear hb); (try clear hb2); (try clear hk); (try clear hi); obtain ⟨hcz9_0, hcz9_1, hcz9_2, hcz9_3, hcz9_4, hcz9_5, hcz9_6, hcz9_7, hcz9_8, hcz9_9, hcz9_10, hcz9_11, hfz9_0, hfz9_1, hfz9_2, hfz9_3, hfz9_4, hfz9_5, hfz9_6, hfz9_7, hfz9_8, hfz9_9, hfz9_10, hfz9_11⟩ := cellsF12 BK148.out))
  refine bodyPost_ret (results_ct rfl _ _ gb148 51 #[.int .i64 t149, .string t150, .bool t151, .string t152, .int .i64 t153, .int .i64 t154, .int .i64 t155, .int .i64 t156, .bool t157, .bool t158, .int .i64 t159, .int .i64 t160] (0, 0) _ rfl (by (with_reducible repeat (first | refine blk_drewN ?_ _ | refine blk_drew ?_ | refine blk_alloc ?_ _)); refine blk_put (cs := #[.int .i64 t149, .string t150, .bool t151, .string t152, .int .i64 t153, .int .i64 t154, .int .i64 t155, .int .i64 t156, .bool t157, .bool t158, .int .i64 t159, .int .i64 0]) ?_ 11 _ rfl; (with_reducible repeat (first | refine blk_drewN ?_ _ | refine blk_drew ?_ | refine blk_alloc ?_ _)); refine blk_put (cs := #[.int .i64 t149, .string t150, .bool t151, .string t152, .int .i64 t153, .int .i64 t154, .int .i64 t155, .int .i64 t156, .bool t157, .bool t158, .int .i64 0, .int .i64 0]) ?_ 10 _ rfl; (with_reducible repeat (first | refine blk_drewN ?_ _ | refine blk_drew ?_ | refine blk_alloc ?_ _)); refine blk_put (cs := #[.int .i64 t149, .string t150, .bool t151, .string t152, .int .i64 t153, .int .i64 t154, .int .i64 t155, .int .i64 t156, .bool t157, .bool false, .int .i64 0, .int .i64 0]) ?_ 9 _ rfl; (with_reducible repeat (first | refine blk_drewN ?_ _ | refine blk_drew ?_ | refine blk_alloc ?_ _)); refine blk_put (cs := #[.int .i64 t149, .string t150, .bool t151, .string t152, .int .i64 t153, .int .i64 t154, .int .i64 t155, .int .i64 t156, .bool false, .bool false, .int .i64 0, .int .i64 0]) ?_ 8 _ rfl; (with_reducible repeat (first | refine blk_drewN ?_ _ | refine blk_drew ?_ | refine blk_alloc ?_ _)); refine blk_put (cs := #[.int .i64 t149, .string t150, .bool t151, .string t152, .int .i64 t153, .int .i64 t154, .int .i64 t155, .int .i64 0, .bool false, .bool false, .int .i64 0, .int .i64 0]) ?_ 7 _ rfl; (with_reducible repeat (first | refine blk_drewN ?_ _ | refine blk_drew ?_ | refine blk_alloc ?_ _)); refine blk_put (cs := #[.int .i64 t149, .string t150, .bool t151, .string t152, .int .i64 t153, .int .i64 t154, .int .i64 0, .int .i64 0, .bool false, .bool false, .int .i64 0, .int .i64 0]) ?_ 6 _ rfl; (with_reducible repeat (first | refine blk_drewN ?_ _ | refine blk_drew ?_ | refine blk_alloc ?_ _)); refine blk_put (cs := #[.int .i64 t149, .string t150, .bool t151, .string t152, .int .i64 t153, .int .i64 0, .int .i64 0, .int .i64 0, .bool false, .bool false, .int .i64 0, .int .i64 0]) ?_ 5 _ rfl; (with_reducible repeat (first | refine blk_drewN ?_ _ | refine blk_drew ?_ | refine blk_alloc ?_ _)); refine blk_put (cs := #[.int .i64 t149, .string t150, .bool t151, .string t152, .int .i64 0, .int .i64 0, .int .i64 0, .int .i64 0, .bool false, .bool false, .int .i64 0, .int .i64 0]) ?_ 4 _ rfl; (with_reducible repeat (first | refine blk_drewN ?_ _ | refine blk_drew ?_ | refine blk_alloc ?_ _)); refine blk_put (cs := #[.int .i64 t149, .string t150, .bool t151, .string (⟨#[]⟩ : ByteArray), .int .i64 0, .int .i64 0, .int .i64 0, .int .i64 0, .bool false, .bool false, .int .i64 0, .int .i64 0]) ?_ 3 _ rfl; (with_reducible repeat (first | refine blk_drewN ?_ _ | refine blk_drew ?_ | refine blk_alloc ?_ _)); refine blk_put (cs := #[.int .i64 t149, .string t150, .bool false, .string (⟨#[]⟩ : ByteArray), .int .i64 0, .int .i64 0, .int .i64 0, .int .i64 0, .bool false, .bool false, .int .i64 0, .int .i64 0]) ?_ 2 _ rfl; (with_reducible repeat (first | refine blk_drewN ?_ _ | refine blk_drew ?_ | refine blk_alloc ?_ _)); refine blk_put (cs := #[.int .i64 t149, .string (⟨#[]⟩ : ByteArray), .bool false, .string (⟨#[]⟩ : ByteArray), .int .i64 0, .int .i64 0, .int .i64 0, .int .i64 0, .bool false, .bool false, .int .i64 0, .int .i64 0]) ?_ 1 _ rfl; (with_reducible repeat (first | refine blk_drewN ?_ _ | refine blk_drew ?_ | refine blk_alloc ?_ _)); refine blk_put (cs := #[.int .i64 0, .string (⟨#[]⟩ : ByteArray), .bool false, .string (⟨#[]⟩ : ByteArray), .int .i64 0, .int .i64 0, .int .i64 0, .int .i64 0, .bool false, .bool false, .int .i64 0, .int .i64 0]) ?_ 0 _ rfl; (with_reducible repeat (first | refine blk_drewN ?_ _ | refine blk_drew ?_ | refine blk_alloc ?_ _)); exact BK148.out) Tryz.underlying51 rfl (by kernel_rfl)) rfl ?_
  exact ⟨q9_, q2_⟩
 ·rw [if_neg c2] at H
  have c2b0 : (a0_1 == 0) = false := beq_eq_false_iff_ne.mpr c2
  have c2b1 : (a0_1 != 0) = true := bne_iff_ne.mpr c2
  by_cases c10 : a0_1 = 1
  ·rw [if_pos c10] at H
   have c10b0 : (a0_1 == 1) = true := beq_iff_eq.mpr c10
   have c10b1 : (a0_1 != 1) = false := bne_eq_false_iff_eq.mpr c10
   clear c10
   replace H := Option.bind_eq_some_iff.mp H
   obtain ⟨⟨t161, t162, t163, t164⟩, A110, H⟩ := H
   replace H : (if t164 = true then ((value_Num.f t161 t162 t163).bind fun bt166 => (some (bt166.1, bt166.2.1, bt166.2.2.1, bt166.2.2.2.1, bt166.2.2.2.2.1, bt166.2.2.2.2.2.1, bt166.2.2.2.2.2.2.1, bt166.2.2.2.2.2.2.2.1, bt166.2.2.2.2.2.2.2.2.1, bt166.2.2.2.2.2.2.2.2.2.1, bt166.2.2.2.2.2.2.2.2.2.2.1, bt166.2.2.2.2.2.2.2.2.2.2.2, true))) else (some (0, (⟨#[]⟩ : ByteArray), false, (⟨#[]⟩ : ByteArray), 0, 0, 0, 0, false, false, 0, 0, false))) = some (r1, r2, r3, r4, r5, r6, r7, r8, r9, r10, r11, r12, r13) := H
   have A11 := Aside0.mk A110
   clear A110
   by_cases c12 : t164 = true
   ·subst c12
    have H1 : ((value_Num.f t161 t162 t163).bind fun bt166 => (some (bt166.1, bt166.2.1, bt166.2.2.1, bt166.2.2.2.1, bt166.2.2.2.2.1, bt166.2.2.2.2.2.1, bt166.2.2.2.2.2.2.1, bt166.2.2.2.2.2.2.2.1, bt166.2.2.2.2.2.2.2.2.1, bt166.2.2.2.2.2.2.2.2.2.1, bt166.2.2.2.2.2.2.2.2.2.2.1, bt166.2.2.2.2.2.2.2.2.2.2.2, true))) = some (r1, r2, r3, r4, r5, r6, r7, r8, r9, r10, r11, r12, r13) := by rw [if_pos rfl] at H; exact H
    clear H
    have H := H1
    clear H1
    replace H := Option.bind_eq_some_iff.mp H
    obtain ⟨⟨t166, t167, t168, t169, t170, t171, t172, t173, t174, t175, t176, t177⟩, A130, H⟩ := H
    replace H : (some (t166, t167, t168, t169, t170, t171, t172, t173, t174, t175, t176, t177, true)) = some (r1, r2, r3, r4, r5, r6, r7, r8, r9, r10, r11, r12, r13) := H
    have A13 := Aside0.mk A130
    clear A130
    simp only [Option.some.injEq, Prod.mk.injEq] at H
    obtain ⟨rfl, rfl, rfl, rfl, rfl, rfl, rfl, rfl, rfl, rfl, rfl, rfl, rfl⟩ := H
    go_enter Tryz.func17, Tryz.ntmps17
    go_wp2_with (first | ((with_reducible refine gate_dst (N := 1) rfl ?_); refine box_event ?hg (N := 1) ?hd (cs := #[.string a0_0, .int .i64 a0_1, .string a0_2]) (t := 44) ?hr ?_; (case hd => rfl); (case hg => rfl); (case hr => exact u0_); intro gb147 hg w14 hbox hb; have BK147 := Aside0.mk (hbox); have GW147 := Aside0.mk ((q11_ : w.heap.size ≤ gb147)); have GE147 := Aside0.mk ((q11_ : w.heap.size ≤ gb147)); replace HB := Aside0.mk (below_step q4_ hb); clear hb hbox hg) | ((with_reducible refine gate_dst (N := 2) rfl ?_); refine box_event ?hg (N := 2) ?hd (cs := #[.int .i64 0, .string (⟨#[]⟩ : ByteArray), .bool false, .string (⟨#[]⟩ : ByteArray), .int .i64 0, .int .i64 0, .int .i64 0, .int .i64 0, .bool false, .bool false, .int .i64 0, .int .i64 0]) (t := 51) ?hr ?_; (case hd => rfl); (case hg => rfl); (case hr => exact u0_); intro gb148 hg w15 hbox hb; have BK148 := Aside0.mk (hbox); have GW148 := Aside0.mk ((q12_ : w.heap.size ≤ gb148)); have GE148 := Aside0.mk ((q12_ : w.heap.size ≤ gb148)); replace HB := Aside0.mk (below_step q3_ hb); have NB147_148 := Aside0.mk ((q6_ : gb147 ≠ gb148)); have NB148_147 := Aside0.mk ((q7_ : gb148 ≠ gb147)); replace BK147 := Aside0.mk (blk_below (g := gb147) (o := .cells #[.string a0_0, .int .i64 a0_1, .string a0_2] 44 (0, 0)) q1_ hb); clear hb hbox hg; have hnb16 := NB147_148.out; have hnc16 := NB148_147.out; obtain ⟨hcz17_0, hcz17_1, hcz17_2, hfz17_0, hfz17_1, hfz17_2⟩ := cellsF3 BK147.out) | ((with_reducible refine gate_callee (f := 27) rfl ?_); refine goesL_ (some 20) rfl rfl Tryz.func27 (by kernel_rfl) rfl #[.string a0_2] rfl q8_ ?_; (with_reducible refine (dec_Parse.calls a0_2 t161 t162 t163 true _ A11.out).mono ?_); rintro e w18 ⟨rfl, hb⟩; refine ⟨_, rfl, ?_⟩; replace BK147 := Aside0.mk (blk_below (g := gb147) (o := .cells #[.string a0_0, .int .i64 a0_1, .string a0_2] 44 (0, 0)) q1_ hb); replace BK148 := Aside0.mk (blk_below (g := gb148) (o := .cells #[.int .i64 0, .string (⟨#[]⟩ : ByteArray), .bool false, .string (⟨#[]⟩ : ByteArray), .int .i64 0, .int .i64 0, .int .i64 0, .int .i64 0, .bool false, .bool false, .int .i64 0, .int .i64 0] 51 (0, 0)) q5_ hb); replace HB := Aside0.mk (below_step q2_ hb); (try clear hb); (try clear hb2); (try clear hk); (try clear hi)) | ((with_reducible refine gate_dst (N := 4) rfl ?_); refine box_event ?hg (N := 4) ?hd (cs := #[.bool false, .string (⟨#[]⟩ : ByteArray), .int .i64 0]) (t := 46) ?hr ?_; (case hd => rfl); (case hg => rfl); (case hr => exact u0_); intro gb165 hg w19 hbox hb; have BK165 := Aside0.mk (hbox); have GW165 := Aside0.mk (((by rw [hg]; exact (below_size q2_)) : w.heap.size ≤ gb165)); have GE165 := Aside0.mk (((by rw [hg]; exact (below_size q2_)) : w.heap.size ≤ gb165)); replace HB := Aside0.mk (below_step q2_ hb); have NB147_165 := Aside0.mk ((q6_ : gb147 ≠ gb165)); have NB165_147 := Aside0.mk ((q7_ : gb165 ≠ gb147)); replace BK147 := Aside0.mk (blk_below (g := gb147) (o := .cells #[.string a0_0, .int .i64 a0_1, .string a0_2] 44 (0, 0)) q1_ hb); have NB148_165 := Aside0.mk ((q13_ : gb148 ≠ gb165)); have NB165_148 := Aside0.mk ((q14_ : gb165 ≠ gb148)); replace BK148 := Aside0.mk (blk_below (g := gb148) (o := .cells #[.int .i64 0, .string (⟨#[]⟩ : ByteArray), .bool false, .string (⟨#[]⟩ : ByteArray), .int .i64 0, .int .i64 0, .int .i64 0, .int .i64 0, .bool false, .bool false, .int .i64 0, .int .i64 0] 51 (0, 0)) q5_ hb); clear hb hbox hg; have hnb20 := NB165_147.out; have hnc20 := NB147_165.out; have hnb21 := NB165_148.out; have hnc21 := NB148_165.out; obtain ⟨hcz22_0, hcz22_1, hcz22_2, hfz22_0, hfz22_1, hfz22_2⟩ := cellsF3 BK165.out) | ((with_reducible refine gate_callee (f := 28) rfl ?_); refine goesL_ (some 27) rfl rfl Tryz.func28 (by kernel_rfl) rfl #[.agg #[.bool t161, .string t162, .int .i64 t163]] rfl q8_ ?_; (with_reducible refine (value_Num.calls t161 t162 t163 t166 t167 t168 t169 t170 t171 t172 t173 t174 t175 t176 t177 _ A13.out).mono ?_); rintro e w23 ⟨rfl, hb⟩; refine ⟨_, rfl, ?_⟩; replace BK147 := Aside0.mk (blk_below (g := gb147) (o := .cells #[.string a0_0, .int .i64 a0_1, .string a0_2] 44 (0, 0)) (by (with_reducible repeat (first | refine blk_drewN ?_ _ | refine blk_drew ?_ | refine blk_alloc ?_ _)); refine blk_far ?_ NB147_165.out _; (with_reducible repeat (first | refine blk_drewN ?_ _ | refine blk_drew ?_ | refine blk_alloc ?_ _)); refine blk_far ?_ NB147_165.out _; (with_reducible repeat (first | refine blk_drewN ?_ _ | refine blk_drew ?_ | refine blk_alloc ?_ _)); refine blk_far ?_ NB147_165.out _; (with_reducible repeat (first | refine blk_drewN ?_ _ | refine blk_drew ?_ | refine blk_alloc ?_ _)); exact BK147.out) hb); replace BK148 := Aside0.mk (blk_below (g := gb148) (o := .cells #[.int .i64 0, .string (⟨#[]⟩ : ByteArray), .bool false, .string (⟨#[]⟩ : ByteArray), .int .i64 0, .int .i64 0, .int .i64 0, .int .i64 0, .bool false, .bool false, .int .i64 0, .int .i64 0] 51 (0, 0)) (by (with_reducible repeat (first | refine blk_drewN ?_ _ | refine blk_drew ?_ | refine blk_alloc ?_ _)); refine blk_far ?_ NB148_165.out _; (with_reducible repeat (first | refine blk_drewN ?_ _ | refine blk_drew ?_ | refine blk_alloc ?_ _)); refine blk_far ?_ NB148_165.out _; (with_reducible repeat (first | refine blk_drewN ?_ _ | refine blk_drew ?_ | refine blk_alloc ?_ _)); refine blk_far ?_ NB148_165.out _; (with_reducible repeat (first | refine blk_drewN ?_ _ | refine blk_drew ?_ | refine blk_alloc ?_ _)); exact BK148.out) hb); replace BK165 := Aside0.mk (blk_below (g := gb165) (o := .cells #[.bool t161, .string t162, .int .i64 t163] 46 (0, 0)) (by (with_reducible repeat (first | refine blk_drewN ?_ _ | refine blk_drew ?_ | refine blk_alloc ?_ _)); refine blk_put (cs := #[.bool t161, .string t162, .int .i64 0]) ?_ 2 _ rfl; (with_reducible repeat (first | refine blk_drewN ?_ _ | refine blk_drew ?_ | refine blk_alloc ?_ _)); refine blk_put (cs := #[.bool t161, .string (⟨#[]⟩ : ByteArray), .int .i64 0]) ?_ 1 _ rfl; (with_reducible repeat (first | refine blk_drewN ?_ _ | refine blk_drew ?_ | refine blk_alloc ?_ _)); refine blk_put (cs := #[.bool false, .string (⟨#[]⟩ : ByteArray), .int .i64 0]) ?_ 0 _ rfl; (with_reducible repeat (first | refine blk_drewN ?_ _ | refine blk_drew ?_ | refine blk_alloc ?_ _)); exact BK165.out) hb); replace HB := Aside0.mk (below_step q10_ hb); (try clear hb); (try clear hb2); (try clear hk); (try clear hi); obtain ⟨hcz24_0, hcz24_1, hcz24_2, hcz24_3, hcz24_4, hcz24_5, hcz24_6, hcz24_7, hcz24_8, hcz24_9, hcz24_10, hcz24_11, hfz24_0, hfz24_1, hfz24_2, hfz24_3, hfz24_4, hfz24_5, hfz24_6, hfz24_7, hfz24_8, hfz24_9, hfz24_10, hfz24_11⟩ := cellsF12 BK148.out))
    refine bodyPost_ret (results_ct rfl _ _ gb148 51 #[.int .i64 t166, .string t167, .bool t168, .string t169, .int .i64 t170, .int .i64 t171, .int .i64 t172, .int .i64 t173, .bool t174, .bool t175, .int .i64 t176, .int .i64 t177] (0, 0) _ rfl (by (with_reducible repeat (first | refine blk_drewN ?_ _ | refine blk_drew ?_ | refine blk_alloc ?_ _)); refine blk_put (cs := #[.int .i64 t166, .string t167, .bool t168, .string t169, .int .i64 t170, .int .i64 t171, .int .i64 t172, .int .i64 t173, .bool t174, .bool t175, .int .i64 t176, .int .i64 0]) ?_ 11 _ rfl; (with_reducible repeat (first | refine blk_drewN ?_ _ | refine blk_drew ?_ | refine blk_alloc ?_ _)); refine blk_put (cs := #[.int .i64 t166, .string t167, .bool t168, .string t169, .int .i64 t170, .int .i64 t171, .int .i64 t172, .int .i64 t173, .bool t174, .bool t175, .int .i64 0, .int .i64 0]) ?_ 10 _ rfl; (with_reducible repeat (first | refine blk_drewN ?_ _ | refine blk_drew ?_ | refine blk_alloc ?_ _)); refine blk_put (cs := #[.int .i64 t166, .string t167, .bool t168, .string t169, .int .i64 t170, .int .i64 t171, .int .i64 t172, .int .i64 t173, .bool t174, .bool false, .int .i64 0, .int .i64 0]) ?_ 9 _ rfl; (with_reducible repeat (first | refine blk_drewN ?_ _ | refine blk_drew ?_ | refine blk_alloc ?_ _)); refine blk_put (cs := #[.int .i64 t166, .string t167, .bool t168, .string t169, .int .i64 t170, .int .i64 t171, .int .i64 t172, .int .i64 t173, .bool false, .bool false, .int .i64 0, .int .i64 0]) ?_ 8 _ rfl; (with_reducible repeat (first | refine blk_drewN ?_ _ | refine blk_drew ?_ | refine blk_alloc ?_ _)); refine blk_put (cs := #[.int .i64 t166, .string t167, .bool t168, .string t169, .int .i64 t170, .int .i64 t171, .int .i64 t172, .int .i64 0, .bool false, .bool false, .int .i64 0, .int .i64 0]) ?_ 7 _ rfl; (with_reducible repeat (first | refine blk_drewN ?_ _ | refine blk_drew ?_ | refine blk_alloc ?_ _)); refine blk_put (cs := #[.int .i64 t166, .string t167, .bool t168, .string t169, .int .i64 t170, .int .i64 t171, .int .i64 0, .int .i64 0, .bool false, .bool false, .int .i64 0, .int .i64 0]) ?_ 6 _ rfl; (with_reducible repeat (first | refine blk_drewN ?_ _ | refine blk_drew ?_ | refine blk_alloc ?_ _)); refine blk_put (cs := #[.int .i64 t166, .string t167, .bool t168, .string t169, .int .i64 t170, .int .i64 0, .int .i64 0, .int .i64 0, .bool false, .bool false, .int .i64 0, .int .i64 0]) ?_ 5 _ rfl; (with_reducible repeat (first | refine blk_drewN ?_ _ | refine blk_drew ?_ | refine blk_alloc ?_ _)); refine blk_put (cs := #[.int .i64 t166, .string t167, .bool t168, .string t169, .int .i64 0, .int .i64 0, .int .i64 0, .int .i64 0, .bool false, .bool false, .int .i64 0, .int .i64 0]) ?_ 4 _ rfl; (with_reducible repeat (first | refine blk_drewN ?_ _ | refine blk_drew ?_ | refine blk_alloc ?_ _)); refine blk_put (cs := #[.int .i64 t166, .string t167, .bool t168, .string (⟨#[]⟩ : ByteArray), .int .i64 0, .int .i64 0, .int .i64 0, .int .i64 0, .bool false, .bool false, .int .i64 0, .int .i64 0]) ?_ 3 _ rfl; (with_reducible repeat (first | refine blk_drewN ?_ _ | refine blk_drew ?_ | refine blk_alloc ?_ _)); refine blk_put (cs := #[.int .i64 t166, .string t167, .bool false, .string (⟨#[]⟩ : ByteArray), .int .i64 0, .int .i64 0, .int .i64 0, .int .i64 0, .bool false, .bool false, .int .i64 0, .int .i64 0]) ?_ 2 _ rfl; (with_reducible repeat (first | refine blk_drewN ?_ _ | refine blk_drew ?_ | refine blk_alloc ?_ _)); refine blk_put (cs := #[.int .i64 t166, .string (⟨#[]⟩ : ByteArray), .bool false, .string (⟨#[]⟩ : ByteArray), .int .i64 0, .int .i64 0, .int .i64 0, .int .i64 0, .bool false, .bool false, .int .i64 0, .int .i64 0]) ?_ 1 _ rfl; (with_reducible repeat (first | refine blk_drewN ?_ _ | refine blk_drew ?_ | refine blk_alloc ?_ _)); refine blk_put (cs := #[.int .i64 0, .string (⟨#[]⟩ : ByteArray), .bool false, .string (⟨#[]⟩ : ByteArray), .int .i64 0, .int .i64 0, .int .i64 0, .int .i64 0, .bool false, .bool false, .int .i64 0, .int .i64 0]) ?_ 0 _ rfl; (with_reducible repeat (first | refine blk_drewN ?_ _ | refine blk_drew ?_ | refine blk_alloc ?_ _)); exact BK148.out) Tryz.underlying51 rfl (by kernel_rfl)) rfl ?_
    exact ⟨q9_, q10_⟩
   ·replace c12 := Bool.eq_false_iff.mpr c12
    subst c12
    have H1 : (some (0, (⟨#[]⟩ : ByteArray), false, (⟨#[]⟩ : ByteArray), 0, 0, 0, 0, false, false, 0, 0, false)) = some (r1, r2, r3, r4, r5, r6, r7, r8, r9, r10, r11, r12, r13) := by rw [if_neg (show ¬ (false = true) by decide)] at H; exact H
    clear H
    have H := H1
    clear H1
    simp only [Option.some.injEq, Prod.mk.injEq] at H
    obtain ⟨rfl, rfl, rfl, rfl, rfl, rfl, rfl, rfl, rfl, rfl, rfl, rfl, rfl⟩ := H
    go_enter Tryz.func17, Tryz.ntmps17
    go_wp2_with (first | ((with_reducible refine gate_dst (N := 1) rfl ?_); refine box_event ?hg (N := 1) ?hd (cs := #[.string a0_0, .int .i64 a0_1, .string a0_2]) (t := 44) ?hr ?_; (case hd => rfl); (case hg => rfl); (case hr => exact u0_); intro gb147 hg w25 hbox hb; have BK147 := Aside0.mk (hbox); have GW147 := Aside0.mk ((q11_ : w.heap.size ≤ gb147)); have GE147 := Aside0.mk ((q11_ : w.heap.size ≤ gb147)); replace HB := Aside0.mk (below_step q4_ hb); clear hb hbox hg) | ((with_reducible refine gate_dst (N := 2) rfl ?_); refine box_event ?hg (N := 2) ?hd (cs := #[.int .i64 0, .string (⟨#[]⟩ : ByteArray), .bool false, .string (⟨#[]⟩ : ByteArray), .int .i64 0, .int .i64 0, .int .i64 0, .int .i64 0, .bool false, .bool false, .int .i64 0, .int .i64 0]) (t := 51) ?hr ?_; (case hd => rfl); (case hg => rfl); (case hr => exact u0_); intro gb148 hg w26 hbox hb; have BK148 := Aside0.mk (hbox); have GW148 := Aside0.mk ((q12_ : w.heap.size ≤ gb148)); have GE148 := Aside0.mk ((q12_ : w.heap.size ≤ gb148)); replace HB := Aside0.mk (below_step q3_ hb); have NB147_148 := Aside0.mk ((q6_ : gb147 ≠ gb148)); have NB148_147 := Aside0.mk ((q7_ : gb148 ≠ gb147)); replace BK147 := Aside0.mk (blk_below (g := gb147) (o := .cells #[.string a0_0, .int .i64 a0_1, .string a0_2] 44 (0, 0)) q1_ hb); clear hb hbox hg; have hnb27 := NB147_148.out; have hnc27 := NB148_147.out; obtain ⟨hcz28_0, hcz28_1, hcz28_2, hfz28_0, hfz28_1, hfz28_2⟩ := cellsF3 BK147.out) | ((with_reducible refine gate_callee (f := 27) rfl ?_); refine goesL_ (some 20) rfl rfl Tryz.func27 (by kernel_rfl) rfl #[.string a0_2] rfl q8_ ?_; (with_reducible refine (dec_Parse.calls a0_2 t161 t162 t163 false _ A11.out).mono ?_); rintro e w29 ⟨rfl, hb⟩; refine ⟨_, rfl, ?_⟩; replace BK147 := Aside0.mk (blk_below (g := gb147) (o := .cells #[.string a0_0, .int .i64 a0_1, .string a0_2] 44 (0, 0)) q1_ hb); replace BK148 := Aside0.mk (blk_below (g := gb148) (o := .cells #[.int .i64 0, .string (⟨#[]⟩ : ByteArray), .bool false, .string (⟨#[]⟩ : ByteArray), .int .i64 0, .int .i64 0, .int .i64 0, .int .i64 0, .bool false, .bool false, .int .i64 0, .int .i64 0] 51 (0, 0)) q5_ hb); replace HB := Aside0.mk (below_step q2_ hb); (try clear hb); (try clear hb2); (try clear hk); (try clear hi)) | ((with_reducible refine gate_dst (N := 4) rfl ?_); refine box_event ?hg (N := 4) ?hd (cs := #[.bool false, .string (⟨#[]⟩ : ByteArray), .int .i64 0]) (t := 46) ?hr ?_; (case hd => rfl); (case hg => rfl); (case hr => exact u0_); intro gb165 hg w30 hbox hb; have BK165 := Aside0.mk (hbox); have GW165 := Aside0.mk (((by rw [hg]; exact (below_size q2_)) : w.heap.size ≤ gb165)); have GE165 := Aside0.mk (((by rw [hg]; exact (below_size q2_)) : w.heap.size ≤ gb165)); replace HB := Aside0.mk (below_step q2_ hb); have NB147_165 := Aside0.mk ((q6_ : gb147 ≠ gb165)); have NB165_147 := Aside0.mk ((q7_ : gb165 ≠ gb147)); replace BK147 := Aside0.mk (blk_below (g := gb147) (o := .cells #[.string a0_0, .int .i64 a0_1, .string a0_2] 44 (0, 0)) q1_ hb); have NB148_165 := Aside0.mk ((q13_ : gb148 ≠ gb165)); have NB165_148 := Aside0.mk ((q14_ : gb165 ≠ gb148)); replace BK148 := Aside0.mk (blk_below (g := gb148) (o := .cells #[.int .i64 0, .string (⟨#[]⟩ : ByteArray), .bool false, .string (⟨#[]⟩ : ByteArray), .int .i64 0, .int .i64 0, .int .i64 0, .int .i64 0, .bool false, .bool false, .int .i64 0, .int .i64 0] 51 (0, 0)) q5_ hb); clear hb hbox hg; have hnb31 := NB165_147.out; have hnc31 := NB147_165.out; have hnb32 := NB165_148.out; have hnc32 := NB148_165.out; obtain ⟨hcz33_0, hcz33_1, hcz33_2, hfz33_0, hfz33_1, hfz33_2⟩ := cellsF3 BK165.out; obtain ⟨hcz34_0, hcz34_1, hcz34_2, hcz34_3, hcz34_4, hcz34_5, hcz34_6, hcz34_7, hcz34_8, hcz34_9, hcz34_10, hcz34_11, hfz34_0, hfz34_1, hfz34_2, hfz34_3, hfz34_4, hfz34_5, hfz34_6, hfz34_7, hfz34_8, hfz34_9, hfz34_10, hfz34_11⟩ := cellsF12 BK148.out))
    refine bodyPost_ret (results_ct rfl _ _ gb148 51 #[.int .i64 0, .string (⟨#[]⟩ : ByteArray), .bool false, .string (⟨#[]⟩ : ByteArray), .int .i64 0, .int .i64 0, .int .i64 0, .int .i64 0, .bool false, .bool false, .int .i64 0, .int .i64 0] (0, 0) _ rfl (by (with_reducible repeat (first | refine blk_drewN ?_ _ | refine blk_drew ?_ | refine blk_alloc ?_ _)); refine blk_put (cs := #[.int .i64 0, .string (⟨#[]⟩ : ByteArray), .bool false, .string (⟨#[]⟩ : ByteArray), .int .i64 0, .int .i64 0, .int .i64 0, .int .i64 0, .bool false, .bool false, .int .i64 0, .int .i64 0]) ?_ 11 _ rfl; (with_reducible repeat (first | refine blk_drewN ?_ _ | refine blk_drew ?_ | refine blk_alloc ?_ _)); refine blk_put (cs := #[.int .i64 0, .string (⟨#[]⟩ : ByteArray), .bool false, .string (⟨#[]⟩ : ByteArray), .int .i64 0, .int .i64 0, .int .i64 0, .int .i64 0, .bool false, .bool false, .int .i64 0, .int .i64 0]) ?_ 10 _ rfl; (with_reducible repeat (first | refine blk_drewN ?_ _ | refine blk_drew ?_ | refine blk_alloc ?_ _)); refine blk_put (cs := #[.int .i64 0, .string (⟨#[]⟩ : ByteArray), .bool false, .string (⟨#[]⟩ : ByteArray), .int .i64 0, .int .i64 0, .int .i64 0, .int .i64 0, .bool false, .bool false, .int .i64 0, .int .i64 0]) ?_ 9 _ rfl; (with_reducible repeat (first | refine blk_drewN ?_ _ | refine blk_drew ?_ | refine blk_alloc ?_ _)); refine blk_put (cs := #[.int .i64 0, .string (⟨#[]⟩ : ByteArray), .bool false, .string (⟨#[]⟩ : ByteArray), .int .i64 0, .int .i64 0, .int .i64 0, .int .i64 0, .bool false, .bool false, .int .i64 0, .int .i64 0]) ?_ 8 _ rfl; (with_reducible repeat (first | refine blk_drewN ?_ _ | refine blk_drew ?_ | refine blk_alloc ?_ _)); refine blk_put (cs := #[.int .i64 0, .string (⟨#[]⟩ : ByteArray), .bool false, .string (⟨#[]⟩ : ByteArray), .int .i64 0, .int .i64 0, .int .i64 0, .int .i64 0, .bool false, .bool false, .int .i64 0, .int .i64 0]) ?_ 7 _ rfl; (with_reducible repeat (first | refine blk_drewN ?_ _ | refine blk_drew ?_ | refine blk_alloc ?_ _)); refine blk_put (cs := #[.int .i64 0, .string (⟨#[]⟩ : ByteArray), .bool false, .string (⟨#[]⟩ : ByteArray), .int .i64 0, .int .i64 0, .int .i64 0, .int .i64 0, .bool false, .bool false, .int .i64 0, .int .i64 0]) ?_ 6 _ rfl; (with_reducible repeat (first | refine blk_drewN ?_ _ | refine blk_drew ?_ | refine blk_alloc ?_ _)); refine blk_put (cs := #[.int .i64 0, .string (⟨#[]⟩ : ByteArray), .bool false, .string (⟨#[]⟩ : ByteArray), .int .i64 0, .int .i64 0, .int .i64 0, .int .i64 0, .bool false, .bool false, .int .i64 0, .int .i64 0]) ?_ 5 _ rfl; (with_reducible repeat (first | refine blk_drewN ?_ _ | refine blk_drew ?_ | refine blk_alloc ?_ _)); refine blk_put (cs := #[.int .i64 0, .string (⟨#[]⟩ : ByteArray), .bool false, .string (⟨#[]⟩ : ByteArray), .int .i64 0, .int .i64 0, .int .i64 0, .int .i64 0, .bool false, .bool false, .int .i64 0, .int .i64 0]) ?_ 4 _ rfl; (with_reducible repeat (first | refine blk_drewN ?_ _ | refine blk_drew ?_ | refine blk_alloc ?_ _)); refine blk_put (cs := #[.int .i64 0, .string (⟨#[]⟩ : ByteArray), .bool false, .string (⟨#[]⟩ : ByteArray), .int .i64 0, .int .i64 0, .int .i64 0, .int .i64 0, .bool false, .bool false, .int .i64 0, .int .i64 0]) ?_ 3 _ rfl; (with_reducible repeat (first | refine blk_drewN ?_ _ | refine blk_drew ?_ | refine blk_alloc ?_ _)); refine blk_put (cs := #[.int .i64 0, .string (⟨#[]⟩ : ByteArray), .bool false, .string (⟨#[]⟩ : ByteArray), .int .i64 0, .int .i64 0, .int .i64 0, .int .i64 0, .bool false, .bool false, .int .i64 0, .int .i64 0]) ?_ 2 _ rfl; (with_reducible repeat (first | refine blk_drewN ?_ _ | refine blk_drew ?_ | refine blk_alloc ?_ _)); refine blk_put (cs := #[.int .i64 0, .string (⟨#[]⟩ : ByteArray), .bool false, .string (⟨#[]⟩ : ByteArray), .int .i64 0, .int .i64 0, .int .i64 0, .int .i64 0, .bool false, .bool false, .int .i64 0, .int .i64 0]) ?_ 1 _ rfl; (with_reducible repeat (first | refine blk_drewN ?_ _ | refine blk_drew ?_ | refine blk_alloc ?_ _)); refine blk_put (cs := #[.int .i64 0, .string (⟨#[]⟩ : ByteArray), .bool false, .string (⟨#[]⟩ : ByteArray), .int .i64 0, .int .i64 0, .int .i64 0, .int .i64 0, .bool false, .bool false, .int .i64 0, .int .i64 0]) ?_ 0 _ rfl; (with_reducible repeat (first | refine blk_drewN ?_ _ | refine blk_drew ?_ | refine blk_alloc ?_ _)); refine blk_far ?_ NB148_165.out _; (with_reducible repeat (first | refine blk_drewN ?_ _ | refine blk_drew ?_ | refine blk_alloc ?_ _)); refine blk_far ?_ NB148_165.out _; (with_reducible repeat (first | refine blk_drewN ?_ _ | refine blk_drew ?_ | refine blk_alloc ?_ _)); refine blk_far ?_ NB148_165.out _; (with_reducible repeat (first | refine blk_drewN ?_ _ | refine blk_drew ?_ | refine blk_alloc ?_ _)); exact BK148.out) Tryz.underlying51 rfl (by kernel_rfl)) rfl ?_
    exact ⟨q9_, q10_⟩
  ·rw [if_neg c10] at H
   have c10b0 : (a0_1 == 1) = false := beq_eq_false_iff_ne.mpr c10
   have c10b1 : (a0_1 != 1) = true := bne_iff_ne.mpr c10
   by_cases c35 : a0_1 = 2
   ·rw [if_pos c35] at H
    have c35b0 : (a0_1 == 2) = true := beq_iff_eq.mpr c35
    have c35b1 : (a0_1 != 2) = false := bne_eq_false_iff_eq.mpr c35
    clear c35
    replace H := Option.bind_eq_some_iff.mp H
    obtain ⟨⟨t178, t179⟩, A360, H⟩ := H
    replace H : (if t179 = true then ((value_At.f t178).bind fun bt180 => (some (bt180.1, bt180.2.1, bt180.2.2.1, bt180.2.2.2.1, bt180.2.2.2.2.1, bt180.2.2.2.2.2.1, bt180.2.2.2.2.2.2.1, bt180.2.2.2.2.2.2.2.1, bt180.2.2.2.2.2.2.2.2.1, bt180.2.2.2.2.2.2.2.2.2.1, bt180.2.2.2.2.2.2.2.2.2.2.1, bt180.2.2.2.2.2.2.2.2.2.2.2, true))) else (some (0, (⟨#[]⟩ : ByteArray), false, (⟨#[]⟩ : ByteArray), 0, 0, 0, 0, false, false, 0, 0, false))) = some (r1, r2, r3, r4, r5, r6, r7, r8, r9, r10, r11, r12, r13) := H
    have A36 := Aside0.mk A360
    clear A360
    by_cases c37 : t179 = true
    ·subst c37
     have H1 : ((value_At.f t178).bind fun bt180 => (some (bt180.1, bt180.2.1, bt180.2.2.1, bt180.2.2.2.1, bt180.2.2.2.2.1, bt180.2.2.2.2.2.1, bt180.2.2.2.2.2.2.1, bt180.2.2.2.2.2.2.2.1, bt180.2.2.2.2.2.2.2.2.1, bt180.2.2.2.2.2.2.2.2.2.1, bt180.2.2.2.2.2.2.2.2.2.2.1, bt180.2.2.2.2.2.2.2.2.2.2.2, true))) = some (r1, r2, r3, r4, r5, r6, r7, r8, r9, r10, r11, r12, r13) := by rw [if_pos rfl] at H; exact H
     clear H
     have H := H1
     clear H1
     replace H := Option.bind_eq_some_iff.mp H
     obtain ⟨⟨t180, t181, t182, t183, t184, t185, t186, t187, t188, t189, t190, t191⟩, A380, H⟩ := H
     replace H : (some (t180, t181, t182, t183, t184, t185, t186, t187, t188, t189, t190, t191, true)) = some (r1, r2, r3, r4, r5, r6, r7, r8, r9, r10, r11, r12, r13) := H
     have A38 := Aside0.mk A380
     clear A380
     simp only [Option.some.injEq, Prod.mk.injEq] at H
     obtain ⟨rfl, rfl, rfl, rfl, rfl, rfl, rfl, rfl, rfl, rfl, rfl, rfl, rfl⟩ := H
     go_enter Tryz.func17, Tryz.ntmps17
     go_wp2_with (first | ((with_reducible refine gate_dst (N := 1) rfl ?_); refine box_event ?hg (N := 1) ?hd (cs := #[.string a0_0, .int .i64 a0_1, .string a0_2]) (t := 44) ?hr ?_; (case hd => rfl); (case hg => rfl); (case hr => exact u0_); intro gb147 hg w39 hbox hb; have BK147 := Aside0.mk (hbox); have GW147 := Aside0.mk ((q11_ : w.heap.size ≤ gb147)); have GE147 := Aside0.mk ((q11_ : w.heap.size ≤ gb147)); replace HB := Aside0.mk (below_step q4_ hb); clear hb hbox hg) | ((with_reducible refine gate_dst (N := 2) rfl ?_); refine box_event ?hg (N := 2) ?hd (cs := #[.int .i64 0, .string (⟨#[]⟩ : ByteArray), .bool false, .string (⟨#[]⟩ : ByteArray), .int .i64 0, .int .i64 0, .int .i64 0, .int .i64 0, .bool false, .bool false, .int .i64 0, .int .i64 0]) (t := 51) ?hr ?_; (case hd => rfl); (case hg => rfl); (case hr => exact u0_); intro gb148 hg w40 hbox hb; have BK148 := Aside0.mk (hbox); have GW148 := Aside0.mk ((q12_ : w.heap.size ≤ gb148)); have GE148 := Aside0.mk ((q12_ : w.heap.size ≤ gb148)); replace HB := Aside0.mk (below_step q3_ hb); have NB147_148 := Aside0.mk ((q6_ : gb147 ≠ gb148)); have NB148_147 := Aside0.mk ((q7_ : gb148 ≠ gb147)); replace BK147 := Aside0.mk (blk_below (g := gb147) (o := .cells #[.string a0_0, .int .i64 a0_1, .string a0_2] 44 (0, 0)) q1_ hb); clear hb hbox hg; have hnb41 := NB147_148.out; have hnc41 := NB148_147.out; obtain ⟨hcz42_0, hcz42_1, hcz42_2, hfz42_0, hfz42_1, hfz42_2⟩ := cellsF3 BK147.out) | ((with_reducible refine gate_callee (f := 29) rfl ?_); refine goesL_ (some 33) rfl rfl Tryz.func29 (by kernel_rfl) rfl #[.string a0_2] rfl q8_ ?_; (with_reducible refine (script_seconds.calls a0_2 t178 true _ A36.out).mono ?_); rintro e w43 ⟨rfl, hb⟩; refine ⟨_, rfl, ?_⟩; replace BK147 := Aside0.mk (blk_below (g := gb147) (o := .cells #[.string a0_0, .int .i64 a0_1, .string a0_2] 44 (0, 0)) q1_ hb); replace BK148 := Aside0.mk (blk_below (g := gb148) (o := .cells #[.int .i64 0, .string (⟨#[]⟩ : ByteArray), .bool false, .string (⟨#[]⟩ : ByteArray), .int .i64 0, .int .i64 0, .int .i64 0, .int .i64 0, .bool false, .bool false, .int .i64 0, .int .i64 0] 51 (0, 0)) q5_ hb); replace HB := Aside0.mk (below_step q2_ hb); (try clear hb); (try clear hb2); (try clear hk); (try clear hi)) | ((with_reducible refine gate_callee (f := 30) rfl ?_); refine goesL_ (some 38) rfl rfl Tryz.func30 (by kernel_rfl) rfl #[.int .i64 t178] rfl q8_ ?_; (with_reducible refine (value_At.calls t178 t180 t181 t182 t183 t184 t185 t186 t187 t188 t189 t190 t191 _ A38.out).mono ?_); rintro e w44 ⟨rfl, hb⟩; refine ⟨_, rfl, ?_⟩; replace BK147 := Aside0.mk (blk_below (g := gb147) (o := .cells #[.string a0_0, .int .i64 a0_1, .string a0_2] 44 (0, 0)) q1_ hb); replace BK148 := Aside0.mk (blk_below (g := gb148) (o := .cells #[.int .i64 0, .string (⟨#[]⟩ : ByteArray), .bool false, .string (⟨#[]⟩ : ByteArray), .int .i64 0, .int .i64 0, .int .i64 0, .int .i64 0, .bool false, .bool false, .int .i64 0, .int .i64 0] 51 (0, 0)) q5_ hb); replace HB := Aside0.mk (below_step q2_ hb); (try clear hb); (try clear hb2); (try clear hk); (try clear hi); obtain ⟨hcz45_0, hcz45_1, hcz45_2, hcz45_3, hcz45_4, hcz45_5, hcz45_6, hcz45_7, hcz45_8, hcz45_9, hcz45_10, hcz45_11, hfz45_0, hfz45_1, hfz45_2, hfz45_3, hfz45_4, hfz45_5, hfz45_6, hfz45_7, hfz45_8, hfz45_9, hfz45_10, hfz45_11⟩ := cellsF12 BK148.out))
     refine bodyPost_ret (results_ct rfl _ _ gb148 51 #[.int .i64 t180, .string t181, .bool t182, .string t183, .int .i64 t184, .int .i64 t185, .int .i64 t186, .int .i64 t187, .bool t188, .bool t189, .int .i64 t190, .int .i64 t191] (0, 0) _ rfl (by (with_reducible repeat (first | refine blk_drewN ?_ _ | refine blk_drew ?_ | refine blk_alloc ?_ _)); refine blk_put (cs := #[.int .i64 t180, .string t181, .bool t182, .string t183, .int .i64 t184, .int .i64 t185, .int .i64 t186, .int .i64 t187, .bool t188, .bool t189, .int .i64 t190, .int .i64 0]) ?_ 11 _ rfl; (with_reducible repeat (first | refine blk_drewN ?_ _ | refine blk_drew ?_ | refine blk_alloc ?_ _)); refine blk_put (cs := #[.int .i64 t180, .string t181, .bool t182, .string t183, .int .i64 t184, .int .i64 t185, .int .i64 t186, .int .i64 t187, .bool t188, .bool t189, .int .i64 0, .int .i64 0]) ?_ 10 _ rfl; (with_reducible repeat (first | refine blk_drewN ?_ _ | refine blk_drew ?_ | refine blk_alloc ?_ _)); refine blk_put (cs := #[.int .i64 t180, .string t181, .bool t182, .string t183, .int .i64 t184, .int .i64 t185, .int .i64 t186, .int .i64 t187, .bool t188, .bool false, .int .i64 0, .int .i64 0]) ?_ 9 _ rfl; (with_reducible repeat (first | refine blk_drewN ?_ _ | refine blk_drew ?_ | refine blk_alloc ?_ _)); refine blk_put (cs := #[.int .i64 t180, .string t181, .bool t182, .string t183, .int .i64 t184, .int .i64 t185, .int .i64 t186, .int .i64 t187, .bool false, .bool false, .int .i64 0, .int .i64 0]) ?_ 8 _ rfl; (with_reducible repeat (first | refine blk_drewN ?_ _ | refine blk_drew ?_ | refine blk_alloc ?_ _)); refine blk_put (cs := #[.int .i64 t180, .string t181, .bool t182, .string t183, .int .i64 t184, .int .i64 t185, .int .i64 t186, .int .i64 0, .bool false, .bool false, .int .i64 0, .int .i64 0]) ?_ 7 _ rfl; (with_reducible repeat (first | refine blk_drewN ?_ _ | refine blk_drew ?_ | refine blk_alloc ?_ _)); refine blk_put (cs := #[.int .i64 t180, .string t181, .bool t182, .string t183, .int .i64 t184, .int .i64 t185, .int .i64 0, .int .i64 0, .bool false, .bool false, .int .i64 0, .int .i64 0]) ?_ 6 _ rfl; (with_reducible repeat (first | refine blk_drewN ?_ _ | refine blk_drew ?_ | refine blk_alloc ?_ _)); refine blk_put (cs := #[.int .i64 t180, .string t181, .bool t182, .string t183, .int .i64 t184, .int .i64 0, .int .i64 0, .int .i64 0, .bool false, .bool false, .int .i64 0, .int .i64 0]) ?_ 5 _ rfl; (with_reducible repeat (first | refine blk_drewN ?_ _ | refine blk_drew ?_ | refine blk_alloc ?_ _)); refine blk_put (cs := #[.int .i64 t180, .string t181, .bool t182, .string t183, .int .i64 0, .int .i64 0, .int .i64 0, .int .i64 0, .bool false, .bool false, .int .i64 0, .int .i64 0]) ?_ 4 _ rfl; (with_reducible repeat (first | refine blk_drewN ?_ _ | refine blk_drew ?_ | refine blk_alloc ?_ _)); refine blk_put (cs := #[.int .i64 t180, .string t181, .bool t182, .string (⟨#[]⟩ : ByteArray), .int .i64 0, .int .i64 0, .int .i64 0, .int .i64 0, .bool false, .bool false, .int .i64 0, .int .i64 0]) ?_ 3 _ rfl; (with_reducible repeat (first | refine blk_drewN ?_ _ | refine blk_drew ?_ | refine blk_alloc ?_ _)); refine blk_put (cs := #[.int .i64 t180, .string t181, .bool false, .string (⟨#[]⟩ : ByteArray), .int .i64 0, .int .i64 0, .int .i64 0, .int .i64 0, .bool false, .bool false, .int .i64 0, .int .i64 0]) ?_ 2 _ rfl; (with_reducible repeat (first | refine blk_drewN ?_ _ | refine blk_drew ?_ | refine blk_alloc ?_ _)); refine blk_put (cs := #[.int .i64 t180, .string (⟨#[]⟩ : ByteArray), .bool false, .string (⟨#[]⟩ : ByteArray), .int .i64 0, .int .i64 0, .int .i64 0, .int .i64 0, .bool false, .bool false, .int .i64 0, .int .i64 0]) ?_ 1 _ rfl; (with_reducible repeat (first | refine blk_drewN ?_ _ | refine blk_drew ?_ | refine blk_alloc ?_ _)); refine blk_put (cs := #[.int .i64 0, .string (⟨#[]⟩ : ByteArray), .bool false, .string (⟨#[]⟩ : ByteArray), .int .i64 0, .int .i64 0, .int .i64 0, .int .i64 0, .bool false, .bool false, .int .i64 0, .int .i64 0]) ?_ 0 _ rfl; (with_reducible repeat (first | refine blk_drewN ?_ _ | refine blk_drew ?_ | refine blk_alloc ?_ _)); exact BK148.out) Tryz.underlying51 rfl (by kernel_rfl)) rfl ?_
     exact ⟨q9_, q2_⟩
    ·replace c37 := Bool.eq_false_iff.mpr c37
     subst c37
     have H1 : (some (0, (⟨#[]⟩ : ByteArray), false, (⟨#[]⟩ : ByteArray), 0, 0, 0, 0, false, false, 0, 0, false)) = some (r1, r2, r3, r4, r5, r6, r7, r8, r9, r10, r11, r12, r13) := by rw [if_neg (show ¬ (false = true) by decide)] at H; exact H
     clear H
     have H := H1
     clear H1
     simp only [Option.some.injEq, Prod.mk.injEq] at H
     obtain ⟨rfl, rfl, rfl, rfl, rfl, rfl, rfl, rfl, rfl, rfl, rfl, rfl, rfl⟩ := H
     go_enter Tryz.func17, Tryz.ntmps17
     go_wp2_with (first | ((with_reducible refine gate_dst (N := 1) rfl ?_); refine box_event ?hg (N := 1) ?hd (cs := #[.string a0_0, .int .i64 a0_1, .string a0_2]) (t := 44) ?hr ?_; (case hd => rfl); (case hg => rfl); (case hr => exact u0_); intro gb147 hg w46 hbox hb; have BK147 := Aside0.mk (hbox); have GW147 := Aside0.mk ((q11_ : w.heap.size ≤ gb147)); have GE147 := Aside0.mk ((q11_ : w.heap.size ≤ gb147)); replace HB := Aside0.mk (below_step q4_ hb); clear hb hbox hg) | ((with_reducible refine gate_dst (N := 2) rfl ?_); refine box_event ?hg (N := 2) ?hd (cs := #[.int .i64 0, .string (⟨#[]⟩ : ByteArray), .bool false, .string (⟨#[]⟩ : ByteArray), .int .i64 0, .int .i64 0, .int .i64 0, .int .i64 0, .bool false, .bool false, .int .i64 0, .int .i64 0]) (t := 51) ?hr ?_; (case hd => rfl); (case hg => rfl); (case hr => exact u0_); intro gb148 hg w47 hbox hb; have BK148 := Aside0.mk (hbox); have GW148 := Aside0.mk ((q12_ : w.heap.size ≤ gb148)); have GE148 := Aside0.mk ((q12_ : w.heap.size ≤ gb148)); replace HB := Aside0.mk (below_step q3_ hb); have NB147_148 := Aside0.mk ((q6_ : gb147 ≠ gb148)); have NB148_147 := Aside0.mk ((q7_ : gb148 ≠ gb147)); replace BK147 := Aside0.mk (blk_below (g := gb147) (o := .cells #[.string a0_0, .int .i64 a0_1, .string a0_2] 44 (0, 0)) q1_ hb); clear hb hbox hg; have hnb48 := NB147_148.out; have hnc48 := NB148_147.out; obtain ⟨hcz49_0, hcz49_1, hcz49_2, hfz49_0, hfz49_1, hfz49_2⟩ := cellsF3 BK147.out) | ((with_reducible refine gate_callee (f := 29) rfl ?_); refine goesL_ (some 33) rfl rfl Tryz.func29 (by kernel_rfl) rfl #[.string a0_2] rfl q8_ ?_; (with_reducible refine (script_seconds.calls a0_2 t178 false _ A36.out).mono ?_); rintro e w50 ⟨rfl, hb⟩; refine ⟨_, rfl, ?_⟩; replace BK147 := Aside0.mk (blk_below (g := gb147) (o := .cells #[.string a0_0, .int .i64 a0_1, .string a0_2] 44 (0, 0)) q1_ hb); replace BK148 := Aside0.mk (blk_below (g := gb148) (o := .cells #[.int .i64 0, .string (⟨#[]⟩ : ByteArray), .bool false, .string (⟨#[]⟩ : ByteArray), .int .i64 0, .int .i64 0, .int .i64 0, .int .i64 0, .bool false, .bool false, .int .i64 0, .int .i64 0] 51 (0, 0)) q5_ hb); replace HB := Aside0.mk (below_step q2_ hb); (try clear hb); (try clear hb2); (try clear hk); (try clear hi); obtain ⟨hcz51_0, hcz51_1, hcz51_2, hcz51_3, hcz51_4, hcz51_5, hcz51_6, hcz51_7, hcz51_8, hcz51_9, hcz51_10, hcz51_11, hfz51_0, hfz51_1, hfz51_2, hfz51_3, hfz51_4, hfz51_5, hfz51_6, hfz51_7, hfz51_8, hfz51_9, hfz51_10, hfz51_11⟩ := cellsF12 BK148.out))
     refine bodyPost_ret (results_ct rfl _ _ gb148 51 #[.int .i64 0, .string (⟨#[]⟩ : ByteArray), .bool false, .string (⟨#[]⟩ : ByteArray), .int .i64 0, .int .i64 0, .int .i64 0, .int .i64 0, .bool false, .bool false, .int .i64 0, .int .i64 0] (0, 0) _ rfl q0_ Tryz.underlying51 rfl (by kernel_rfl)) rfl ?_
     exact ⟨q9_, q2_⟩
   ·rw [if_neg c35] at H
    have c35b0 : (a0_1 == 2) = false := beq_eq_false_iff_ne.mpr c35
    have c35b1 : (a0_1 != 2) = true := bne_iff_ne.mpr c35
    simp only [Option.some.injEq, Prod.mk.injEq] at H
    obtain ⟨rfl, rfl, rfl, rfl, rfl, rfl, rfl, rfl, rfl, rfl, rfl, rfl, rfl⟩ := H
    go_enter Tryz.func17, Tryz.ntmps17
    go_wp2_with (first | ((with_reducible refine gate_dst (N := 1) rfl ?_); refine box_event ?hg (N := 1) ?hd (cs := #[.string a0_0, .int .i64 a0_1, .string a0_2]) (t := 44) ?hr ?_; (case hd => rfl); (case hg => rfl); (case hr => exact u0_); intro gb147 hg w52 hbox hb; have BK147 := Aside0.mk (hbox); have GW147 := Aside0.mk ((q11_ : w.heap.size ≤ gb147)); have GE147 := Aside0.mk ((q11_ : w.heap.size ≤ gb147)); replace HB := Aside0.mk (below_step q4_ hb); clear hb hbox hg) | ((with_reducible refine gate_dst (N := 2) rfl ?_); refine box_event ?hg (N := 2) ?hd (cs := #[.int .i64 0, .string (⟨#[]⟩ : ByteArray), .bool false, .string (⟨#[]⟩ : ByteArray), .int .i64 0, .int .i64 0, .int .i64 0, .int .i64 0, .bool false, .bool false, .int .i64 0, .int .i64 0]) (t := 51) ?hr ?_; (case hd => rfl); (case hg => rfl); (case hr => exact u0_); intro gb148 hg w53 hbox hb; have BK148 := Aside0.mk (hbox); have GW148 := Aside0.mk ((q12_ : w.heap.size ≤ gb148)); have GE148 := Aside0.mk ((q12_ : w.heap.size ≤ gb148)); replace HB := Aside0.mk (below_step q3_ hb); have NB147_148 := Aside0.mk ((q6_ : gb147 ≠ gb148)); have NB148_147 := Aside0.mk ((q7_ : gb148 ≠ gb147)); replace BK147 := Aside0.mk (blk_below (g := gb147) (o := .cells #[.string a0_0, .int .i64 a0_1, .string a0_2] 44 (0, 0)) q1_ hb); clear hb hbox hg; have hnb54 := NB147_148.out; have hnc54 := NB148_147.out; obtain ⟨hcz55_0, hcz55_1, hcz55_2, hfz55_0, hfz55_1, hfz55_2⟩ := cellsF3 BK147.out; obtain ⟨hcz56_0, hcz56_1, hcz56_2, hcz56_3, hcz56_4, hcz56_5, hcz56_6, hcz56_7, hcz56_8, hcz56_9, hcz56_10, hcz56_11, hfz56_0, hfz56_1, hfz56_2, hfz56_3, hfz56_4, hfz56_5, hfz56_6, hfz56_7, hfz56_8, hfz56_9, hfz56_10, hfz56_11⟩ := cellsF12 BK148.out))
    refine bodyPost_ret (results_ct rfl _ _ gb148 51 #[.int .i64 0, .string (⟨#[]⟩ : ByteArray), .bool false, .string (⟨#[]⟩ : ByteArray), .int .i64 0, .int .i64 0, .int .i64 0, .int .i64 0, .bool false, .bool false, .int .i64 0, .int .i64 0] (0, 0) _ rfl q0_ Tryz.underlying51 rfl (by kernel_rfl)) rfl ?_
    exact ⟨q9_, q2_⟩
end Go.Proofs.YtdhpcofnddkcaaaGreatDoor.S
namespace Go.Proofs.YtdhpcofnddkcaaaGreatDoor.S
open Go.RowKit Go.Proofs.YtdhpcofnddkcaaaGreatDoor.G Go.Proofs.YtdhpcofnddkcaaaGreatDoorW.PrintWords Go.Proofs.YtdhpcofnddkcaaaGreatDoorW.PrintLast Go.Proofs.YtdhpcofnddkcaaaGreatDoorW.PrintMore
set_option linter.unusedVariables false
set_option linter.unusedSimpArgs false
theorem isSome_ite {α : Type} (c : Prop) [Decidable c] (x : α) : (if c then some x else none).isSome = decide c := by
  by_cases h : c
  · rw [if_pos h, decide_eq_true h]; rfl
  · rw [if_neg h, decide_eq_false h]; rfl
theorem parseV_flag (neg : Bool) (R : List UInt8) : (parseV neg R).2.2.2 = (parseL R).isSome := by
  unfold parseV
  cases parseL R <;> rfl
theorem empty_ne {α : Type} (l : List α) : (!l.isEmpty) = decide (l ≠ []) := by cases l <;> rfl
theorem numL_parse (s : ByteArray) : (parseV (negOf s) (restOf s)).2.2.2 = numL (bl s) := by
  rw [parseV_flag]
  unfold parseL numL restOf
  show _ = (!(ahead (Lib.trimPrefix (bl s) [45])).isEmpty && (ahead (Lib.trimPrefix (bl s) [45])).all isDig && _)
  generalize Lib.trimPrefix (bl s) [45] = R
  cases hB : behind R with
  | nil =>
    have hR : R = ahead R := by
      have := ahead_behind R
      rw [hB, List.append_nil] at this
      exact this
    rw [← hR, empty_ne]
    show (if R ≠ [] ∧ digs R = true ∧ R.length ≤ 40 then some (R, 0) else none).isSome = (decide (R ≠ []) && digs R && decide (R.length ≤ 40))
    rw [isSome_ite, Bool.eq_iff_iff]
    simp only [decide_eq_true_eq, Bool.and_eq_true, and_assoc]
  | cons z P =>
    rw [empty_ne]
    show (if digs (ahead R) = true ∧ ahead R ≠ [] ∧ P ≠ [] ∧ digs P = true ∧ (ahead R ++ P).length ≤ 40 then some (ahead R ++ P, P.length) else none).isSome = (decide (ahead R ≠ []) && digs (ahead R) && (!P.isEmpty && digs P && decide ((ahead R).length + P.length ≤ 40)))
    rw [isSome_ite, Bool.eq_iff_iff, empty_ne, List.length_append]
    simp only [decide_eq_true_eq, Bool.and_eq_true]
    exact ⟨fun ⟨a, b, c, d, e⟩ => ⟨⟨b, a⟩, ⟨⟨c, d⟩, e⟩⟩, fun ⟨⟨b, a⟩, ⟨⟨c, d⟩, e⟩⟩ => ⟨a, b, c, d, e⟩⟩
abbrev VT := Int × ByteArray × Bool × ByteArray × Int × Int × Int × Int × Bool × Bool × Int × Int × Bool
def noV : VT := (0, ⟨#[]⟩, false, ⟨#[]⟩, 0, 0, 0, 0, false, false, 0, 0, false)
def valF (kind : Int) (text : ByteArray) : VT :=
  if kind = 0 then (0, text, false, ⟨#[]⟩, 0, 0, 0, 0, false, false, 0, 0, true)
  else if kind = 1 then (if numL (bl text) = true then (1, ⟨#[]⟩, (parseV (negOf text) (restOf text)).1, (parseV (negOf text) (restOf text)).2.1, (parseV (negOf text) (restOf text)).2.2.1, 1, 0, 3, false, false, 0, 0, true) else noV)
  else if kind = 2 then (match Net.momL (bl text) with
    | some n => (2, ⟨#[]⟩, false, ⟨#[]⟩, 0, 0, 0, 0, false, false, n, 0, true)
    | none => noV)
  else noV
theorem valF_ok (name : ByteArray) (kind : Int) (text : ByteArray) : (valF kind text).2.2.2.2.2.2.2.2.2.2.2.2 = okA (name, kind, text) := by
  unfold valF okA
  show _ = (if kind = 0 then true else if kind = 1 then numL (bl text) else if kind = 2 then (Net.momL (bl text)).isSome else false)
  by_cases h0 : kind = 0
  · rw [if_pos h0, if_pos h0]
  · rw [if_neg h0, if_neg h0]
    by_cases h1 : kind = 1
    · rw [if_pos h1, if_pos h1]
      cases numL (bl text) <;> rfl
    · rw [if_neg h1, if_neg h1]
      by_cases h2 : kind = 2
      · rw [if_pos h2, if_pos h2]
        cases Net.momL (bl text) <;> rfl
      · rw [if_neg h2, if_neg h2]
        rfl
theorem value_f (name : ByteArray) (kind : Int) (text : ByteArray) (hs : text.size ≤ 100000) : script_Arg_Value.f name kind text = some (valF kind text) := by
  unfold script_Arg_Value.f valF
  by_cases h0 : kind = 0
  · rw [if_pos h0, if_pos h0]
    rfl
  · rw [if_neg h0, if_neg h0]
    by_cases h1 : kind = 1
    · rw [if_pos h1, if_pos h1, parse_ok text hs, Option.bind_some, ← numL_parse]
      cases (parseV (negOf text) (restOf text)).2.2.2 <;> rfl
    · rw [if_neg h1, if_neg h1]
      by_cases h2 : kind = 2
      · rw [if_pos h2, if_pos h2]
        obtain ⟨v, b, hf, hm⟩ := seconds_mom text (by omega)
        rw [hf, Option.bind_some]
        show (if b = true then _ else _) = _
        have hm' : (match Net.momL (bl text) with | some n => v = n ∧ b = true | none => b = false) := hm
        revert hm'
        cases Net.momL (bl text) with
        | none =>
          intro hm'
          have hm'' : b = false := hm'
          subst hm''
          rfl
        | some n =>
          intro hm'
          obtain ⟨rfl, rfl⟩ := hm'
          rfl
      · rw [if_neg h2, if_neg h2]
        rfl
end Go.Proofs.YtdhpcofnddkcaaaGreatDoor.S
namespace Go.Proofs.YtdhpcofnddkcaaaGreatDoor.S
open Go.RowKit Go.Proofs.YtdhpcofnddkcaaaGreatDoor.G Go.Proofs.YtdhpcofnddkcaaaGreatDoorW.PrintWords Go.Proofs.YtdhpcofnddkcaaaGreatDoorW.PrintLast Go.Proofs.YtdhpcofnddkcaaaGreatDoorW.PrintMore
attribute [local go_sem] max2_int min2_int max_two min_two max_three min_three max_four min_four
set_option linter.unusedVariables false
set_option linter.unusedSimpArgs false
namespace Sx11
theorem q0_ {p_ : Prop} (h_ : p_ := by repeat (first | exact Drawn0.refl _ | apply Drawn0.step)) : p_ := h_
theorem q1_ {p_ : Prop} (h_ : p_ := by first | rfl | (simp; done) | (simp [*]; done)) : p_ := h_
theorem q2_ {p_ : Prop} (h_ : p_ := by first | (with_reducible assumption) | assumption) : p_ := h_
theorem q3_ {p_ : Prop} (h_ : p_ := by have := HJ1.out; have := HJ5.out; first | omega | exact Nat.le_refl _) : p_ := h_
end Sx11
open Sx11
mutual
def polyglotlaw18_moment.j0 : Nat → ByteArray → ByteArray → Bool → Option (Int × Bool)
 | 0, _, _, _ => none
 | k + 1, x0, x4, x14 => if x14 = true then (if 1 ≤ (x4.size : Int) then (if (x4.extract 1 x4.size).toList = ([48] : List UInt8) then (some (0, false)) else (polyglotlaw18_moment.j1 k x0 (x4.extract 1 x4.size))) else (none)) else (polyglotlaw18_moment.j1 k x0 x4)
def polyglotlaw18_moment.j1 : Nat → ByteArray → ByteArray → Option (Int × Bool)
 | 0, _, _ => none
 | k + 1, x0, x4 => if x4.toList = ([] : List UInt8) then (polyglotlaw18_moment.j2 k x0 x4 true) else (if (x4.size : Int) > 16 then (polyglotlaw18_moment.j2 k x0 x4 true) else (if (x4.size : Int) > 1 then (if 0 < (x4.size : Int) then (polyglotlaw18_moment.j2 k x0 x4 ((bt x4 0) == 48)) else (none)) else (polyglotlaw18_moment.j2 k x0 x4 false)))
def polyglotlaw18_moment.j2 : Nat → ByteArray → ByteArray → Bool → Option (Int × Bool)
 | 0, _, _, _ => none
 | k + 1, x0, x4, x35 => if x35 = true then (some (0, false)) else (polyglotlaw18_moment.l0 k x0 x4 0 0)
def polyglotlaw18_moment.l0 : Nat → ByteArray → ByteArray → Int → Int → Option (Int × Bool)
 | 0, _, _, _, _ => none
 | k + 1, x0, x4, x5, x6 => if x6 < (x4.size : Int) then (if 0 ≤ x6 then (if (bt x4 x6) < 48 then (some (0, false)) else (if (bt x4 x6) > 57 then (some (0, false)) else (polyglotlaw18_moment.l0 k x0 x4 (wrap64 ((wrap64 (10 * x5)) + (((bt x4 x6) - 48) % 256))) (wrap64 (x6 + 1))))) else (none)) else (if x4.toList = x0.toList then (if x5 ≥ (-9007199254740992) then (some (x5, decide (x5 ≤ 9007199254740992))) else (some (x5, false))) else (if (wrap64 (-x5)) ≥ (-9007199254740992) then (some (wrap64 (-x5), decide ((wrap64 (-x5)) ≤ 9007199254740992))) else (some (wrap64 (-x5), false))))
end
def polyglotlaw18_moment.f (k : Nat) (a0 : ByteArray) : Option (Int × Bool) := if a0.toList = ([] : List UInt8) then (polyglotlaw18_moment.j0 k a0 a0 false) else (if 0 < (a0.size : Int) then (polyglotlaw18_moment.j0 k a0 a0 ((bt a0 0) == 45)) else (none))
theorem polyglotlaw18_moment.mono_l : ∀ k, (∀ y0 y1 y2, LeO (polyglotlaw18_moment.j0 k y0 y1 y2) (polyglotlaw18_moment.j0 (k + 1) y0 y1 y2)) ∧ (∀ y0 y1, LeO (polyglotlaw18_moment.j1 k y0 y1) (polyglotlaw18_moment.j1 (k + 1) y0 y1)) ∧ (∀ y0 y1 y2, LeO (polyglotlaw18_moment.j2 k y0 y1 y2) (polyglotlaw18_moment.j2 (k + 1) y0 y1 y2)) ∧ (∀ y0 y1 y2 y3, LeO (polyglotlaw18_moment.l0 k y0 y1 y2 y3) (polyglotlaw18_moment.l0 (k + 1) y0 y1 y2 y3))
 | 0 => ⟨fun _ _ _ r h => by simp [polyglotlaw18_moment.j0] at h, fun _ _ r h => by simp [polyglotlaw18_moment.j1] at h, fun _ _ _ r h => by simp [polyglotlaw18_moment.j2] at h, fun _ _ _ _ r h => by simp [polyglotlaw18_moment.l0] at h⟩
 | k + 1 => by
  obtain ⟨ih0, ih1, ih2, ih3⟩ := polyglotlaw18_moment.mono_l k
  refine ⟨?_, ?_, ?_, ?_⟩
  ·intro y0 y1 y2
   unfold polyglotlaw18_moment.j0
   repeat' first
   | (with_reducible exact ih0 _ _ _)
   | (with_reducible exact ih1 _ _)
   | (with_reducible exact ih2 _ _ _)
   | (with_reducible exact ih3 _ _ _ _)
   | (with_reducible exact LeO.refl _)
   | (with_reducible exact LeO.none _)
   | (with_reducible refine LeO.ite ?_ ?_)
   | (with_reducible refine LeO.bind ?_ (fun _ => ?_))
   | exact ih0 _ _ _
   | exact ih1 _ _
   | exact ih2 _ _ _
   | exact ih3 _ _ _ _
   | exact LeO.none _
   | refine LeO.ite ?_ ?_
   | refine LeO.bind ?_ (fun _ => ?_)
  ·intro y0 y1
   unfold polyglotlaw18_moment.j1
   repeat' first
   | (with_reducible exact ih0 _ _ _)
   | (with_reducible exact ih1 _ _)
   | (with_reducible exact ih2 _ _ _)
   | (with_reducible exact ih3 _ _ _ _)
   | (with_reducible exact LeO.refl _)
   | (with_reducible exact LeO.none _)
   | (with_reducible refine LeO.ite ?_ ?_)
   | (with_reducible refine LeO.bind ?_ (fun _ => ?_))
   | exact ih0 _ _ _
   | exact ih1 _ _
   | exact ih2 _ _ _
   | exact ih3 _ _ _ _
   | exact LeO.none _
   | refine LeO.ite ?_ ?_
   | refine LeO.bind ?_ (fun _ => ?_)
  ·intro y0 y1 y2
   unfold polyglotlaw18_moment.j2
   repeat' first
   | (with_reducible exact ih0 _ _ _)
   | (with_reducible exact ih1 _ _)
   | (with_reducible exact ih2 _ _ _)
   | (with_reducible exact ih3 _ _ _ _)
   | (with_reducible exact LeO.refl _)
   | (with_reducible exact LeO.none _)
   | (with_reducible refine LeO.ite ?_ ?_)
   | (with_reducible refine LeO.bind ?_ (fun _ => ?_))
   | exact ih0 _ _ _
   | exact ih1 _ _
   | exact ih2 _ _ _
   | exact ih3 _ _ _ _
   | exact LeO.none _
   | refine LeO.ite ?_ ?_
   | refine LeO.bind ?_ (fun _ => ?_)
  ·intro y0 y1 y2 y3
   unfold polyglotlaw18_moment.l0
   repeat' first
   | (with_reducible exact ih0 _ _ _)
   | (with_reducible exact ih1 _ _)
   | (with_reducible exact ih2 _ _ _)
   | (with_reducible exact ih3 _ _ _ _)
   | (with_reducible exact LeO.refl _)
   | (with_reducible exact LeO.none _)
   | (with_reducible refine LeO.ite ?_ ?_)
   | (with_reducible refine LeO.bind ?_ (fun _ => ?_))
   | exact ih0 _ _ _
   | exact ih1 _ _
   | exact ih2 _ _ _
   | exact ih3 _ _ _ _
   | exact LeO.none _
   | refine LeO.ite ?_ ?_
   | refine LeO.bind ?_ (fun _ => ?_)
theorem polyglotlaw18_moment.mono : ∀ a0 k, LeO (polyglotlaw18_moment.f k a0) (polyglotlaw18_moment.f (k + 1) a0) := by
 intro a0 k
 obtain ⟨ih0, ih1, ih2, ih3⟩ := polyglotlaw18_moment.mono_l k
 unfold polyglotlaw18_moment.f
 repeat' first
   | (with_reducible exact ih0 _ _ _)
   | (with_reducible exact ih1 _ _)
   | (with_reducible exact ih2 _ _ _)
   | (with_reducible exact ih3 _ _ _ _)
   | (with_reducible exact LeO.refl _)
   | (with_reducible exact LeO.none _)
   | (with_reducible refine LeO.ite ?_ ?_)
   | (with_reducible refine LeO.bind ?_ (fun _ => ?_))
   | exact ih0 _ _ _
   | exact ih1 _ _
   | exact ih2 _ _ _
   | exact ih3 _ _ _ _
   | exact LeO.none _
   | refine LeO.ite ?_ ?_
   | refine LeO.bind ?_ (fun _ => ?_)
set_option maxHeartbeats 8000000 in
set_option maxRecDepth 100000 in
theorem polyglotlaw18_moment.calls (k : Nat) (a0 : ByteArray) (r1 : Int) (r2 : Bool) (w : World) (h : polyglotlaw18_moment.f k a0 = some (r1, r2)) :
  Calls Tryz.prog 32 #[.string a0] w fun e w' => e = .returned (.tuple #[.int .i64 r1, .bool r2]) ∧ Drawn0 w w' := by
 have H : (if a0.toList = ([] : List UInt8) then (polyglotlaw18_moment.j0 k a0 a0 false) else (if 0 < (a0.size : Int) then (polyglotlaw18_moment.j0 k a0 a0 ((bt a0 0) == 45)) else (none))) = some (r1, r2) := h
 clear h
 have HC2 := Aside0.mk H
 clear H
 go_enter Tryz.func32, Tryz.ntmps32
 go_upto_region 2 with (fail)
 go_cut [14] (fun v14 wc => ∃ (kq : Nat) (x14_1 : Bool), v14 = .bool x14_1 ∧ Aside0 (polyglotlaw18_moment.j0 kq a0 a0 x14_1 = some (r1, r2)) ∧ Aside0 (kq ≤ k) ∧ Drawn0 w wc)
 case first =>
  have H := HC2.out
  clear HC2
  by_cases c3 : a0.toList = ([] : List UInt8)
  ·rw [if_pos c3] at H
   have c3b0 : (a0.toList == ([] : List UInt8)) = true := beq_iff_eq.mpr c3
   have c3b1 : (a0.toList != ([] : List UInt8)) = false := bne_eq_false_iff_eq.mpr c3
   clear c3
   (first | rw [c3b0] | (simp only [i64_w, i32_w]; rw [c3b0]) | skip)
   have H' := Aside0.mk H
   clear H
   go_wp2
   go_meet
   case rel => exact ⟨_, (false), q1_, H', ⟨(by first | omega | exact Nat.le_refl _)⟩, q0_⟩
  ·rw [if_neg c3] at H
   have c3b0 : (a0.toList == ([] : List UInt8)) = false := beq_eq_false_iff_ne.mpr c3
   have c3b1 : (a0.toList != ([] : List UInt8)) = true := bne_iff_ne.mpr c3
   (first | rw [c3b0] | (simp only [i64_w, i32_w]; rw [c3b0]) | skip)
   by_cases c4 : 0 < (a0.size : Int)
   ·rw [if_pos c4] at H
    have c4b0 : decide (0 < (a0.size : Int)) = true := decide_eq_true c4
    have c4b1 : decide (0 < a0.size) = true := decide_eq_true (by omega)
    clear c4
    have H' := Aside0.mk H
    clear H
    have p5 : 0 ≤ (0 : Int) := (by omega)
    have q5 : 0 < a0.size := (by have : (0 : Int) < (a0.size : Int) := of_decide_eq_true q2_; omega)
    have hx5 : ∀ h : 0 < a0.size, ((a0[0]'h).toNat : Int) = bt a0 0 := bt_at a0 0
    clear p5
    have qi5 : (0 < (a0.size : Int)) = True := eq_true (of_decide_eq_true q2_)
    replace q5 := eq_true q5
    go_wp2
    go_meet
    case rel => exact ⟨_, (((bt a0 0) == 45)), q1_, H', ⟨(by first | omega | exact Nat.le_refl _)⟩, q0_⟩
   ·rw [if_neg c4] at H
    exact absurd H (by simp)
 case rest =>
  clear HC2
  try clear p2
  try clear c3
  try clear c3b0
  try clear c3b1
  try clear c4
  try clear c4b0
  try clear c4b1
  try clear p5
  try clear q5
  try clear hx5
  try clear qi5
  try clear p5
  try clear q5
  obtain ⟨kq, x14_1, rfl, HA, HJ1, ⟨mc1, rfl⟩⟩ := hcut
  cases kq with
  | zero => exact absurd HA.out (by simp [polyglotlaw18_moment.j0])
  | succ kj1 =>
   have H := HA.out
   clear HA
   simp only [polyglotlaw18_moment.j0] at H
   have HC6 := Aside0.mk H
   clear H
   go_upto_if 14 with (fail)
   go_cut [4] (fun v4 wc => ∃ (kq : Nat) (x4_5 : ByteArray), v4 = .string x4_5 ∧ Aside0 (polyglotlaw18_moment.j1 kq a0 x4_5 = some (r1, r2)) ∧ Aside0 (kq ≤ kj1) ∧ Drawn0 w wc)
   case first =>
    have H := HC6.out
    clear HC6
    by_cases c7 : x14_1 = true
    ·subst c7
     have H1 : (if 1 ≤ (a0.size : Int) then (if (a0.extract 1 a0.size).toList = ([48] : List UInt8) then (some (0, false)) else (polyglotlaw18_moment.j1 kj1 a0 (a0.extract 1 a0.size))) else (none)) = some (r1, r2) := by rw [if_pos rfl] at H; exact H
     clear H
     have H := H1
     clear H1
     by_cases c8 : 1 ≤ (a0.size : Int)
     ·rw [if_pos c8] at H
      have c8b0 := eq_true c8
      have c8b1 : decide (1 ≤ (a0.size : Int)) = true := decide_eq_true c8
      clear c8
      by_cases c9 : (a0.extract 1 a0.size).toList = ([48] : List UInt8)
      ·rw [if_pos c9] at H
       have c9b0 : ((a0.extract 1 a0.size).toList == ([48] : List UInt8)) = true := beq_iff_eq.mpr c9
       have c9b1 : ((a0.extract 1 a0.size).toList != ([48] : List UInt8)) = false := bne_eq_false_iff_eq.mpr c9
       clear c9
       (first | rw [c9b0] | (simp only [i64_w, i32_w]; rw [c9b0]) | skip)
       simp only [Option.some.injEq, Prod.mk.injEq] at H
       obtain ⟨rfl, rfl⟩ := H
       go_wp2
       go_ret2
       exact ⟨q1_, q0_⟩
      ·rw [if_neg c9] at H
       have c9b0 : ((a0.extract 1 a0.size).toList == ([48] : List UInt8)) = false := beq_eq_false_iff_ne.mpr c9
       have c9b1 : ((a0.extract 1 a0.size).toList != ([48] : List UInt8)) = true := bne_iff_ne.mpr c9
       (first | rw [c9b0] | (simp only [i64_w, i32_w]; rw [c9b0]) | skip)
       have H' := Aside0.mk H
       clear H
       go_wp2
       go_meet
       case rel => exact ⟨_, (a0.extract 1 a0.size), q1_, H', ⟨(by have := HJ1.out; first | omega | exact Nat.le_refl _)⟩, q0_⟩
     ·rw [if_neg c8] at H
      exact absurd H (by simp)
    ·replace c7 := Bool.eq_false_iff.mpr c7
     subst c7
     have H1 : (polyglotlaw18_moment.j1 kj1 a0 a0) = some (r1, r2) := by rw [if_neg (show ¬ (false = true) by decide)] at H; exact H
     clear H
     have H := H1
     clear H1
     have H' := Aside0.mk H
     clear H
     go_wp2
     go_meet
     case rel => exact ⟨_, (a0), q1_, H', ⟨(by have := HJ1.out; first | omega | exact Nat.le_refl _)⟩, q0_⟩
   case rest =>
    clear HC6
    try clear c1
    try clear p2
    try clear c3
    try clear c3b0
    try clear c3b1
    try clear c4
    try clear c4b0
    try clear c4b1
    try clear p5
    try clear q5
    try clear hx5
    try clear qi5
    try clear c7
    try clear c8
    try clear c8b0
    try clear c8b1
    try clear c9
    try clear c9b0
    try clear c9b1
    try clear p2
    try clear p5
    try clear q5
    obtain ⟨kq, x4_5, rfl, HA, HJ5, ⟨mc5, rfl⟩⟩ := hcut
    cases kq with
    | zero => exact absurd HA.out (by simp [polyglotlaw18_moment.j1])
    | succ kj5 =>
     have H := HA.out
     clear HA
     simp only [polyglotlaw18_moment.j1] at H
     have HC10 := Aside0.mk H
     clear H
     go_upto_region 6 with (fail)
     go_cut [35] (fun v35 wc => ∃ (kq : Nat) (x35_9 : Bool), v35 = .bool x35_9 ∧ Aside0 (polyglotlaw18_moment.j2 kq a0 x4_5 x35_9 = some (r1, r2)) ∧ Aside0 (kq ≤ kj5) ∧ Drawn0 w wc)
     case first =>
      have H := HC10.out
      clear HC10
      by_cases c11 : x4_5.toList = ([] : List UInt8)
      ·rw [if_pos c11] at H
       have c11b0 : (x4_5.toList == ([] : List UInt8)) = true := beq_iff_eq.mpr c11
       have c11b1 : (x4_5.toList != ([] : List UInt8)) = false := bne_eq_false_iff_eq.mpr c11
       clear c11
       (first | rw [c11b0] | (simp only [i64_w, i32_w]; rw [c11b0]) | skip)
       have H' := Aside0.mk H
       clear H
       go_wp2
       go_meet
       case rel => exact ⟨_, (true), q1_, H', ⟨q3_⟩, q0_⟩
      ·rw [if_neg c11] at H
       have c11b0 : (x4_5.toList == ([] : List UInt8)) = false := beq_eq_false_iff_ne.mpr c11
       have c11b1 : (x4_5.toList != ([] : List UInt8)) = true := bne_iff_ne.mpr c11
       (first | rw [c11b0] | (simp only [i64_w, i32_w]; rw [c11b0]) | skip)
       by_cases c12 : (x4_5.size : Int) > 16
       ·rw [if_pos c12] at H
        have c12b0 : decide (16 < (x4_5.size : Int)) = true := decide_eq_true c12
        have c12b1 : decide (16 < x4_5.size) = true := decide_eq_true (by omega)
        clear c12
        have H' := Aside0.mk H
        clear H
        go_wp2
        go_meet
        case rel => exact ⟨_, (true), q1_, H', ⟨q3_⟩, q0_⟩
       ·rw [if_neg c12] at H
        have c12b0 : decide (16 < (x4_5.size : Int)) = false := decide_eq_false c12
        have c12b1 : decide (16 < x4_5.size) = false := decide_eq_false (by omega)
        clear c12
        by_cases c13 : (x4_5.size : Int) > 1
        ·rw [if_pos c13] at H
         have c13b0 : decide (1 < (x4_5.size : Int)) = true := decide_eq_true c13
         have c13b1 : decide (1 < x4_5.size) = true := decide_eq_true (by omega)
         clear c13
         by_cases c14 : 0 < (x4_5.size : Int)
         ·rw [if_pos c14] at H
          have c14b0 : decide (0 < (x4_5.size : Int)) = true := decide_eq_true c14
          have c14b1 : decide (0 < x4_5.size) = true := decide_eq_true (by omega)
          clear c14
          have H' := Aside0.mk H
          clear H
          have p15 : 0 ≤ (0 : Int) := (by omega)
          have q15 : 0 < x4_5.size := (by have : (0 : Int) < (x4_5.size : Int) := of_decide_eq_true q2_; omega)
          have hx15 : ∀ h : 0 < x4_5.size, ((x4_5[0]'h).toNat : Int) = bt x4_5 0 := bt_at x4_5 0
          clear p15
          have qi15 : (0 < (x4_5.size : Int)) = True := eq_true (of_decide_eq_true q2_)
          replace q15 := eq_true q15
          go_wp2
          go_meet
          case rel => exact ⟨_, (((bt x4_5 0) == 48)), q1_, H', ⟨q3_⟩, q0_⟩
         ·rw [if_neg c14] at H
          exact absurd H (by simp)
        ·rw [if_neg c13] at H
         have c13b0 : decide (1 < (x4_5.size : Int)) = false := decide_eq_false c13
         have c13b1 : decide (1 < x4_5.size) = false := decide_eq_false (by omega)
         clear c13
         have H' := Aside0.mk H
         clear H
         go_wp2
         go_meet
         case rel => exact ⟨_, (false), q1_, H', ⟨q3_⟩, q0_⟩
     case rest =>
      clear HC10
      try clear c1
      try clear p1
      try clear q1
      try clear hx1
      try clear qi1
      try clear p2
      try clear c3
      try clear c3b0
      try clear c3b1
      try clear c4
      try clear c4b0
      try clear c4b1
      try clear c5
      try clear p5
      try clear q5
      try clear hx5
      try clear qi5
      try clear c7
      try clear c8
      try clear c8b0
      try clear c8b1
      try clear c9
      try clear c9b0
      try clear c9b1
      try clear c11
      try clear c11b0
      try clear c11b1
      try clear c12
      try clear c12b0
      try clear c12b1
      try clear c13
      try clear c13b0
      try clear c13b1
      try clear c14
      try clear c14b0
      try clear c14b1
      try clear p15
      try clear q15
      try clear hx15
      try clear qi15
      try clear p15
      try clear p2
      try clear p5
      try clear q15
      try clear q5
      obtain ⟨kq, x35_9, rfl, HA, HJ9, ⟨mc9, rfl⟩⟩ := hcut
      cases kq with
      | zero => exact absurd HA.out (by simp [polyglotlaw18_moment.j2])
      | succ kj9 =>
       have H := HA.out
       clear HA
       simp only [polyglotlaw18_moment.j2] at H
       by_cases c16 : x35_9 = true
       ·subst c16
        have H1 : (some (0, false)) = some (r1, r2) := by rw [if_pos rfl] at H; exact H
        clear H
        have H := H1
        clear H1
        simp only [Option.some.injEq, Prod.mk.injEq] at H
        obtain ⟨rfl, rfl⟩ := H
        go_wp2
        go_ret2
        exact ⟨q1_, q0_⟩
       ·replace c16 := Bool.eq_false_iff.mpr c16
        subst c16
        have H1 : (polyglotlaw18_moment.l0 kj9 a0 x4_5 0 0) = some (r1, r2) := by rw [if_neg (show ¬ (false = true) by decide)] at H; exact H
        clear H
        have H := H1
        clear H1
        have H' := Aside0.mk H
        clear H
        go_wp2
        go_loopg [5, 6] kj9 (fun kq v5 v6 w' => ∃ (x5_4 : Int) (x6_4 : Int), v5 = .int .i64 x5_4 ∧ v6 = .int .i64 x6_4 ∧ Aside0 (polyglotlaw18_moment.l0 kq a0 x4_5 x5_4 x6_4 = some (r1, r2)) ∧ Aside0 (kq ≤ kj9) ∧ Drawn0 w w')
        case atStart => exact ⟨(0), (0), q1_, q1_, H', ⟨Nat.le_refl _⟩, q0_⟩
        case round =>
         clear H'
         try clear c1
         try clear p1
         try clear q1
         try clear hx1
         try clear qi1
         try clear p2
         try clear c3
         try clear c3b0
         try clear c3b1
         try clear c4
         try clear c4b0
         try clear c4b1
         try clear c5
         try clear p5
         try clear q5
         try clear hx5
         try clear qi5
         try clear c7
         try clear c8
         try clear c8b0
         try clear c8b1
         try clear c9
         try clear c9b0
         try clear c9b1
         try clear c11
         try clear c11b0
         try clear c11b1
         try clear c12
         try clear c12b0
         try clear c12b1
         try clear c13
         try clear c13b0
         try clear c13b1
         try clear c14
         try clear c14b0
         try clear c14b1
         try clear p15
         try clear q15
         try clear hx15
         try clear qi15
         try clear c16
         try clear p1
         try clear p15
         try clear p2
         try clear p5
         try clear q1
         try clear q15
         try clear q5
         obtain ⟨x5_4, x6_4, rfl, rfl, HA, HK4, ⟨m4, rfl⟩⟩ := hrel
         cases gk with
         | zero => exact absurd HA.out (by simp [polyglotlaw18_moment.l0])
         | succ k4 =>
          have H := HA.out
          clear HA
          simp only [polyglotlaw18_moment.l0] at H
          by_cases c17 : x6_4 < (x4_5.size : Int)
          ·rw [if_pos c17] at H
           have c17b0 : decide (x6_4 < (x4_5.size : Int)) = true := decide_eq_true c17
           clear c17
           by_cases c18 : 0 ≤ x6_4
           ·rw [if_pos c18] at H
            have c18b0 : decide (0 ≤ x6_4) = true := decide_eq_true c18
            clear c18
            by_cases c20 : (bt x4_5 x6_4) < 48
            ·rw [if_pos c20] at H
             have c20b0 : decide ((bt x4_5 x6_4) < 48) = true := decide_eq_true c20
             clear c20
             simp only [Option.some.injEq, Prod.mk.injEq] at H
             obtain ⟨rfl, rfl⟩ := H
             have p19 : 0 ≤ (x6_4 : Int) := of_decide_eq_true q2_
             have q19 : x6_4 < (x4_5.size : Int) := of_decide_eq_true q2_
             have hx19 := bt_at x4_5 x6_4
             replace p19 := eq_true p19
             replace q19 := eq_true q19
             go_wp2
             go_ret2
             exact ⟨q1_, q0_⟩
            ·rw [if_neg c20] at H
             have c20b0 : decide ((bt x4_5 x6_4) < 48) = false := decide_eq_false c20
             clear c20
             by_cases c22 : (bt x4_5 x6_4) > 57
             ·rw [if_pos c22] at H
              have c22b0 : decide (57 < (bt x4_5 x6_4)) = true := decide_eq_true c22
              clear c22
              simp only [Option.some.injEq, Prod.mk.injEq] at H
              obtain ⟨rfl, rfl⟩ := H
              have p19 : 0 ≤ (x6_4 : Int) := of_decide_eq_true q2_
              have q19 : x6_4 < (x4_5.size : Int) := of_decide_eq_true q2_
              have hx19 := bt_at x4_5 x6_4
              replace p19 := eq_true p19
              replace q19 := eq_true q19
              have p21 : 0 ≤ (x6_4 : Int) := of_decide_eq_true q2_
              have q21 : x6_4 < (x4_5.size : Int) := of_decide_eq_true q2_
              have hx21 := bt_at x4_5 x6_4
              replace p21 := eq_true p21
              replace q21 := eq_true q21
              go_wp2
              go_ret2
              exact ⟨q1_, q0_⟩
             ·rw [if_neg c22] at H
              have c22b0 : decide (57 < (bt x4_5 x6_4)) = false := decide_eq_false c22
              clear c22
              have H' := Aside0.mk H
              clear H
              have p19 : 0 ≤ (x6_4 : Int) := of_decide_eq_true q2_
              have q19 : x6_4 < (x4_5.size : Int) := of_decide_eq_true q2_
              have hx19 := bt_at x4_5 x6_4
              replace p19 := eq_true p19
              replace q19 := eq_true q19
              have p21 : 0 ≤ (x6_4 : Int) := of_decide_eq_true q2_
              have q21 : x6_4 < (x4_5.size : Int) := of_decide_eq_true q2_
              have hx21 := bt_at x4_5 x6_4
              replace p21 := eq_true p21
              replace q21 := eq_true q21
              have p23 : 0 ≤ (x6_4 : Int) := of_decide_eq_true q2_
              have q23 : x6_4 < (x4_5.size : Int) := of_decide_eq_true q2_
              have hx23 := bt_at x4_5 x6_4
              replace p23 := eq_true p23
              replace q23 := eq_true q23
              go_wp2
              go_roundg k4
              case measure => have := HJ1.out; have := HJ5.out; have := HJ9.out; have := HK4.out; omega
              case rel => exact ⟨(wrap64 ((wrap64 (10 * x5_4)) + (((bt x4_5 x6_4) - 48) % 256))), (wrap64 (x6_4 + 1)), q1_, q1_, H', ⟨(by have := HJ1.out; have := HJ5.out; have := HJ9.out; have := HK4.out; omega)⟩, q0_⟩
           ·rw [if_neg c18] at H
            exact absurd H (by simp)
          ·rw [if_neg c17] at H
           have c17b0 : decide (x6_4 < (x4_5.size : Int)) = false := decide_eq_false c17
           clear c17
           by_cases c24 : x4_5.toList = a0.toList
           ·rw [if_pos c24] at H
            have c24b0 : (x4_5.toList == a0.toList) = true := beq_iff_eq.mpr c24
            have c24b1 : (x4_5.toList != a0.toList) = false := bne_eq_false_iff_eq.mpr c24
            clear c24
            by_cases c25 : x5_4 ≥ (-9007199254740992)
            ·rw [if_pos c25] at H
             have c25b0 : decide ((-9007199254740992) ≤ x5_4) = true := decide_eq_true c25
             clear c25
             simp only [Option.some.injEq, Prod.mk.injEq] at H
             obtain ⟨rfl, rfl⟩ := H
             go_wp2
             go_ret2
             exact ⟨q1_, q0_⟩
            ·rw [if_neg c25] at H
             have c25b0 : decide ((-9007199254740992) ≤ x5_4) = false := decide_eq_false c25
             clear c25
             simp only [Option.some.injEq, Prod.mk.injEq] at H
             obtain ⟨rfl, rfl⟩ := H
             go_wp2
             go_ret2
             exact ⟨q1_, q0_⟩
           ·rw [if_neg c24] at H
            have c24b0 : (x4_5.toList == a0.toList) = false := beq_eq_false_iff_ne.mpr c24
            have c24b1 : (x4_5.toList != a0.toList) = true := bne_iff_ne.mpr c24
            by_cases c26 : (wrap64 (-x5_4)) ≥ (-9007199254740992)
            ·rw [if_pos c26] at H
             have c26b0 : decide ((-9007199254740992) ≤ (wrap64 (-x5_4))) = true := decide_eq_true c26
             clear c26
             simp only [Option.some.injEq, Prod.mk.injEq] at H
             obtain ⟨rfl, rfl⟩ := H
             go_wp2
             go_ret2
             exact ⟨q1_, q0_⟩
            ·rw [if_neg c26] at H
             have c26b0 : decide ((-9007199254740992) ≤ (wrap64 (-x5_4))) = false := decide_eq_false c26
             clear c26
             simp only [Option.some.injEq, Prod.mk.injEq] at H
             obtain ⟨rfl, rfl⟩ := H
             go_wp2
             go_ret2
             exact ⟨q1_, q0_⟩
end Go.Proofs.YtdhpcofnddkcaaaGreatDoor.S
