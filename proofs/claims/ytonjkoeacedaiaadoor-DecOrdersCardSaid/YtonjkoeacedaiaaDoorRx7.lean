-- PRINTED by print.py (a twelfth state) out of the translation. Not trusted: Lean checks it.
import Derived.Test.YtonjkoeacedaiaaDoorRx0
import Derived.Test.YtonjkoeacedaiaaDoorRx2
namespace Go.Proofs.YtonjkoeacedaiaaDoor.R
open Go.RowKit Go.Proofs.YtonjkoeacedaiaaDoor.G Go.Proofs.YtonjkoeacedaiaaDoor.U Go.Proofs.YtonjkoeacedaiaaDoorW.PrintWords Go.Proofs.YtonjkoeacedaiaaDoorW.PrintLast Go.Proofs.YtonjkoeacedaiaaDoorW.PrintMore
attribute [local go_sem] max2_int min2_int max_two min_two max_three min_three max_four min_four   -- for this text's walks alone
set_option linter.unusedVariables false
set_option linter.unusedSimpArgs false

/-! ### polyglotlaw02_Parse: function 38 -/
mutual
def polyglotlaw02_Parse.j0 : Nat → ByteArray → Bool → Option (Bool × ByteArray × Int × Bool)
  | 0, _, _ => none
  | k + 1, x0, x4 => if x4 = true then (if 1 ≤ (x0.size : Int) then (polyglotlaw02_Parse.j1 k (x0.extract 1 x0.size) x4) else (none)) else (polyglotlaw02_Parse.j1 k x0 x4)
def polyglotlaw02_Parse.j1 : Nat → ByteArray → Bool → Option (Bool × ByteArray × Int × Bool)
  | 0, _, _ => none
  | k + 1, x0, x4 => polyglotlaw02_Parse.l0 k x0 x4 (⟨#[]⟩ : ByteArray) (-1) 0
def polyglotlaw02_Parse.l0 : Nat → ByteArray → Bool → ByteArray → Int → Int → Option (Bool × ByteArray × Int × Bool)
  | 0, _, _, _, _, _ => none
  | k + 1, x0, x4, x5, x6, x7 => if x7 < (x0.size : Int) then (if 0 ≤ x7 then ((polyglotlaw02_digit.f (bt x0 x7)).bind fun t185 => (if t185 = true then (if x7 ≤ (wrap64 (x7 + 1)) then (if (wrap64 (x7 + 1)) ≤ (x0.size : Int) then (if x5.size + (x0.extract (x7 : Int).toNat ((wrap64 (x7 + 1)) : Int).toNat).size ≤ 9223372036854775807 then (polyglotlaw02_Parse.l0 k x0 x4 (x5 ++ (x0.extract (x7 : Int).toNat ((wrap64 (x7 + 1)) : Int).toNat)) x6 (wrap64 (x7 + 1))) else (none)) else (none)) else (none)) else (if (bt x0 x7) = 46 then (if x6 < 0 then (if x7 > 0 then (if (wrap64 (x7 + 1)) < (x0.size : Int) then (polyglotlaw02_Parse.l0 k x0 x4 x5 x7 (wrap64 (x7 + 1))) else (some (false, (⟨#[]⟩ : ByteArray), 0, false))) else (some (false, (⟨#[]⟩ : ByteArray), 0, false))) else (some (false, (⟨#[]⟩ : ByteArray), 0, false))) else (some (false, (⟨#[]⟩ : ByteArray), 0, false))))) else (none)) else (if (x5.size : Int) = 0 then (polyglotlaw02_Parse.j3 k x0 x4 x5 x6 true) else (polyglotlaw02_Parse.j3 k x0 x4 x5 x6 (decide ((x5.size : Int) > 40))))
def polyglotlaw02_Parse.j3 : Nat → ByteArray → Bool → ByteArray → Int → Bool → Option (Bool × ByteArray × Int × Bool)
  | 0, _, _, _, _, _ => none
  | k + 1, x0, x4, x5, x6, x67 => if x67 = true then (some (false, (⟨#[]⟩ : ByteArray), 0, false)) else (if x6 ≥ 0 then (polyglotlaw02_Parse.j4 k x4 x5 (wrap64 ((wrap64 ((x0.size : Int) - 1)) - x6))) else (polyglotlaw02_Parse.j4 k x4 x5 0))
def polyglotlaw02_Parse.j4 : Nat → Bool → ByteArray → Int → Option (Bool × ByteArray × Int × Bool)
  | 0, _, _, _ => none
  | k + 1, x4, x5, x8 => polyglotlaw02_Parse.l1 k x4 x5 x8
def polyglotlaw02_Parse.l1 : Nat → Bool → ByteArray → Int → Option (Bool × ByteArray × Int × Bool)
  | 0, _, _, _ => none
  | k + 1, x4, x5, x8 => if (x5.size : Int) > (wrap64 (x8 + 1)) then (if 0 < (x5.size : Int) then (if (bt x5 0) = 48 then (if 1 ≤ (x5.size : Int) then (polyglotlaw02_Parse.l1 k x4 (x5.extract 1 x5.size) x8) else (none)) else (some (x4, x5, x8, true))) else (none)) else (some (x4, x5, x8, true))
end
def polyglotlaw02_Parse.f (k : Nat) (a0 : ByteArray) : Option (Bool × ByteArray × Int × Bool) := if (a0.size : Int) > 0 then (if 0 < (a0.size : Int) then (polyglotlaw02_Parse.j0 k a0 ((bt a0 0) == 45)) else (none)) else (polyglotlaw02_Parse.j0 k a0 false)
theorem polyglotlaw02_Parse.mono_l : ∀ k, (∀ y0 y1, LeO (polyglotlaw02_Parse.j0 k y0 y1) (polyglotlaw02_Parse.j0 (k + 1) y0 y1)) ∧ (∀ y0 y1, LeO (polyglotlaw02_Parse.j1 k y0 y1) (polyglotlaw02_Parse.j1 (k + 1) y0 y1)) ∧ (∀ y0 y1 y2 y3 y4, LeO (polyglotlaw02_Parse.l0 k y0 y1 y2 y3 y4) (polyglotlaw02_Parse.l0 (k + 1) y0 y1 y2 y3 y4)) ∧ (∀ y0 y1 y2 y3 y4, LeO (polyglotlaw02_Parse.j3 k y0 y1 y2 y3 y4) (polyglotlaw02_Parse.j3 (k + 1) y0 y1 y2 y3 y4)) ∧ (∀ y0 y1 y2, LeO (polyglotlaw02_Parse.j4 k y0 y1 y2) (polyglotlaw02_Parse.j4 (k + 1) y0 y1 y2)) ∧ (∀ y0 y1 y2, LeO (polyglotlaw02_Parse.l1 k y0 y1 y2) (polyglotlaw02_Parse.l1 (k + 1) y0 y1 y2))
  | 0 => ⟨fun _ _ r h => by simp [polyglotlaw02_Parse.j0] at h, fun _ _ r h => by simp [polyglotlaw02_Parse.j1] at h, fun _ _ _ _ _ r h => by simp [polyglotlaw02_Parse.l0] at h, fun _ _ _ _ _ r h => by simp [polyglotlaw02_Parse.j3] at h, fun _ _ _ r h => by simp [polyglotlaw02_Parse.j4] at h, fun _ _ _ r h => by simp [polyglotlaw02_Parse.l1] at h⟩
  | k + 1 => by
    obtain ⟨ih0, ih1, ih2, ih3, ih4, ih5⟩ := polyglotlaw02_Parse.mono_l k
    refine ⟨?_, ?_, ?_, ?_, ?_, ?_⟩
    · intro y0 y1
      unfold polyglotlaw02_Parse.j0
      repeat' first
      | (with_reducible exact ih0 _ _)
      | (with_reducible exact ih1 _ _)
      | (with_reducible exact ih2 _ _ _ _ _)
      | (with_reducible exact ih3 _ _ _ _ _)
      | (with_reducible exact ih4 _ _ _)
      | (with_reducible exact ih5 _ _ _)
      | (with_reducible exact LeO.refl _)
      | (with_reducible exact LeO.none _)
      | (with_reducible refine LeO.ite ?_ ?_)
      | (with_reducible refine LeO.bind ?_ (fun _ => ?_))
      | exact ih0 _ _
      | exact ih1 _ _
      | exact ih2 _ _ _ _ _
      | exact ih3 _ _ _ _ _
      | exact ih4 _ _ _
      | exact ih5 _ _ _
      | exact LeO.none _
      | refine LeO.ite ?_ ?_
      | refine LeO.bind ?_ (fun _ => ?_)
    · intro y0 y1
      unfold polyglotlaw02_Parse.j1
      repeat' first
      | (with_reducible exact ih0 _ _)
      | (with_reducible exact ih1 _ _)
      | (with_reducible exact ih2 _ _ _ _ _)
      | (with_reducible exact ih3 _ _ _ _ _)
      | (with_reducible exact ih4 _ _ _)
      | (with_reducible exact ih5 _ _ _)
      | (with_reducible exact LeO.refl _)
      | (with_reducible exact LeO.none _)
      | (with_reducible refine LeO.ite ?_ ?_)
      | (with_reducible refine LeO.bind ?_ (fun _ => ?_))
      | exact ih0 _ _
      | exact ih1 _ _
      | exact ih2 _ _ _ _ _
      | exact ih3 _ _ _ _ _
      | exact ih4 _ _ _
      | exact ih5 _ _ _
      | exact LeO.none _
      | refine LeO.ite ?_ ?_
      | refine LeO.bind ?_ (fun _ => ?_)
    · intro y0 y1 y2 y3 y4
      unfold polyglotlaw02_Parse.l0
      repeat' first
      | (with_reducible exact ih0 _ _)
      | (with_reducible exact ih1 _ _)
      | (with_reducible exact ih2 _ _ _ _ _)
      | (with_reducible exact ih3 _ _ _ _ _)
      | (with_reducible exact ih4 _ _ _)
      | (with_reducible exact ih5 _ _ _)
      | (with_reducible exact LeO.refl _)
      | (with_reducible exact LeO.none _)
      | (with_reducible refine LeO.ite ?_ ?_)
      | (with_reducible refine LeO.bind ?_ (fun _ => ?_))
      | exact ih0 _ _
      | exact ih1 _ _
      | exact ih2 _ _ _ _ _
      | exact ih3 _ _ _ _ _
      | exact ih4 _ _ _
      | exact ih5 _ _ _
      | exact LeO.none _
      | refine LeO.ite ?_ ?_
      | refine LeO.bind ?_ (fun _ => ?_)
    · intro y0 y1 y2 y3 y4
      unfold polyglotlaw02_Parse.j3
      repeat' first
      | (with_reducible exact ih0 _ _)
      | (with_reducible exact ih1 _ _)
      | (with_reducible exact ih2 _ _ _ _ _)
      | (with_reducible exact ih3 _ _ _ _ _)
      | (with_reducible exact ih4 _ _ _)
      | (with_reducible exact ih5 _ _ _)
      | (with_reducible exact LeO.refl _)
      | (with_reducible exact LeO.none _)
      | (with_reducible refine LeO.ite ?_ ?_)
      | (with_reducible refine LeO.bind ?_ (fun _ => ?_))
      | exact ih0 _ _
      | exact ih1 _ _
      | exact ih2 _ _ _ _ _
      | exact ih3 _ _ _ _ _
      | exact ih4 _ _ _
      | exact ih5 _ _ _
      | exact LeO.none _
      | refine LeO.ite ?_ ?_
      | refine LeO.bind ?_ (fun _ => ?_)
    · intro y0 y1 y2
      unfold polyglotlaw02_Parse.j4
      repeat' first
      | (with_reducible exact ih0 _ _)
      | (with_reducible exact ih1 _ _)
      | (with_reducible exact ih2 _ _ _ _ _)
      | (with_reducible exact ih3 _ _ _ _ _)
      | (with_reducible exact ih4 _ _ _)
      | (with_reducible exact ih5 _ _ _)
      | (with_reducible exact LeO.refl _)
      | (with_reducible exact LeO.none _)
      | (with_reducible refine LeO.ite ?_ ?_)
      | (with_reducible refine LeO.bind ?_ (fun _ => ?_))
      | exact ih0 _ _
      | exact ih1 _ _
      | exact ih2 _ _ _ _ _
      | exact ih3 _ _ _ _ _
      | exact ih4 _ _ _
      | exact ih5 _ _ _
      | exact LeO.none _
      | refine LeO.ite ?_ ?_
      | refine LeO.bind ?_ (fun _ => ?_)
    · intro y0 y1 y2
      unfold polyglotlaw02_Parse.l1
      repeat' first
      | (with_reducible exact ih0 _ _)
      | (with_reducible exact ih1 _ _)
      | (with_reducible exact ih2 _ _ _ _ _)
      | (with_reducible exact ih3 _ _ _ _ _)
      | (with_reducible exact ih4 _ _ _)
      | (with_reducible exact ih5 _ _ _)
      | (with_reducible exact LeO.refl _)
      | (with_reducible exact LeO.none _)
      | (with_reducible refine LeO.ite ?_ ?_)
      | (with_reducible refine LeO.bind ?_ (fun _ => ?_))
      | exact ih0 _ _
      | exact ih1 _ _
      | exact ih2 _ _ _ _ _
      | exact ih3 _ _ _ _ _
      | exact ih4 _ _ _
      | exact ih5 _ _ _
      | exact LeO.none _
      | refine LeO.ite ?_ ?_
      | refine LeO.bind ?_ (fun _ => ?_)
theorem polyglotlaw02_Parse.mono : ∀ a0 k, LeO (polyglotlaw02_Parse.f k a0) (polyglotlaw02_Parse.f (k + 1) a0) := by
  intro a0 k
  obtain ⟨ih0, ih1, ih2, ih3, ih4, ih5⟩ := polyglotlaw02_Parse.mono_l k
  unfold polyglotlaw02_Parse.f
  repeat' first
      | (with_reducible exact ih0 _ _)
      | (with_reducible exact ih1 _ _)
      | (with_reducible exact ih2 _ _ _ _ _)
      | (with_reducible exact ih3 _ _ _ _ _)
      | (with_reducible exact ih4 _ _ _)
      | (with_reducible exact ih5 _ _ _)
      | (with_reducible exact LeO.refl _)
      | (with_reducible exact LeO.none _)
      | (with_reducible refine LeO.ite ?_ ?_)
      | (with_reducible refine LeO.bind ?_ (fun _ => ?_))
      | exact ih0 _ _
      | exact ih1 _ _
      | exact ih2 _ _ _ _ _
      | exact ih3 _ _ _ _ _
      | exact ih4 _ _ _
      | exact ih5 _ _ _
      | exact LeO.none _
      | refine LeO.ite ?_ ?_
      | refine LeO.bind ?_ (fun _ => ?_)
set_option maxHeartbeats 8000000 in
set_option maxRecDepth 100000 in
theorem polyglotlaw02_Parse.calls (k : Nat) (a0 : ByteArray) (r1 : Bool) (r2 : ByteArray) (r3 : Int) (r4 : Bool) (w : World) (h : polyglotlaw02_Parse.f k a0 = some (r1, r2, r3, r4)) :
    Calls Tryd.prog 38 #[.string a0] w fun e w' => e = .returned (.tuple #[.agg #[.bool r1, .string r2, .int .i64 r3], .bool r4]) ∧ Below w.heap.size w w' := by
  have hu23 := Tryd.underlying23
  have HB := Aside0.mk (Below.refl w.heap.size w)
  have H : (if (a0.size : Int) > 0 then (if 0 < (a0.size : Int) then (polyglotlaw02_Parse.j0 k a0 ((bt a0 0) == 45)) else (none)) else (polyglotlaw02_Parse.j0 k a0 false)) = some (r1, r2, r3, r4) := h
  clear h
  have HC2 := Aside0.mk H
  clear H
  go_enter Tryd.func38, Tryd.ntmps38
  go_upto_region 1 with (first | ((with_reducible refine gate_dst (N := 2) rfl ?_); (try (refine gate_guard (by rfl) ?_; dsimp only)); refine box_event ?hg (N := 2) ?hd (cs := #[.bool false, .string (⟨#[]⟩ : ByteArray), .int .i64 0]) (t := 23) ?hr ?_; (case hd => rfl); (case hg => rfl); (case hr => first | (go_simp; done) | (go_simp; rfl)); intro gb184 hg w3 hbox hb; have n0_ := Aside0.mk (below_step (by repeat (first | (with_reducible first | exact HB.out | apply below_alloc | apply pw_below_drewN | apply below_drew1) | exact HB.out)) hb); have n1_ := Aside0.mk (hbox); have n2_ := Aside0.mk ((by rw [hg]; exact (below_size (by repeat (first | (with_reducible first | exact HB.out | apply below_alloc | apply pw_below_drewN | apply below_drew1) | exact HB.out))) : w.heap.size ≤ gb184)); have n3_ := Aside0.mk ((by rw [hg]; exact (below_size (by repeat (first | (with_reducible first | exact HB.out | apply below_alloc | apply pw_below_drewN | apply below_drew1) | exact HB.out))) : w.heap.size ≤ gb184)); clear HB; have HB := n0_; have BK184 := n1_; have GW184 := n2_; have GE184 := n3_; clear n0_ n1_ n2_ n3_; clear hb hbox hg))
  (try simp only [Act.put, List.setIfInBounds_toArray, List.set_cons_zero, List.set_cons_succ])
  go_cut [4] (fun v4 wc => ∃ (kq : Nat) (x4_1 : Bool), v4 = .bool x4_1 ∧ Aside0 (polyglotlaw02_Parse.j0 kq a0 x4_1 = some (r1, r2, r3, r4)) ∧ Aside0 (kq ≤ k) ∧ Aside0 (wc.heap[gb184]? = some (.cells #[.bool false, .string (⟨#[]⟩ : ByteArray), .int .i64 0] 23 (0, 0))) ∧ Aside0 (Below w.heap.size w wc))
  case first =>
    have H := HC2.out
    clear HC2
    by_cases c4 : (a0.size : Int) > 0
    · rw [if_pos c4] at H
      have c4b0 : decide (0 < (a0.size : Int)) = true := decide_eq_true c4
      have c4b1 : decide (0 < a0.size) = true := decide_eq_true (by omega)
      clear c4
      (first | rw [c4b0] | (simp only [i64_w, i32_w]; rw [c4b0]) | skip)
      by_cases c5 : 0 < (a0.size : Int)
      · rw [if_pos c5] at H
        have c5b0 : decide (0 < (a0.size : Int)) = true := decide_eq_true c5
        have c5b1 : decide (0 < a0.size) = true := decide_eq_true (by omega)
        clear c5
        have H' := Aside0.mk H
        clear H
        have p6 : 0 ≤ (0 : Int) := (by omega)
        have q6 : 0 < a0.size := (by have : (0 : Int) < (a0.size : Int) := of_decide_eq_true (by first | (with_reducible assumption) | assumption); omega)
        have hx6 : ∀ h : 0 < a0.size, ((a0[0]'h).toNat : Int) = bt a0 0 := bt_at a0 0
        clear p6
        have qi6 : (0 < (a0.size : Int)) = True := eq_true (of_decide_eq_true (by first | (with_reducible assumption) | assumption))
        replace q6 := eq_true q6
        go_wp2
        go_meet
        case rel => exact ⟨_, (((bt a0 0) == 45)), (by first | rfl | (simp; done) | (simp [*]; done)), H', ⟨by first | omega | exact Nat.le_refl _⟩, ⟨by (with_reducible repeat (first | refine blk_drewN ?_ _ | refine blk_drew ?_ | refine blk_alloc ?_ _)); exact BK184.out⟩, ⟨by repeat (first | (with_reducible first | exact HB.out | apply below_alloc | apply pw_below_drewN | apply below_drew1 | refine below_set ?_ GE184.out) | exact HB.out)⟩⟩
      · rw [if_neg c5] at H
        exact absurd H (by simp)
    · rw [if_neg c4] at H
      have c4b0 : decide (0 < (a0.size : Int)) = false := decide_eq_false c4
      have c4b1 : decide (0 < a0.size) = false := decide_eq_false (by omega)
      clear c4
      (first | rw [c4b0] | (simp only [i64_w, i32_w]; rw [c4b0]) | skip)
      have H' := Aside0.mk H
      clear H
      go_wp2
      go_meet
      case rel => exact ⟨_, (false), (by first | rfl | (simp; done) | (simp [*]; done)), H', ⟨by first | omega | exact Nat.le_refl _⟩, ⟨by (with_reducible repeat (first | refine blk_drewN ?_ _ | refine blk_drew ?_ | refine blk_alloc ?_ _)); exact BK184.out⟩, ⟨by repeat (first | (with_reducible first | exact HB.out | apply below_alloc | apply pw_below_drewN | apply below_drew1 | refine below_set ?_ GE184.out) | exact HB.out)⟩⟩
  case rest =>
    clear HC2
    try clear p2
    try clear c3
    try clear c4
    try clear c4b0
    try clear c4b1
    try clear c5
    try clear c5b0
    try clear c5b1
    try clear p6
    try clear q6
    try clear hx6
    try clear qi6
    try clear p6
    try clear q6
    obtain ⟨kq, x4_1, rfl, HA, HJ1, BK184, HB⟩ := hcut
    cases kq with
    | zero => exact absurd HA.out (by simp [polyglotlaw02_Parse.j0])
    | succ kj1 =>
      have H := HA.out
      clear HA
      simp only [polyglotlaw02_Parse.j0] at H
      have HC7 := Aside0.mk H
      clear H
      go_upto_if 17 with (fail)
      go_cut [0] (fun v0 wc => ∃ (kq : Nat) (x0_6 : ByteArray), v0 = .string x0_6 ∧ Aside0 (polyglotlaw02_Parse.j1 kq x0_6 x4_1 = some (r1, r2, r3, r4)) ∧ Aside0 (kq ≤ kj1) ∧ Aside0 (wc.heap[gb184]? = some (.cells #[.bool false, .string (⟨#[]⟩ : ByteArray), .int .i64 0] 23 (0, 0))) ∧ Aside0 (Below w.heap.size w wc))
      case first =>
        have H := HC7.out
        clear HC7
        by_cases c8 : x4_1 = true
        · subst c8
          have H1 : (if 1 ≤ (a0.size : Int) then (polyglotlaw02_Parse.j1 kj1 (a0.extract 1 a0.size) true) else (none)) = some (r1, r2, r3, r4) := by rw [if_pos rfl] at H; exact H
          clear H
          have H := H1
          clear H1
          by_cases c9 : 1 ≤ (a0.size : Int)
          · rw [if_pos c9] at H
            have c9b0 := eq_true c9
            have c9b1 : decide (1 ≤ (a0.size : Int)) = true := decide_eq_true c9
            clear c9
            have H' := Aside0.mk H
            clear H
            go_wp2
            go_meet
            case rel => exact ⟨_, (a0.extract 1 a0.size), (by first | rfl | (simp; done) | (simp [*]; done)), H', ⟨by have := HJ1.out; first | omega | exact Nat.le_refl _⟩, ⟨by (with_reducible repeat (first | refine blk_drewN ?_ _ | refine blk_drew ?_ | refine blk_alloc ?_ _)); exact BK184.out⟩, ⟨by repeat (first | (with_reducible first | exact HB.out | apply below_alloc | apply pw_below_drewN | apply below_drew1 | refine below_set ?_ GE184.out) | exact HB.out)⟩⟩
          · rw [if_neg c9] at H
            exact absurd H (by simp)
        · replace c8 := Bool.eq_false_iff.mpr c8
          subst c8
          have H1 : (polyglotlaw02_Parse.j1 kj1 a0 false) = some (r1, r2, r3, r4) := by rw [if_neg (show ¬ (false = true) by decide)] at H; exact H
          clear H
          have H := H1
          clear H1
          have H' := Aside0.mk H
          clear H
          go_wp2
          go_meet
          case rel => exact ⟨_, (a0), (by first | rfl | (simp; done) | (simp [*]; done)), H', ⟨by have := HJ1.out; first | omega | exact Nat.le_refl _⟩, ⟨by (with_reducible repeat (first | refine blk_drewN ?_ _ | refine blk_drew ?_ | refine blk_alloc ?_ _)); exact BK184.out⟩, ⟨by repeat (first | (with_reducible first | exact HB.out | apply below_alloc | apply pw_below_drewN | apply below_drew1 | refine below_set ?_ GE184.out) | exact HB.out)⟩⟩
      case rest =>
        clear HC7
        try clear p2
        try clear c3
        try clear c4
        try clear c4b0
        try clear c4b1
        try clear c5
        try clear c5b0
        try clear c5b1
        try clear p6
        try clear q6
        try clear hx6
        try clear qi6
        try clear c8
        try clear c9
        try clear c9b0
        try clear c9b1
        try clear p2
        try clear p6
        try clear q6
        obtain ⟨kq, x0_6, rfl, HA, HJ6, BK184, HB⟩ := hcut
        cases kq with
        | zero => exact absurd HA.out (by simp [polyglotlaw02_Parse.j1])
        | succ kj6 =>
          have H := HA.out
          clear HA
          simp only [polyglotlaw02_Parse.j1] at H
          have H' := Aside0.mk H
          clear H
          go_wp2
          go_loopg [5, 6, 7] kj6 (fun kq v5 v6 v7 w' => ∃ (x5_3 : ByteArray) (x6_3 : Int) (x7_3 : Int) (x185000_3 : Bool) (x185001_3 : ByteArray) (x185002_3 : Int), v5 = .string x5_3 ∧ v6 = .int .i64 x6_3 ∧ v7 = .int .i64 x7_3 ∧ Aside0 (polyglotlaw02_Parse.l0 kq x0_6 x4_1 x5_3 x6_3 x7_3 = some (r1, r2, r3, r4)) ∧ Aside0 (kq ≤ kj6) ∧ Aside0 (w'.heap[gb184]? = some (.cells #[.bool x185000_3, .string x185001_3, .int .i64 x185002_3] 23 (0, 0))) ∧ Aside0 (Below w.heap.size w w'))
          case atStart => exact ⟨((⟨#[]⟩ : ByteArray)), ((-1)), (0), (false), ((⟨#[]⟩ : ByteArray)), (0), (by first | rfl | (simp; done) | (simp [*]; done)), (by first | rfl | (simp; done) | (simp [*]; done)), (by first | rfl | (simp; done) | (simp [*]; done)), H', ⟨Nat.le_refl _⟩, ⟨by (with_reducible repeat (first | refine blk_drewN ?_ _ | refine blk_drew ?_ | refine blk_alloc ?_ _)); exact BK184.out⟩, ⟨by repeat (first | (with_reducible first | exact HB.out | apply below_alloc | apply pw_below_drewN | apply below_drew1 | refine below_set ?_ GE184.out) | exact HB.out)⟩⟩
          case round =>
            clear H'
            try clear p2
            try clear c3
            try clear c4
            try clear c4b0
            try clear c4b1
            try clear c5
            try clear c5b0
            try clear c5b1
            try clear p6
            try clear q6
            try clear hx6
            try clear qi6
            try clear c8
            try clear c9
            try clear c9b0
            try clear c9b1
            try clear p2
            try clear p6
            try clear q6
            obtain ⟨x5_3, x6_3, x7_3, x185000_3, x185001_3, x185002_3, rfl, rfl, rfl, HA, HK3, BK184, HB⟩ := hrel
            cases gk with
            | zero => exact absurd HA.out (by simp [polyglotlaw02_Parse.l0])
            | succ k3 =>
              have H := HA.out
              clear HA
              simp only [polyglotlaw02_Parse.l0] at H
              by_cases c10 : x7_3 < (x0_6.size : Int)
              · rw [if_pos c10] at H
                have c10b0 : decide (x7_3 < (x0_6.size : Int)) = true := decide_eq_true c10
                clear c10
                by_cases c11 : 0 ≤ x7_3
                · rw [if_pos c11] at H
                  have c11b0 : decide (0 ≤ x7_3) = true := decide_eq_true c11
                  clear c11
                  replace H := Option.bind_eq_some_iff.mp H
                  obtain ⟨t185, A130, H⟩ := H
                  replace H : (if t185 = true then (if x7_3 ≤ (wrap64 (x7_3 + 1)) then (if (wrap64 (x7_3 + 1)) ≤ (x0_6.size : Int) then (if x5_3.size + (x0_6.extract (x7_3 : Int).toNat ((wrap64 (x7_3 + 1)) : Int).toNat).size ≤ 9223372036854775807 then (polyglotlaw02_Parse.l0 k3 x0_6 x4_1 (x5_3 ++ (x0_6.extract (x7_3 : Int).toNat ((wrap64 (x7_3 + 1)) : Int).toNat)) x6_3 (wrap64 (x7_3 + 1))) else (none)) else (none)) else (none)) else (if (bt x0_6 x7_3) = 46 then (if x6_3 < 0 then (if x7_3 > 0 then (if (wrap64 (x7_3 + 1)) < (x0_6.size : Int) then (polyglotlaw02_Parse.l0 k3 x0_6 x4_1 x5_3 x7_3 (wrap64 (x7_3 + 1))) else (some (false, (⟨#[]⟩ : ByteArray), 0, false))) else (some (false, (⟨#[]⟩ : ByteArray), 0, false))) else (some (false, (⟨#[]⟩ : ByteArray), 0, false))) else (some (false, (⟨#[]⟩ : ByteArray), 0, false)))) = some (r1, r2, r3, r4) := H
                  have A13 := Aside0.mk A130
                  clear A130
                  by_cases c14 : t185 = true
                  · subst c14
                    have H1 : (if x7_3 ≤ (wrap64 (x7_3 + 1)) then (if (wrap64 (x7_3 + 1)) ≤ (x0_6.size : Int) then (if x5_3.size + (x0_6.extract (x7_3 : Int).toNat ((wrap64 (x7_3 + 1)) : Int).toNat).size ≤ 9223372036854775807 then (polyglotlaw02_Parse.l0 k3 x0_6 x4_1 (x5_3 ++ (x0_6.extract (x7_3 : Int).toNat ((wrap64 (x7_3 + 1)) : Int).toNat)) x6_3 (wrap64 (x7_3 + 1))) else (none)) else (none)) else (none)) = some (r1, r2, r3, r4) := by rw [if_pos rfl] at H; exact H
                    clear H
                    have H := H1
                    clear H1
                    have c15b0 := eq_true (of_decide_eq_true (by first | (with_reducible assumption) | assumption) : 0 ≤ x7_3)
                    by_cases c16 : x7_3 ≤ (wrap64 (x7_3 + 1))
                    · rw [if_pos c16] at H
                      have c16b0 := eq_true c16
                      have c16b1 : decide (x7_3 ≤ (wrap64 (x7_3 + 1))) = true := decide_eq_true c16
                      by_cases c17 : (wrap64 (x7_3 + 1)) ≤ (x0_6.size : Int)
                      · rw [if_pos c17] at H
                        have c17b0 := eq_true c17
                        have c17b1 : decide ((wrap64 (x7_3 + 1)) ≤ (x0_6.size : Int)) = true := decide_eq_true c17
                        by_cases c18 : x5_3.size + (x0_6.extract (x7_3 : Int).toNat ((wrap64 (x7_3 + 1)) : Int).toNat).size ≤ 9223372036854775807
                        · rw [if_pos c18] at H
                          have c18b0 := eq_true c18
                          have c18b1 : decide (x5_3.size + (x0_6.extract (x7_3 : Int).toNat ((wrap64 (x7_3 + 1)) : Int).toNat).size ≤ 9223372036854775807) = true := decide_eq_true c18
                          try have c18b2 : (9223372036854775807 < x5_3.size + (x0_6.extract (x7_3 : Int).toNat ((wrap64 (x7_3 + 1)) : Int).toNat).size) = False := eq_false (Nat.not_lt.2 c18)
                          have H' := Aside0.mk H
                          clear H
                          have p12 : 0 ≤ (x7_3 : Int) := of_decide_eq_true (by first | (with_reducible assumption) | assumption)
                          have q12 : x7_3 < (x0_6.size : Int) := of_decide_eq_true (by first | (with_reducible assumption) | assumption)
                          have hx12 := bt_at x0_6 x7_3
                          replace p12 := eq_true p12
                          replace q12 := eq_true q12
                          go_wp2_with (first | ((with_reducible refine gate_callee (f := 35) rfl ?_); refine goesL_ (some 31) rfl rfl Tryd.func35 (by kernel_rfl) rfl #[.int .u8 (bt x0_6 x7_3)] rfl (by (try simp only [List.map_toArray, List.map_cons, List.map_nil]); first | done | rfl | (simp only [List.length_drop, List.length_take]; rfl)) ?_; (with_reducible refine (polyglotlaw02_digit.calls (bt x0_6 x7_3) true _ A13.out).mono ?_); rintro e w' ⟨rfl, ⟨nd, rfl⟩⟩; refine ⟨_, rfl, ?_⟩))
                          go_roundg k3
                          case measure => have := HJ1.out; have := HJ6.out; have := HK3.out; omega
                          case rel => exact ⟨(x5_3 ++ (x0_6.extract (x7_3 : Int).toNat ((wrap64 (x7_3 + 1)) : Int).toNat)), (x6_3), (wrap64 (x7_3 + 1)), (x185000_3), (x185001_3), (x185002_3), (by first | rfl | (simp; done) | (simp [*]; done)), (by first | rfl | (simp; done) | (simp [*]; done)), (by first | rfl | (simp; done) | (simp [*]; done)), H', ⟨by have := HJ1.out; have := HJ6.out; have := HK3.out; omega⟩, ⟨by (with_reducible repeat (first | refine blk_drewN ?_ _ | refine blk_drew ?_ | refine blk_alloc ?_ _)); exact BK184.out⟩, ⟨by repeat (first | (with_reducible first | exact HB.out | apply below_alloc | apply pw_below_drewN | apply below_drew1 | refine below_set ?_ GE184.out) | exact HB.out)⟩⟩
                        · rw [if_neg c18] at H
                          exact absurd H (by simp)
                      · rw [if_neg c17] at H
                        exact absurd H (by simp)
                    · rw [if_neg c16] at H
                      exact absurd H (by simp)
                  · replace c14 := Bool.eq_false_iff.mpr c14
                    subst c14
                    have H1 : (if (bt x0_6 x7_3) = 46 then (if x6_3 < 0 then (if x7_3 > 0 then (if (wrap64 (x7_3 + 1)) < (x0_6.size : Int) then (polyglotlaw02_Parse.l0 k3 x0_6 x4_1 x5_3 x7_3 (wrap64 (x7_3 + 1))) else (some (false, (⟨#[]⟩ : ByteArray), 0, false))) else (some (false, (⟨#[]⟩ : ByteArray), 0, false))) else (some (false, (⟨#[]⟩ : ByteArray), 0, false))) else (some (false, (⟨#[]⟩ : ByteArray), 0, false))) = some (r1, r2, r3, r4) := by rw [if_neg (show ¬ (false = true) by decide)] at H; exact H
                    clear H
                    have H := H1
                    clear H1
                    by_cases c20 : (bt x0_6 x7_3) = 46
                    · rw [if_pos c20] at H
                      have c20b0 : ((bt x0_6 x7_3) == 46) = true := beq_iff_eq.mpr c20
                      have c20b1 : ((bt x0_6 x7_3) != 46) = false := bne_eq_false_iff_eq.mpr c20
                      clear c20
                      by_cases c21 : x6_3 < 0
                      · rw [if_pos c21] at H
                        have c21b0 : decide (x6_3 < 0) = true := decide_eq_true c21
                        clear c21
                        by_cases c22 : x7_3 > 0
                        · rw [if_pos c22] at H
                          have c22b0 : decide (0 < x7_3) = true := decide_eq_true c22
                          clear c22
                          by_cases c23 : (wrap64 (x7_3 + 1)) < (x0_6.size : Int)
                          · rw [if_pos c23] at H
                            have c23b0 : decide ((wrap64 (x7_3 + 1)) < (x0_6.size : Int)) = true := decide_eq_true c23
                            clear c23
                            have H' := Aside0.mk H
                            clear H
                            have p12 : 0 ≤ (x7_3 : Int) := of_decide_eq_true (by first | (with_reducible assumption) | assumption)
                            have q12 : x7_3 < (x0_6.size : Int) := of_decide_eq_true (by first | (with_reducible assumption) | assumption)
                            have hx12 := bt_at x0_6 x7_3
                            replace p12 := eq_true p12
                            replace q12 := eq_true q12
                            go_wp2_with (first | ((with_reducible refine gate_callee (f := 35) rfl ?_); refine goesL_ (some 31) rfl rfl Tryd.func35 (by kernel_rfl) rfl #[.int .u8 (bt x0_6 x7_3)] rfl (by (try simp only [List.map_toArray, List.map_cons, List.map_nil]); first | done | rfl | (simp only [List.length_drop, List.length_take]; rfl)) ?_; (with_reducible refine (polyglotlaw02_digit.calls (bt x0_6 x7_3) false _ A13.out).mono ?_); rintro e w' ⟨rfl, ⟨nd, rfl⟩⟩; refine ⟨_, rfl, ?_⟩; have p19 : 0 ≤ (x7_3 : Int) := of_decide_eq_true (by first | (with_reducible assumption) | assumption); have q19 : x7_3 < (x0_6.size : Int) := of_decide_eq_true (by first | (with_reducible assumption) | assumption); have hx19 := bt_at x0_6 x7_3; replace p19 := eq_true p19; replace q19 := eq_true q19))
                            go_roundg k3
                            case measure => have := HJ1.out; have := HJ6.out; have := HK3.out; omega
                            case rel => exact ⟨(x5_3), (x7_3), (wrap64 (x7_3 + 1)), (x185000_3), (x185001_3), (x185002_3), (by first | rfl | (simp; done) | (simp [*]; done)), (by first | rfl | (simp; done) | (simp [*]; done)), (by first | rfl | (simp; done) | (simp [*]; done)), H', ⟨by have := HJ1.out; have := HJ6.out; have := HK3.out; omega⟩, ⟨by (with_reducible repeat (first | refine blk_drewN ?_ _ | refine blk_drew ?_ | refine blk_alloc ?_ _)); exact BK184.out⟩, ⟨by repeat (first | (with_reducible first | exact HB.out | apply below_alloc | apply pw_below_drewN | apply below_drew1 | refine below_set ?_ GE184.out) | exact HB.out)⟩⟩
                          · rw [if_neg c23] at H
                            have c23b0 : decide ((wrap64 (x7_3 + 1)) < (x0_6.size : Int)) = false := decide_eq_false c23
                            clear c23
                            simp only [Option.some.injEq, Prod.mk.injEq] at H
                            obtain ⟨rfl, rfl, rfl, rfl⟩ := H
                            have p12 : 0 ≤ (x7_3 : Int) := of_decide_eq_true (by first | (with_reducible assumption) | assumption)
                            have q12 : x7_3 < (x0_6.size : Int) := of_decide_eq_true (by first | (with_reducible assumption) | assumption)
                            have hx12 := bt_at x0_6 x7_3
                            replace p12 := eq_true p12
                            replace q12 := eq_true q12
                            go_wp2_with (first | ((with_reducible refine gate_callee (f := 35) rfl ?_); refine goesL_ (some 31) rfl rfl Tryd.func35 (by kernel_rfl) rfl #[.int .u8 (bt x0_6 x7_3)] rfl (by (try simp only [List.map_toArray, List.map_cons, List.map_nil]); first | done | rfl | (simp only [List.length_drop, List.length_take]; rfl)) ?_; (with_reducible refine (polyglotlaw02_digit.calls (bt x0_6 x7_3) false _ A13.out).mono ?_); rintro e w' ⟨rfl, ⟨nd, rfl⟩⟩; refine ⟨_, rfl, ?_⟩; (try (rw [drewN_self wr]; generalize hq_ : World.drewN wr _ = wr; have n0_ : Aside0 (wr.heap[gb184]? = some (.cells #[.bool x185000_3, .string x185001_3, .int .i64 x185002_3] 23 (0, 0))) := ⟨by rw [← hq_]; exact (by (with_reducible repeat (first | refine blk_drewN ?_ _ | refine blk_drew ?_ | refine blk_alloc ?_ _)); exact BK184.out)⟩; have n1_ : Aside0 (Below w.heap.size w wr) := ⟨by rw [← hq_]; exact (by repeat (first | (with_reducible first | exact HB.out | apply below_alloc | apply pw_below_drewN | apply below_drew1 | refine below_set ?_ GE184.out) | exact HB.out))⟩; clear BK184 HB hq_; have BK184 := n0_; have HB := n1_; clear n0_ n1_)); have p19 : 0 ≤ (x7_3 : Int) := of_decide_eq_true (by first | (with_reducible assumption) | assumption); have q19 : x7_3 < (x0_6.size : Int) := of_decide_eq_true (by first | (with_reducible assumption) | assumption); have hx19 := bt_at x0_6 x7_3; replace p19 := eq_true p19; replace q19 := eq_true q19; have hcz24_0 : wr.cell? ⟨gb184, 0, none⟩ = some (.bool x185000_3) := (blk_cell BK184.out 0).trans rfl; have hcz24_1 : wr.cell? ⟨gb184, 1, none⟩ = some (.string x185001_3) := (blk_cell BK184.out 1).trans rfl; have hcz24_2 : wr.cell? ⟨gb184, 2, none⟩ = some (.int .i64 x185002_3) := (blk_cell BK184.out 2).trans rfl; have hfz24_0 := blk_frozen BK184.out 0; have hfz24_1 := blk_frozen BK184.out 1; have hfz24_2 := blk_frozen BK184.out 2))
                            refine bodyPost_ret (results_ct rfl _ _ gb184 23 #[.bool false, .string (⟨#[]⟩ : ByteArray), .int .i64 0] (0, 0) _ rfl (by (with_reducible repeat (first | refine blk_drewN ?_ _ | refine blk_drew ?_ | refine blk_alloc ?_ _)); refine blk_put (cs := #[.bool false, .string (⟨#[]⟩ : ByteArray), .int .i64 x185002_3]) ?_ 2 _ rfl; (with_reducible repeat (first | refine blk_drewN ?_ _ | refine blk_drew ?_ | refine blk_alloc ?_ _)); refine blk_put (cs := #[.bool false, .string x185001_3, .int .i64 x185002_3]) ?_ 1 _ rfl; (with_reducible repeat (first | refine blk_drewN ?_ _ | refine blk_drew ?_ | refine blk_alloc ?_ _)); refine blk_put (cs := #[.bool x185000_3, .string x185001_3, .int .i64 x185002_3]) ?_ 0 _ rfl; (with_reducible repeat (first | refine blk_drewN ?_ _ | refine blk_drew ?_ | refine blk_alloc ?_ _)); exact BK184.out) Tryd.underlying23 rfl (by kernel_rfl)) rfl ?_
                            exact ⟨by first | rfl | (simp [errW_none, errW_some] <;> rfl) | (simp [*, errW_none, errW_some] <;> rfl), by repeat (first | (with_reducible first | exact HB.out | apply below_alloc | apply pw_below_drewN | apply below_drew1 | refine below_set ?_ GE184.out) | exact HB.out)⟩
                        · rw [if_neg c22] at H
                          have c22b0 : decide (0 < x7_3) = false := decide_eq_false c22
                          clear c22
                          simp only [Option.some.injEq, Prod.mk.injEq] at H
                          obtain ⟨rfl, rfl, rfl, rfl⟩ := H
                          have p12 : 0 ≤ (x7_3 : Int) := of_decide_eq_true (by first | (with_reducible assumption) | assumption)
                          have q12 : x7_3 < (x0_6.size : Int) := of_decide_eq_true (by first | (with_reducible assumption) | assumption)
                          have hx12 := bt_at x0_6 x7_3
                          replace p12 := eq_true p12
                          replace q12 := eq_true q12
                          go_wp2_with (first | ((with_reducible refine gate_callee (f := 35) rfl ?_); refine goesL_ (some 31) rfl rfl Tryd.func35 (by kernel_rfl) rfl #[.int .u8 (bt x0_6 x7_3)] rfl (by (try simp only [List.map_toArray, List.map_cons, List.map_nil]); first | done | rfl | (simp only [List.length_drop, List.length_take]; rfl)) ?_; (with_reducible refine (polyglotlaw02_digit.calls (bt x0_6 x7_3) false _ A13.out).mono ?_); rintro e w' ⟨rfl, ⟨nd, rfl⟩⟩; refine ⟨_, rfl, ?_⟩; (try (rw [drewN_self wr]; generalize hq_ : World.drewN wr _ = wr; have n0_ : Aside0 (wr.heap[gb184]? = some (.cells #[.bool x185000_3, .string x185001_3, .int .i64 x185002_3] 23 (0, 0))) := ⟨by rw [← hq_]; exact (by (with_reducible repeat (first | refine blk_drewN ?_ _ | refine blk_drew ?_ | refine blk_alloc ?_ _)); exact BK184.out)⟩; have n1_ : Aside0 (Below w.heap.size w wr) := ⟨by rw [← hq_]; exact (by repeat (first | (with_reducible first | exact HB.out | apply below_alloc | apply pw_below_drewN | apply below_drew1 | refine below_set ?_ GE184.out) | exact HB.out))⟩; clear BK184 HB hq_; have BK184 := n0_; have HB := n1_; clear n0_ n1_)); have p19 : 0 ≤ (x7_3 : Int) := of_decide_eq_true (by first | (with_reducible assumption) | assumption); have q19 : x7_3 < (x0_6.size : Int) := of_decide_eq_true (by first | (with_reducible assumption) | assumption); have hx19 := bt_at x0_6 x7_3; replace p19 := eq_true p19; replace q19 := eq_true q19; have hcz25_0 : wr.cell? ⟨gb184, 0, none⟩ = some (.bool x185000_3) := (blk_cell BK184.out 0).trans rfl; have hcz25_1 : wr.cell? ⟨gb184, 1, none⟩ = some (.string x185001_3) := (blk_cell BK184.out 1).trans rfl; have hcz25_2 : wr.cell? ⟨gb184, 2, none⟩ = some (.int .i64 x185002_3) := (blk_cell BK184.out 2).trans rfl; have hfz25_0 := blk_frozen BK184.out 0; have hfz25_1 := blk_frozen BK184.out 1; have hfz25_2 := blk_frozen BK184.out 2))
                          refine bodyPost_ret (results_ct rfl _ _ gb184 23 #[.bool false, .string (⟨#[]⟩ : ByteArray), .int .i64 0] (0, 0) _ rfl (by (with_reducible repeat (first | refine blk_drewN ?_ _ | refine blk_drew ?_ | refine blk_alloc ?_ _)); refine blk_put (cs := #[.bool false, .string (⟨#[]⟩ : ByteArray), .int .i64 x185002_3]) ?_ 2 _ rfl; (with_reducible repeat (first | refine blk_drewN ?_ _ | refine blk_drew ?_ | refine blk_alloc ?_ _)); refine blk_put (cs := #[.bool false, .string x185001_3, .int .i64 x185002_3]) ?_ 1 _ rfl; (with_reducible repeat (first | refine blk_drewN ?_ _ | refine blk_drew ?_ | refine blk_alloc ?_ _)); refine blk_put (cs := #[.bool x185000_3, .string x185001_3, .int .i64 x185002_3]) ?_ 0 _ rfl; (with_reducible repeat (first | refine blk_drewN ?_ _ | refine blk_drew ?_ | refine blk_alloc ?_ _)); exact BK184.out) Tryd.underlying23 rfl (by kernel_rfl)) rfl ?_
                          exact ⟨by first | rfl | (simp [errW_none, errW_some] <;> rfl) | (simp [*, errW_none, errW_some] <;> rfl), by repeat (first | (with_reducible first | exact HB.out | apply below_alloc | apply pw_below_drewN | apply below_drew1 | refine below_set ?_ GE184.out) | exact HB.out)⟩
                      · rw [if_neg c21] at H
                        have c21b0 : decide (x6_3 < 0) = false := decide_eq_false c21
                        clear c21
                        simp only [Option.some.injEq, Prod.mk.injEq] at H
                        obtain ⟨rfl, rfl, rfl, rfl⟩ := H
                        have p12 : 0 ≤ (x7_3 : Int) := of_decide_eq_true (by first | (with_reducible assumption) | assumption)
                        have q12 : x7_3 < (x0_6.size : Int) := of_decide_eq_true (by first | (with_reducible assumption) | assumption)
                        have hx12 := bt_at x0_6 x7_3
                        replace p12 := eq_true p12
                        replace q12 := eq_true q12
                        go_wp2_with (first | ((with_reducible refine gate_callee (f := 35) rfl ?_); refine goesL_ (some 31) rfl rfl Tryd.func35 (by kernel_rfl) rfl #[.int .u8 (bt x0_6 x7_3)] rfl (by (try simp only [List.map_toArray, List.map_cons, List.map_nil]); first | done | rfl | (simp only [List.length_drop, List.length_take]; rfl)) ?_; (with_reducible refine (polyglotlaw02_digit.calls (bt x0_6 x7_3) false _ A13.out).mono ?_); rintro e w' ⟨rfl, ⟨nd, rfl⟩⟩; refine ⟨_, rfl, ?_⟩; (try (rw [drewN_self wr]; generalize hq_ : World.drewN wr _ = wr; have n0_ : Aside0 (wr.heap[gb184]? = some (.cells #[.bool x185000_3, .string x185001_3, .int .i64 x185002_3] 23 (0, 0))) := ⟨by rw [← hq_]; exact (by (with_reducible repeat (first | refine blk_drewN ?_ _ | refine blk_drew ?_ | refine blk_alloc ?_ _)); exact BK184.out)⟩; have n1_ : Aside0 (Below w.heap.size w wr) := ⟨by rw [← hq_]; exact (by repeat (first | (with_reducible first | exact HB.out | apply below_alloc | apply pw_below_drewN | apply below_drew1 | refine below_set ?_ GE184.out) | exact HB.out))⟩; clear BK184 HB hq_; have BK184 := n0_; have HB := n1_; clear n0_ n1_)); have p19 : 0 ≤ (x7_3 : Int) := of_decide_eq_true (by first | (with_reducible assumption) | assumption); have q19 : x7_3 < (x0_6.size : Int) := of_decide_eq_true (by first | (with_reducible assumption) | assumption); have hx19 := bt_at x0_6 x7_3; replace p19 := eq_true p19; replace q19 := eq_true q19; have hcz26_0 : wr.cell? ⟨gb184, 0, none⟩ = some (.bool x185000_3) := (blk_cell BK184.out 0).trans rfl; have hcz26_1 : wr.cell? ⟨gb184, 1, none⟩ = some (.string x185001_3) := (blk_cell BK184.out 1).trans rfl; have hcz26_2 : wr.cell? ⟨gb184, 2, none⟩ = some (.int .i64 x185002_3) := (blk_cell BK184.out 2).trans rfl; have hfz26_0 := blk_frozen BK184.out 0; have hfz26_1 := blk_frozen BK184.out 1; have hfz26_2 := blk_frozen BK184.out 2))
                        refine bodyPost_ret (results_ct rfl _ _ gb184 23 #[.bool false, .string (⟨#[]⟩ : ByteArray), .int .i64 0] (0, 0) _ rfl (by (with_reducible repeat (first | refine blk_drewN ?_ _ | refine blk_drew ?_ | refine blk_alloc ?_ _)); refine blk_put (cs := #[.bool false, .string (⟨#[]⟩ : ByteArray), .int .i64 x185002_3]) ?_ 2 _ rfl; (with_reducible repeat (first | refine blk_drewN ?_ _ | refine blk_drew ?_ | refine blk_alloc ?_ _)); refine blk_put (cs := #[.bool false, .string x185001_3, .int .i64 x185002_3]) ?_ 1 _ rfl; (with_reducible repeat (first | refine blk_drewN ?_ _ | refine blk_drew ?_ | refine blk_alloc ?_ _)); refine blk_put (cs := #[.bool x185000_3, .string x185001_3, .int .i64 x185002_3]) ?_ 0 _ rfl; (with_reducible repeat (first | refine blk_drewN ?_ _ | refine blk_drew ?_ | refine blk_alloc ?_ _)); exact BK184.out) Tryd.underlying23 rfl (by kernel_rfl)) rfl ?_
                        exact ⟨by first | rfl | (simp [errW_none, errW_some] <;> rfl) | (simp [*, errW_none, errW_some] <;> rfl), by repeat (first | (with_reducible first | exact HB.out | apply below_alloc | apply pw_below_drewN | apply below_drew1 | refine below_set ?_ GE184.out) | exact HB.out)⟩
                    · rw [if_neg c20] at H
                      have c20b0 : ((bt x0_6 x7_3) == 46) = false := beq_eq_false_iff_ne.mpr c20
                      have c20b1 : ((bt x0_6 x7_3) != 46) = true := bne_iff_ne.mpr c20
                      simp only [Option.some.injEq, Prod.mk.injEq] at H
                      obtain ⟨rfl, rfl, rfl, rfl⟩ := H
                      have p12 : 0 ≤ (x7_3 : Int) := of_decide_eq_true (by first | (with_reducible assumption) | assumption)
                      have q12 : x7_3 < (x0_6.size : Int) := of_decide_eq_true (by first | (with_reducible assumption) | assumption)
                      have hx12 := bt_at x0_6 x7_3
                      replace p12 := eq_true p12
                      replace q12 := eq_true q12
                      go_wp2_with (first | ((with_reducible refine gate_callee (f := 35) rfl ?_); refine goesL_ (some 31) rfl rfl Tryd.func35 (by kernel_rfl) rfl #[.int .u8 (bt x0_6 x7_3)] rfl (by (try simp only [List.map_toArray, List.map_cons, List.map_nil]); first | done | rfl | (simp only [List.length_drop, List.length_take]; rfl)) ?_; (with_reducible refine (polyglotlaw02_digit.calls (bt x0_6 x7_3) false _ A13.out).mono ?_); rintro e w' ⟨rfl, ⟨nd, rfl⟩⟩; refine ⟨_, rfl, ?_⟩; (try (rw [drewN_self wr]; generalize hq_ : World.drewN wr _ = wr; have n0_ : Aside0 (wr.heap[gb184]? = some (.cells #[.bool x185000_3, .string x185001_3, .int .i64 x185002_3] 23 (0, 0))) := ⟨by rw [← hq_]; exact (by (with_reducible repeat (first | refine blk_drewN ?_ _ | refine blk_drew ?_ | refine blk_alloc ?_ _)); exact BK184.out)⟩; have n1_ : Aside0 (Below w.heap.size w wr) := ⟨by rw [← hq_]; exact (by repeat (first | (with_reducible first | exact HB.out | apply below_alloc | apply pw_below_drewN | apply below_drew1 | refine below_set ?_ GE184.out) | exact HB.out))⟩; clear BK184 HB hq_; have BK184 := n0_; have HB := n1_; clear n0_ n1_)); have p19 : 0 ≤ (x7_3 : Int) := of_decide_eq_true (by first | (with_reducible assumption) | assumption); have q19 : x7_3 < (x0_6.size : Int) := of_decide_eq_true (by first | (with_reducible assumption) | assumption); have hx19 := bt_at x0_6 x7_3; replace p19 := eq_true p19; replace q19 := eq_true q19; have hcz27_0 : wr.cell? ⟨gb184, 0, none⟩ = some (.bool x185000_3) := (blk_cell BK184.out 0).trans rfl; have hcz27_1 : wr.cell? ⟨gb184, 1, none⟩ = some (.string x185001_3) := (blk_cell BK184.out 1).trans rfl; have hcz27_2 : wr.cell? ⟨gb184, 2, none⟩ = some (.int .i64 x185002_3) := (blk_cell BK184.out 2).trans rfl; have hfz27_0 := blk_frozen BK184.out 0; have hfz27_1 := blk_frozen BK184.out 1; have hfz27_2 := blk_frozen BK184.out 2))
                      refine bodyPost_ret (results_ct rfl _ _ gb184 23 #[.bool false, .string (⟨#[]⟩ : ByteArray), .int .i64 0] (0, 0) _ rfl (by (with_reducible repeat (first | refine blk_drewN ?_ _ | refine blk_drew ?_ | refine blk_alloc ?_ _)); refine blk_put (cs := #[.bool false, .string (⟨#[]⟩ : ByteArray), .int .i64 x185002_3]) ?_ 2 _ rfl; (with_reducible repeat (first | refine blk_drewN ?_ _ | refine blk_drew ?_ | refine blk_alloc ?_ _)); refine blk_put (cs := #[.bool false, .string x185001_3, .int .i64 x185002_3]) ?_ 1 _ rfl; (with_reducible repeat (first | refine blk_drewN ?_ _ | refine blk_drew ?_ | refine blk_alloc ?_ _)); refine blk_put (cs := #[.bool x185000_3, .string x185001_3, .int .i64 x185002_3]) ?_ 0 _ rfl; (with_reducible repeat (first | refine blk_drewN ?_ _ | refine blk_drew ?_ | refine blk_alloc ?_ _)); exact BK184.out) Tryd.underlying23 rfl (by kernel_rfl)) rfl ?_
                      exact ⟨by first | rfl | (simp [errW_none, errW_some] <;> rfl) | (simp [*, errW_none, errW_some] <;> rfl), by repeat (first | (with_reducible first | exact HB.out | apply below_alloc | apply pw_below_drewN | apply below_drew1 | refine below_set ?_ GE184.out) | exact HB.out)⟩
                · rw [if_neg c11] at H
                  exact absurd H (by simp)
              · rw [if_neg c10] at H
                have c10b0 : decide (x7_3 < (x0_6.size : Int)) = false := decide_eq_false c10
                clear c10
                have HC28 := Aside0.mk H
                clear H
                go_upto_region 14 with (fail)
                go_cut [67] (fun v67 wc => ∃ (kq : Nat) (x67_27 : Bool), v67 = .bool x67_27 ∧ Aside0 (polyglotlaw02_Parse.j3 kq x0_6 x4_1 x5_3 x6_3 x67_27 = some (r1, r2, r3, r4)) ∧ Aside0 (kq ≤ k3) ∧ Aside0 (wc.heap[gb184]? = some (.cells #[.bool x185000_3, .string x185001_3, .int .i64 x185002_3] 23 (0, 0))) ∧ Aside0 (Below w.heap.size w wc))
                case first =>
                  have H := HC28.out
                  clear HC28
                  by_cases c29 : (x5_3.size : Int) = 0
                  · rw [if_pos c29] at H
                    have c29b0 : ((x5_3.size : Int) == 0) = true := beq_iff_eq.mpr c29
                    have c29b1 : ((x5_3.size : Int) != 0) = false := bne_eq_false_iff_eq.mpr c29
                    clear c29
                    (first | rw [c29b0] | (simp only [i64_w, i32_w]; rw [c29b0]) | skip)
                    have H' := Aside0.mk H
                    clear H
                    go_wp2
                    go_meet
                    case rel => exact ⟨_, (true), (by first | rfl | (simp; done) | (simp [*]; done)), H', ⟨by have := HJ1.out; have := HJ6.out; have := HK3.out; first | omega | exact Nat.le_refl _⟩, ⟨by (with_reducible repeat (first | refine blk_drewN ?_ _ | refine blk_drew ?_ | refine blk_alloc ?_ _)); exact BK184.out⟩, ⟨by repeat (first | (with_reducible first | exact HB.out | apply below_alloc | apply pw_below_drewN | apply below_drew1 | refine below_set ?_ GE184.out) | exact HB.out)⟩⟩
                  · rw [if_neg c29] at H
                    have c29b0 : ((x5_3.size : Int) == 0) = false := beq_eq_false_iff_ne.mpr c29
                    have c29b1 : ((x5_3.size : Int) != 0) = true := bne_iff_ne.mpr c29
                    (first | rw [c29b0] | (simp only [i64_w, i32_w]; rw [c29b0]) | skip)
                    have H' := Aside0.mk H
                    clear H
                    go_wp2
                    go_meet
                    case rel => exact ⟨_, (decide ((x5_3.size : Int) > 40)), (by first | rfl | (simp; done) | (simp [*]; done)), H', ⟨by have := HJ1.out; have := HJ6.out; have := HK3.out; first | omega | exact Nat.le_refl _⟩, ⟨by (with_reducible repeat (first | refine blk_drewN ?_ _ | refine blk_drew ?_ | refine blk_alloc ?_ _)); exact BK184.out⟩, ⟨by repeat (first | (with_reducible first | exact HB.out | apply below_alloc | apply pw_below_drewN | apply below_drew1 | refine below_set ?_ GE184.out) | exact HB.out)⟩⟩
                case rest =>
                  clear HC28
                  try clear c1
                  try clear p1
                  try clear q1
                  try clear hx1
                  try clear c2
                  try clear p2
                  try clear c3
                  try clear c4
                  try clear c4b0
                  try clear c4b1
                  try clear c5
                  try clear c5b0
                  try clear c5b1
                  try clear p6
                  try clear q6
                  try clear hx6
                  try clear qi6
                  try clear c8
                  try clear c9
                  try clear c9b0
                  try clear c9b1
                  try clear c10
                  try clear c10b0
                  try clear c11
                  try clear c11b0
                  try clear p12
                  try clear q12
                  try clear hx12
                  try clear c14
                  try clear c15
                  try clear c15b0
                  try clear c16
                  try clear c16b0
                  try clear c16b1
                  try clear c17
                  try clear c17b0
                  try clear c17b1
                  try clear c18
                  try clear c18b0
                  try clear c18b1
                  try clear c18b2
                  try clear p19
                  try clear q19
                  try clear hx19
                  try clear c20
                  try clear c20b0
                  try clear c20b1
                  try clear c21
                  try clear c21b0
                  try clear c22
                  try clear c22b0
                  try clear c23
                  try clear c23b0
                  try clear c29
                  try clear c29b0
                  try clear c29b1
                  try clear hcz24_0
                  try clear hcz24_1
                  try clear hcz24_2
                  try clear hcz25_0
                  try clear hcz25_1
                  try clear hcz25_2
                  try clear hcz26_0
                  try clear hcz26_1
                  try clear hcz26_2
                  try clear hcz27_0
                  try clear hcz27_1
                  try clear hcz27_2
                  try clear hfz24_0
                  try clear hfz24_1
                  try clear hfz24_2
                  try clear hfz25_0
                  try clear hfz25_1
                  try clear hfz25_2
                  try clear hfz26_0
                  try clear hfz26_1
                  try clear hfz26_2
                  try clear hfz27_0
                  try clear hfz27_1
                  try clear hfz27_2
                  try clear p12
                  try clear p19
                  try clear p2
                  try clear p6
                  try clear q12
                  try clear q19
                  try clear q6
                  obtain ⟨kq, x67_27, rfl, HA, HJ27, BK184, HB⟩ := hcut
                  cases kq with
                  | zero => exact absurd HA.out (by simp [polyglotlaw02_Parse.j3])
                  | succ kj27 =>
                    have H := HA.out
                    clear HA
                    simp only [polyglotlaw02_Parse.j3] at H
                    by_cases c30 : x67_27 = true
                    · subst c30
                      have H1 : (some (false, (⟨#[]⟩ : ByteArray), 0, false)) = some (r1, r2, r3, r4) := by rw [if_pos rfl] at H; exact H
                      clear H
                      have H := H1
                      clear H1
                      simp only [Option.some.injEq, Prod.mk.injEq] at H
                      obtain ⟨rfl, rfl, rfl, rfl⟩ := H
                      have hcz31_0 : wc.cell? ⟨gb184, 0, none⟩ = some (.bool x185000_3) := (blk_cell BK184.out 0).trans rfl
                      have hcz31_1 : wc.cell? ⟨gb184, 1, none⟩ = some (.string x185001_3) := (blk_cell BK184.out 1).trans rfl
                      have hcz31_2 : wc.cell? ⟨gb184, 2, none⟩ = some (.int .i64 x185002_3) := (blk_cell BK184.out 2).trans rfl
                      have hfz31_0 := blk_frozen BK184.out 0
                      have hfz31_1 := blk_frozen BK184.out 1
                      have hfz31_2 := blk_frozen BK184.out 2
                      go_wp2
                      refine bodyPost_ret (results_ct rfl _ _ gb184 23 #[.bool false, .string (⟨#[]⟩ : ByteArray), .int .i64 0] (0, 0) _ rfl (by (with_reducible repeat (first | refine blk_drewN ?_ _ | refine blk_drew ?_ | refine blk_alloc ?_ _)); refine blk_put (cs := #[.bool false, .string (⟨#[]⟩ : ByteArray), .int .i64 x185002_3]) ?_ 2 _ rfl; (with_reducible repeat (first | refine blk_drewN ?_ _ | refine blk_drew ?_ | refine blk_alloc ?_ _)); refine blk_put (cs := #[.bool false, .string x185001_3, .int .i64 x185002_3]) ?_ 1 _ rfl; (with_reducible repeat (first | refine blk_drewN ?_ _ | refine blk_drew ?_ | refine blk_alloc ?_ _)); refine blk_put (cs := #[.bool x185000_3, .string x185001_3, .int .i64 x185002_3]) ?_ 0 _ rfl; (with_reducible repeat (first | refine blk_drewN ?_ _ | refine blk_drew ?_ | refine blk_alloc ?_ _)); exact BK184.out) Tryd.underlying23 rfl (by kernel_rfl)) rfl ?_
                      exact ⟨by first | rfl | (simp [errW_none, errW_some] <;> rfl) | (simp [*, errW_none, errW_some] <;> rfl), by repeat (first | (with_reducible first | exact HB.out | apply below_alloc | apply pw_below_drewN | apply below_drew1 | refine below_set ?_ GE184.out) | exact HB.out)⟩
                    · replace c30 := Bool.eq_false_iff.mpr c30
                      subst c30
                      have H1 : (if x6_3 ≥ 0 then (polyglotlaw02_Parse.j4 kj27 x4_1 x5_3 (wrap64 ((wrap64 ((x0_6.size : Int) - 1)) - x6_3))) else (polyglotlaw02_Parse.j4 kj27 x4_1 x5_3 0)) = some (r1, r2, r3, r4) := by rw [if_neg (show ¬ (false = true) by decide)] at H; exact H
                      clear H
                      have H := H1
                      clear H1
                      have HC32 := Aside0.mk H
                      clear H
                      go_upto_if 70 with (fail)
                      go_cut [8] (fun v8 wc => ∃ (kq : Nat) (x8_31 : Int), v8 = .int .i64 x8_31 ∧ Aside0 (polyglotlaw02_Parse.j4 kq x4_1 x5_3 x8_31 = some (r1, r2, r3, r4)) ∧ Aside0 (kq ≤ kj27) ∧ Aside0 (wc.heap[gb184]? = some (.cells #[.bool x185000_3, .string x185001_3, .int .i64 x185002_3] 23 (0, 0))) ∧ Aside0 (Below w.heap.size w wc))
                      case first =>
                        have H := HC32.out
                        clear HC32
                        by_cases c33 : x6_3 ≥ 0
                        · rw [if_pos c33] at H
                          have c33b0 : decide (0 ≤ x6_3) = true := decide_eq_true c33
                          clear c33
                          (first | rw [c33b0] | (simp only [i64_w, i32_w]; rw [c33b0]) | skip)
                          have H' := Aside0.mk H
                          clear H
                          go_wp2
                          go_meet
                          case rel => exact ⟨_, (wrap64 ((wrap64 ((x0_6.size : Int) - 1)) - x6_3)), (by first | rfl | (simp; done) | (simp [*]; done)), H', ⟨by have := HJ1.out; have := HJ6.out; have := HK3.out; have := HJ27.out; first | omega | exact Nat.le_refl _⟩, ⟨by (with_reducible repeat (first | refine blk_drewN ?_ _ | refine blk_drew ?_ | refine blk_alloc ?_ _)); exact BK184.out⟩, ⟨by repeat (first | (with_reducible first | exact HB.out | apply below_alloc | apply pw_below_drewN | apply below_drew1 | refine below_set ?_ GE184.out) | exact HB.out)⟩⟩
                        · rw [if_neg c33] at H
                          have c33b0 : decide (0 ≤ x6_3) = false := decide_eq_false c33
                          clear c33
                          (first | rw [c33b0] | (simp only [i64_w, i32_w]; rw [c33b0]) | skip)
                          have H' := Aside0.mk H
                          clear H
                          go_wp2
                          go_meet
                          case rel => exact ⟨_, (0), (by first | rfl | (simp; done) | (simp [*]; done)), H', ⟨by have := HJ1.out; have := HJ6.out; have := HK3.out; have := HJ27.out; first | omega | exact Nat.le_refl _⟩, ⟨by (with_reducible repeat (first | refine blk_drewN ?_ _ | refine blk_drew ?_ | refine blk_alloc ?_ _)); exact BK184.out⟩, ⟨by repeat (first | (with_reducible first | exact HB.out | apply below_alloc | apply pw_below_drewN | apply below_drew1 | refine below_set ?_ GE184.out) | exact HB.out)⟩⟩
                      case rest =>
                        clear HC32
                        try clear c1
                        try clear p1
                        try clear q1
                        try clear hx1
                        try clear c2
                        try clear p2
                        try clear c3
                        try clear c4
                        try clear c4b0
                        try clear c4b1
                        try clear c5
                        try clear c5b0
                        try clear c5b1
                        try clear p6
                        try clear q6
                        try clear hx6
                        try clear qi6
                        try clear c8
                        try clear c9
                        try clear c9b0
                        try clear c9b1
                        try clear c10
                        try clear c10b0
                        try clear c11
                        try clear c11b0
                        try clear p12
                        try clear q12
                        try clear hx12
                        try clear c14
                        try clear c15
                        try clear c15b0
                        try clear c16
                        try clear c16b0
                        try clear c16b1
                        try clear c17
                        try clear c17b0
                        try clear c17b1
                        try clear c18
                        try clear c18b0
                        try clear c18b1
                        try clear c18b2
                        try clear p19
                        try clear q19
                        try clear hx19
                        try clear c20
                        try clear c20b0
                        try clear c20b1
                        try clear c21
                        try clear c21b0
                        try clear c22
                        try clear c22b0
                        try clear c23
                        try clear c23b0
                        try clear c29
                        try clear c29b0
                        try clear c29b1
                        try clear c30
                        try clear c33
                        try clear c33b0
                        try clear hcz24_0
                        try clear hcz24_1
                        try clear hcz24_2
                        try clear hcz25_0
                        try clear hcz25_1
                        try clear hcz25_2
                        try clear hcz26_0
                        try clear hcz26_1
                        try clear hcz26_2
                        try clear hcz27_0
                        try clear hcz27_1
                        try clear hcz27_2
                        try clear hcz31_0
                        try clear hcz31_1
                        try clear hcz31_2
                        try clear hfz24_0
                        try clear hfz24_1
                        try clear hfz24_2
                        try clear hfz25_0
                        try clear hfz25_1
                        try clear hfz25_2
                        try clear hfz26_0
                        try clear hfz26_1
                        try clear hfz26_2
                        try clear hfz27_0
                        try clear hfz27_1
                        try clear hfz27_2
                        try clear hfz31_0
                        try clear hfz31_1
                        try clear hfz31_2
                        try clear p1
                        try clear p12
                        try clear p19
                        try clear p2
                        try clear p6
                        try clear q1
                        try clear q12
                        try clear q19
                        try clear q6
                        obtain ⟨kq, x8_31, rfl, HA, HJ31, BK184, HB⟩ := hcut
                        cases kq with
                        | zero => exact absurd HA.out (by simp [polyglotlaw02_Parse.j4])
                        | succ kj31 =>
                          have H := HA.out
                          clear HA
                          simp only [polyglotlaw02_Parse.j4] at H
                          have H' := Aside0.mk H
                          clear H
                          go_wp2
                          go_loopg [5] kj31 (fun kq v5 w' => ∃ (x5_6 : ByteArray), v5 = .string x5_6 ∧ Aside0 (polyglotlaw02_Parse.l1 kq x4_1 x5_6 x8_31 = some (r1, r2, r3, r4)) ∧ Aside0 (kq ≤ kj31) ∧ Aside0 (w'.heap[gb184]? = some (.cells #[.bool x185000_3, .string x185001_3, .int .i64 x185002_3] 23 (0, 0))) ∧ Aside0 (Below w.heap.size w w'))
                          case atStart => exact ⟨(x5_3), (by first | rfl | (simp; done) | (simp [*]; done)), H', ⟨Nat.le_refl _⟩, ⟨by (with_reducible repeat (first | refine blk_drewN ?_ _ | refine blk_drew ?_ | refine blk_alloc ?_ _)); exact BK184.out⟩, ⟨by repeat (first | (with_reducible first | exact HB.out | apply below_alloc | apply pw_below_drewN | apply below_drew1 | refine below_set ?_ GE184.out) | exact HB.out)⟩⟩
                          case round =>
                            clear H'
                            try clear c1
                            try clear p1
                            try clear q1
                            try clear hx1
                            try clear c2
                            try clear p2
                            try clear c3
                            try clear c4
                            try clear c4b0
                            try clear c4b1
                            try clear c5
                            try clear c5b0
                            try clear c5b1
                            try clear p6
                            try clear q6
                            try clear hx6
                            try clear qi6
                            try clear c8
                            try clear c9
                            try clear c9b0
                            try clear c9b1
                            try clear c10
                            try clear c10b0
                            try clear c11
                            try clear c11b0
                            try clear p12
                            try clear q12
                            try clear hx12
                            try clear c14
                            try clear c15
                            try clear c15b0
                            try clear c16
                            try clear c16b0
                            try clear c16b1
                            try clear c17
                            try clear c17b0
                            try clear c17b1
                            try clear c18
                            try clear c18b0
                            try clear c18b1
                            try clear c18b2
                            try clear p19
                            try clear q19
                            try clear hx19
                            try clear c20
                            try clear c20b0
                            try clear c20b1
                            try clear c21
                            try clear c21b0
                            try clear c22
                            try clear c22b0
                            try clear c23
                            try clear c23b0
                            try clear c29
                            try clear c29b0
                            try clear c29b1
                            try clear c30
                            try clear c33
                            try clear c33b0
                            try clear hcz24_0
                            try clear hcz24_1
                            try clear hcz24_2
                            try clear hcz25_0
                            try clear hcz25_1
                            try clear hcz25_2
                            try clear hcz26_0
                            try clear hcz26_1
                            try clear hcz26_2
                            try clear hcz27_0
                            try clear hcz27_1
                            try clear hcz27_2
                            try clear hcz31_0
                            try clear hcz31_1
                            try clear hcz31_2
                            try clear hfz24_0
                            try clear hfz24_1
                            try clear hfz24_2
                            try clear hfz25_0
                            try clear hfz25_1
                            try clear hfz25_2
                            try clear hfz26_0
                            try clear hfz26_1
                            try clear hfz26_2
                            try clear hfz27_0
                            try clear hfz27_1
                            try clear hfz27_2
                            try clear hfz31_0
                            try clear hfz31_1
                            try clear hfz31_2
                            try clear p1
                            try clear p12
                            try clear p19
                            try clear p2
                            try clear p6
                            try clear q1
                            try clear q12
                            try clear q19
                            try clear q6
                            obtain ⟨x5_6, rfl, HA, HK6, BK184, HB⟩ := hrel
                            cases gk with
                            | zero => exact absurd HA.out (by simp [polyglotlaw02_Parse.l1])
                            | succ k6 =>
                              have H := HA.out
                              clear HA
                              simp only [polyglotlaw02_Parse.l1] at H
                              by_cases c34 : (x5_6.size : Int) > (wrap64 (x8_31 + 1))
                              · rw [if_pos c34] at H
                                have c34b0 : decide ((wrap64 (x8_31 + 1)) < (x5_6.size : Int)) = true := decide_eq_true c34
                                clear c34
                                by_cases c35 : 0 < (x5_6.size : Int)
                                · rw [if_pos c35] at H
                                  have c35b0 : decide (0 < (x5_6.size : Int)) = true := decide_eq_true c35
                                  have c35b1 : decide (0 < x5_6.size) = true := decide_eq_true (by omega)
                                  clear c35
                                  by_cases c37 : (bt x5_6 0) = 48
                                  · rw [if_pos c37] at H
                                    have c37b0 : ((bt x5_6 0) == 48) = true := beq_iff_eq.mpr c37
                                    have c37b1 : ((bt x5_6 0) != 48) = false := bne_eq_false_iff_eq.mpr c37
                                    clear c37
                                    by_cases c38 : 1 ≤ (x5_6.size : Int)
                                    · rw [if_pos c38] at H
                                      have c38b0 := eq_true c38
                                      have c38b1 : decide (1 ≤ (x5_6.size : Int)) = true := decide_eq_true c38
                                      clear c38
                                      have H' := Aside0.mk H
                                      clear H
                                      have p36 : 0 ≤ (0 : Int) := (by omega)
                                      have q36 : 0 < x5_6.size := (by have : (0 : Int) < (x5_6.size : Int) := of_decide_eq_true (by first | (with_reducible assumption) | assumption); omega)
                                      have hx36 : ∀ h : 0 < x5_6.size, ((x5_6[0]'h).toNat : Int) = bt x5_6 0 := bt_at x5_6 0
                                      clear p36
                                      have qi36 : (0 < (x5_6.size : Int)) = True := eq_true (of_decide_eq_true (by first | (with_reducible assumption) | assumption))
                                      replace q36 := eq_true q36
                                      go_wp2
                                      go_roundg k6
                                      case measure => have := HJ1.out; have := HJ6.out; have := HK3.out; have := HJ27.out; have := HJ31.out; have := HK6.out; omega
                                      case rel => exact ⟨(x5_6.extract 1 x5_6.size), (by first | rfl | (simp; done) | (simp [*]; done)), H', ⟨by have := HJ1.out; have := HJ6.out; have := HK3.out; have := HJ27.out; have := HJ31.out; have := HK6.out; omega⟩, ⟨by (with_reducible repeat (first | refine blk_drewN ?_ _ | refine blk_drew ?_ | refine blk_alloc ?_ _)); exact BK184.out⟩, ⟨by repeat (first | (with_reducible first | exact HB.out | apply below_alloc | apply pw_below_drewN | apply below_drew1 | refine below_set ?_ GE184.out) | exact HB.out)⟩⟩
                                    · rw [if_neg c38] at H
                                      exact absurd H (by simp)
                                  · rw [if_neg c37] at H
                                    have c37b0 : ((bt x5_6 0) == 48) = false := beq_eq_false_iff_ne.mpr c37
                                    have c37b1 : ((bt x5_6 0) != 48) = true := bne_iff_ne.mpr c37
                                    simp only [Option.some.injEq, Prod.mk.injEq] at H
                                    obtain ⟨rfl, rfl, rfl, rfl⟩ := H
                                    have p36 : 0 ≤ (0 : Int) := (by omega)
                                    have q36 : 0 < x5_6.size := (by have : (0 : Int) < (x5_6.size : Int) := of_decide_eq_true (by first | (with_reducible assumption) | assumption); omega)
                                    have hx36 : ∀ h : 0 < x5_6.size, ((x5_6[0]'h).toNat : Int) = bt x5_6 0 := bt_at x5_6 0
                                    clear p36
                                    have qi36 : (0 < (x5_6.size : Int)) = True := eq_true (of_decide_eq_true (by first | (with_reducible assumption) | assumption))
                                    replace q36 := eq_true q36
                                    have hcz39_0 : wr.cell? ⟨gb184, 0, none⟩ = some (.bool x185000_3) := (blk_cell BK184.out 0).trans rfl
                                    have hcz39_1 : wr.cell? ⟨gb184, 1, none⟩ = some (.string x185001_3) := (blk_cell BK184.out 1).trans rfl
                                    have hcz39_2 : wr.cell? ⟨gb184, 2, none⟩ = some (.int .i64 x185002_3) := (blk_cell BK184.out 2).trans rfl
                                    have hfz39_0 := blk_frozen BK184.out 0
                                    have hfz39_1 := blk_frozen BK184.out 1
                                    have hfz39_2 := blk_frozen BK184.out 2
                                    go_wp2
                                    refine bodyPost_ret (results_ct rfl _ _ gb184 23 #[.bool x4_1, .string x5_6, .int .i64 x8_31] (0, 0) _ rfl (by (with_reducible repeat (first | refine blk_drewN ?_ _ | refine blk_drew ?_ | refine blk_alloc ?_ _)); refine blk_put (cs := #[.bool x4_1, .string x5_6, .int .i64 x185002_3]) ?_ 2 _ rfl; (with_reducible repeat (first | refine blk_drewN ?_ _ | refine blk_drew ?_ | refine blk_alloc ?_ _)); refine blk_put (cs := #[.bool x4_1, .string x185001_3, .int .i64 x185002_3]) ?_ 1 _ rfl; (with_reducible repeat (first | refine blk_drewN ?_ _ | refine blk_drew ?_ | refine blk_alloc ?_ _)); refine blk_put (cs := #[.bool x185000_3, .string x185001_3, .int .i64 x185002_3]) ?_ 0 _ rfl; (with_reducible repeat (first | refine blk_drewN ?_ _ | refine blk_drew ?_ | refine blk_alloc ?_ _)); exact BK184.out) Tryd.underlying23 rfl (by kernel_rfl)) rfl ?_
                                    exact ⟨by first | rfl | (simp [errW_none, errW_some] <;> rfl) | (simp [*, errW_none, errW_some] <;> rfl), by repeat (first | (with_reducible first | exact HB.out | apply below_alloc | apply pw_below_drewN | apply below_drew1 | refine below_set ?_ GE184.out) | exact HB.out)⟩
                                · rw [if_neg c35] at H
                                  exact absurd H (by simp)
                              · rw [if_neg c34] at H
                                have c34b0 : decide ((wrap64 (x8_31 + 1)) < (x5_6.size : Int)) = false := decide_eq_false c34
                                clear c34
                                simp only [Option.some.injEq, Prod.mk.injEq] at H
                                obtain ⟨rfl, rfl, rfl, rfl⟩ := H
                                have hcz40_0 : wr.cell? ⟨gb184, 0, none⟩ = some (.bool x185000_3) := (blk_cell BK184.out 0).trans rfl
                                have hcz40_1 : wr.cell? ⟨gb184, 1, none⟩ = some (.string x185001_3) := (blk_cell BK184.out 1).trans rfl
                                have hcz40_2 : wr.cell? ⟨gb184, 2, none⟩ = some (.int .i64 x185002_3) := (blk_cell BK184.out 2).trans rfl
                                have hfz40_0 := blk_frozen BK184.out 0
                                have hfz40_1 := blk_frozen BK184.out 1
                                have hfz40_2 := blk_frozen BK184.out 2
                                go_wp2
                                refine bodyPost_ret (results_ct rfl _ _ gb184 23 #[.bool x4_1, .string x5_6, .int .i64 x8_31] (0, 0) _ rfl (by (with_reducible repeat (first | refine blk_drewN ?_ _ | refine blk_drew ?_ | refine blk_alloc ?_ _)); refine blk_put (cs := #[.bool x4_1, .string x5_6, .int .i64 x185002_3]) ?_ 2 _ rfl; (with_reducible repeat (first | refine blk_drewN ?_ _ | refine blk_drew ?_ | refine blk_alloc ?_ _)); refine blk_put (cs := #[.bool x4_1, .string x185001_3, .int .i64 x185002_3]) ?_ 1 _ rfl; (with_reducible repeat (first | refine blk_drewN ?_ _ | refine blk_drew ?_ | refine blk_alloc ?_ _)); refine blk_put (cs := #[.bool x185000_3, .string x185001_3, .int .i64 x185002_3]) ?_ 0 _ rfl; (with_reducible repeat (first | refine blk_drewN ?_ _ | refine blk_drew ?_ | refine blk_alloc ?_ _)); exact BK184.out) Tryd.underlying23 rfl (by kernel_rfl)) rfl ?_
                                exact ⟨by first | rfl | (simp [errW_none, errW_some] <;> rfl) | (simp [*, errW_none, errW_some] <;> rfl), by repeat (first | (with_reducible first | exact HB.out | apply below_alloc | apply pw_below_drewN | apply below_drew1 | refine below_set ?_ GE184.out) | exact HB.out)⟩

end Go.Proofs.YtonjkoeacedaiaaDoor.R
