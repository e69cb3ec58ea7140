/- polyglotlaw02.DecSigns: whatever number and scale come in, the call returns true and leaves its arguments unchanged. (Text 5 of 5: what the law's proof rests on, joined; walks printed by the kit's print over given contracts, walks and plain laws by hand.) -/
import Derived.Test.YtonjkoeacedaiaaDoorSig0
import Derived.Test.YtonjkoeacedaiaaDoorSig1
import Derived.Test.YtonjkoeacedaiaaDoorSig2
import Derived.Test.YtonjkoeacedaiaaDoorSig3
namespace Go.Proofs.YtonjkoeacedaiaaDoor.R
open Go.RowKit Go.Proofs.YtonjkoeacedaiaaDoor.G Go.Proofs.YtonjkoeacedaiaaDoor.U Go.Proofs.YtonjkoeacedaiaaDoorW.PrintWords Go.Proofs.YtonjkoeacedaiaaDoorW.PrintLast Go.Proofs.YtonjkoeacedaiaaDoorW.PrintMore
attribute [local go_sem] max2_int min2_int max_two min_two max_three min_three max_four min_four
set_option linter.unusedVariables false
set_option linter.unusedSimpArgs false
mutual
def polyglotlaw02_Parse.j0 : Nat → ByteArray → Bool → Option (Bool × ByteArray × Int × Bool)
  | 0, _, _ => none
  | k + 1, x0, x4 => if x4 = true then (if 1 ≤ (x0.size : Int) then (polyglotlaw02_Parse.j1 k (x0.extract 1 x0.size) x4) else (none)) else (polyglotlaw02_Parse.j1 k x0 x4)
def polyglotlaw02_Parse.j1 : Nat → ByteArray → Bool → Option (Bool × ByteArray × Int × Bool)
  | 0, _, _ => none
  | k + 1, x0, x4 => polyglotlaw02_Parse.l0 k x0 x4 (⟨#[]⟩ : ByteArray) (-1) 0
def polyglotlaw02_Parse.l0 : Nat → ByteArray → Bool → ByteArray → Int → Int → Option (Bool × ByteArray × Int × Bool)
  | 0, _, _, _, _, _ => none
  | k + 1, x0, x4, x5, x6, x7 => if x7 < (x0.size : Int) then (if 0 ≤ x7 then ((polyglotlaw02_digit.f (bt x0 x7)).bind fun t185 => (if t185 = true then (if x7 ≤ (wrap64 (x7 + 1)) then (if (wrap64 (x7 + 1)) ≤ (x0.size : Int) then (if x5.size + (x0.extract (x7 : Int).toNat ((wrap64 (x7 + 1)) : Int).toNat).size ≤ 9223372036854775807 then (polyglotlaw02_Parse.l0 k x0 x4 (x5 ++ (x0.extract (x7 : Int).toNat ((wrap64 (x7 + 1)) : Int).toNat)) x6 (wrap64 (x7 + 1))) else (none)) else (none)) else (none)) else (if (bt x0 x7) = 46 then (if x6 < 0 then (if x7 > 0 then (if (wrap64 (x7 + 1)) < (x0.size : Int) then (polyglotlaw02_Parse.l0 k x0 x4 x5 x7 (wrap64 (x7 + 1))) else (some (false, (⟨#[]⟩ : ByteArray), 0, false))) else (some (false, (⟨#[]⟩ : ByteArray), 0, false))) else (some (false, (⟨#[]⟩ : ByteArray), 0, false))) else (some (false, (⟨#[]⟩ : ByteArray), 0, false))))) else (none)) else (if (x5.size : Int) = 0 then (polyglotlaw02_Parse.j3 k x0 x4 x5 x6 true) else (polyglotlaw02_Parse.j3 k x0 x4 x5 x6 (decide ((x5.size : Int) > 40))))
def polyglotlaw02_Parse.j3 : Nat → ByteArray → Bool → ByteArray → Int → Bool → Option (Bool × ByteArray × Int × Bool)
  | 0, _, _, _, _, _ => none
  | k + 1, x0, x4, x5, x6, x67 => if x67 = true then (some (false, (⟨#[]⟩ : ByteArray), 0, false)) else (if x6 ≥ 0 then (polyglotlaw02_Parse.j4 k x4 x5 (wrap64 ((wrap64 ((x0.size : Int) - 1)) - x6))) else (polyglotlaw02_Parse.j4 k x4 x5 0))
def polyglotlaw02_Parse.j4 : Nat → Bool → ByteArray → Int → Option (Bool × ByteArray × Int × Bool)
  | 0, _, _, _ => none
  | k + 1, x4, x5, x8 => polyglotlaw02_Parse.l1 k x4 x5 x8
def polyglotlaw02_Parse.l1 : Nat → Bool → ByteArray → Int → Option (Bool × ByteArray × Int × Bool)
  | 0, _, _, _ => none
  | k + 1, x4, x5, x8 => if (x5.size : Int) > (wrap64 (x8 + 1)) then (if 0 < (x5.size : Int) then (if (bt x5 0) = 48 then (if 1 ≤ (x5.size : Int) then (polyglotlaw02_Parse.l1 k x4 (x5.extract 1 x5.size) x8) else (none)) else (some (x4, x5, x8, true))) else (none)) else (some (x4, x5, x8, true))
end
def polyglotlaw02_Parse.f (k : Nat) (a0 : ByteArray) : Option (Bool × ByteArray × Int × Bool) := if (a0.size : Int) > 0 then (if 0 < (a0.size : Int) then (polyglotlaw02_Parse.j0 k a0 ((bt a0 0) == 45)) else (none)) else (polyglotlaw02_Parse.j0 k a0 false)
theorem polyglotlaw02_Parse.mono_l : ∀ k, (∀ y0 y1, LeO (polyglotlaw02_Parse.j0 k y0 y1) (polyglotlaw02_Parse.j0 (k + 1) y0 y1)) ∧ (∀ y0 y1, LeO (polyglotlaw02_Parse.j1 k y0 y1) (polyglotlaw02_Parse.j1 (k + 1) y0 y1)) ∧ (∀ y0 y1 y2 y3 y4, LeO (polyglotlaw02_Parse.l0 k y0 y1 y2 y3 y4) (polyglotlaw02_Parse.l0 (k + 1) y0 y1 y2 y3 y4)) ∧ (∀ y0 y1 y2 y3 y4, LeO (polyglotlaw02_Parse.j3 k y0 y1 y2 y3 y4) (polyglotlaw02_Parse.j3 (k + 1) y0 y1 y2 y3 y4)) ∧ (∀ y0 y1 y2, LeO (polyglotlaw02_Parse.j4 k y0 y1 y2) (polyglotlaw02_Parse.j4 (k + 1) y0 y1 y2)) ∧ (∀ y0 y1 y2, LeO (polyglotlaw02_Parse.l1 k y0 y1 y2) (polyglotlaw02_Parse.l1 (k + 1) y0 y1 y2))
  | 0 => ⟨fun _ _ r h => by simp [polyglotlaw02_Parse.j0] at h, fun _ _ r h => by simp [polyglotlaw02_Parse.j1] at h, fun _ _ _ _ _ r h => by simp [polyglotlaw02_Parse.l0] at h, fun _ _ _ _ _ r h => by simp [polyglotlaw02_Parse.j3] at h, fun _ _ _ r h => by simp [polyglotlaw02_Parse.j4] at h, fun _ _ _ r h => by simp [polyglotlaw02_Parse.l1] at h⟩
  | k + 1 => by
    obtain ⟨ih0, ih1, ih2, ih3, ih4, ih5⟩ := polyglotlaw02_Parse.mono_l k
    refine ⟨?_, ?_, ?_, ?_, ?_, ?_⟩
    · intro y0 y1
      unfold polyglotlaw02_Parse.j0
      repeat' first
      | (with_reducible exact ih0 _ _)
      | (with_reducible exact ih1 _ _)
      | (with_reducible exact ih2 _ _ _ _ _)
      | (with_reducible exact ih3 _ _ _ _ _)
      | (with_reducible exact ih4 _ _ _)
      | (with_reducible exact ih5 _ _ _)
      | (with_reducible exact LeO.refl _)
      | (with_reducible exact LeO.none _)
      | (with_reducible refine LeO.ite ?_ ?_)
      | (with_reducible refine LeO.bind ?_ (fun _ => ?_))
      | exact ih0 _ _
      | exact ih1 _ _
      | exact ih2 _ _ _ _ _
      | exact ih3 _ _ _ _ _
      | exact ih4 _ _ _
      | exact ih5 _ _ _
      | exact LeO.none _
      | refine LeO.ite ?_ ?_
      | refine LeO.bind ?_ (fun _ => ?_)
    · intro y0 y1
      unfold polyglotlaw02_Parse.j1
      repeat' first
      | (with_reducible exact ih0 _ _)
      | (with_reducible exact ih1 _ _)
      | (with_reducible exact ih2 _ _ _ _ _)
      | (with_reducible exact ih3 _ _ _ _ _)
      | (with_reducible exact ih4 _ _ _)
      | (with_reducible exact ih5 _ _ _)
      | (with_reducible exact LeO.refl _)
      | (with_reducible exact LeO.none _)
      | (with_reducible refine LeO.ite ?_ ?_)
      | (with_reducible refine LeO.bind ?_ (fun _ => ?_))
      | exact ih0 _ _
      | exact ih1 _ _
      | exact ih2 _ _ _ _ _
      | exact ih3 _ _ _ _ _
      | exact ih4 _ _ _
      | exact ih5 _ _ _
      | exact LeO.none _
      | refine LeO.ite ?_ ?_
      | refine LeO.bind ?_ (fun _ => ?_)
    · intro y0 y1 y2 y3 y4
      unfold polyglotlaw02_Parse.l0
      repeat' first
      | (with_reducible exact ih0 _ _)
      | (with_reducible exact ih1 _ _)
      | (with_reducible exact ih2 _ _ _ _ _)
      | (with_reducible exact ih3 _ _ _ _ _)
      | (with_reducible exact ih4 _ _ _)
      | (with_reducible exact ih5 _ _ _)
      | (with_reducible exact LeO.refl _)
      | (with_reducible exact LeO.none _)
      | (with_reducible refine LeO.ite ?_ ?_)
      | (with_reducible refine LeO.bind ?_ (fun _ => ?_))
      | exact ih0 _ _
      | exact ih1 _ _
      | exact ih2 _ _ _ _ _
      | exact ih3 _ _ _ _ _
      | exact ih4 _ _ _
      | exact ih5 _ _ _
      | exact LeO.none _
      | refine LeO.ite ?_ ?_
      | refine LeO.bind ?_ (fun _ => ?_)
    · intro y0 y1 y2 y3 y4
      unfold polyglotlaw02_Parse.j3
      repeat' first
      | (with_reducible exact ih0 _ _)
      | (with_reducible exact ih1 _ _)
      | (with_reducible exact ih2 _ _ _ _ _)
      | (with_reducible exact ih3 _ _ _ _ _)
      | (with_reducible exact ih4 _ _ _)
      | (with_reducible exact ih5 _ _ _)
      | (with_reducible exact LeO.refl _)
      | (with_reducible exact LeO.none _)
      | (with_reducible refine LeO.ite ?_ ?_)
      | (with_reducible refine LeO.bind ?_ (fun _ => ?_))
      | exact ih0 _ _
      | exact ih1 _ _
      | exact ih2 _ _ _ _ _
      | exact ih3 _ _ _ _ _
      | exact ih4 _ _ _
      | exact ih5 _ _ _
      | exact LeO.none _
      | refine LeO.ite ?_ ?_
      | refine LeO.bind ?_ (fun _ => ?_)
    · intro y0 y1 y2
      unfold polyglotlaw02_Parse.j4
      repeat' first
      | (with_reducible exact ih0 _ _)
      | (with_reducible exact ih1 _ _)
      | (with_reducible exact ih2 _ _ _ _ _)
      | (with_reducible exact ih3 _ _ _ _ _)
      | (with_reducible exact ih4 _ _ _)
      | (with_reducible exact ih5 _ _ _)
      | (with_reducible exact LeO.refl _)
      | (with_reducible exact LeO.none _)
      | (with_reducible refine LeO.ite ?_ ?_)
      | (with_reducible refine LeO.bind ?_ (fun _ => ?_))
      | exact ih0 _ _
      | exact ih1 _ _
      | exact ih2 _ _ _ _ _
      | exact ih3 _ _ _ _ _
      | exact ih4 _ _ _
      | exact ih5 _ _ _
      | exact LeO.none _
      | refine LeO.ite ?_ ?_
      | refine LeO.bind ?_ (fun _ => ?_)
    · intro y0 y1 y2
      unfold polyglotlaw02_Parse.l1
      repeat' first
      | (with_reducible exact ih0 _ _)
      | (with_reducible exact ih1 _ _)
      | (with_reducible exact ih2 _ _ _ _ _)
      | (with_reducible exact ih3 _ _ _ _ _)
      | (with_reducible exact ih4 _ _ _)
      | (with_reducible exact ih5 _ _ _)
      | (with_reducible exact LeO.refl _)
      | (with_reducible exact LeO.none _)
      | (with_reducible refine LeO.ite ?_ ?_)
      | (with_reducible refine LeO.bind ?_ (fun _ => ?_))
      | exact ih0 _ _
      | exact ih1 _ _
      | exact ih2 _ _ _ _ _
      | exact ih3 _ _ _ _ _
      | exact ih4 _ _ _
      | exact ih5 _ _ _
      | exact LeO.none _
      | refine LeO.ite ?_ ?_
      | refine LeO.bind ?_ (fun _ => ?_)
theorem polyglotlaw02_Parse.mono : ∀ a0 k, LeO (polyglotlaw02_Parse.f k a0) (polyglotlaw02_Parse.f (k + 1) a0) := by
  intro a0 k
  obtain ⟨ih0, ih1, ih2, ih3, ih4, ih5⟩ := polyglotlaw02_Parse.mono_l k
  unfold polyglotlaw02_Parse.f
  repeat' first
      | (with_reducible exact ih0 _ _)
      | (with_reducible exact ih1 _ _)
      | (with_reducible exact ih2 _ _ _ _ _)
      | (with_reducible exact ih3 _ _ _ _ _)
      | (with_reducible exact ih4 _ _ _)
      | (with_reducible exact ih5 _ _ _)
      | (with_reducible exact LeO.refl _)
      | (with_reducible exact LeO.none _)
      | (with_reducible refine LeO.ite ?_ ?_)
      | (with_reducible refine LeO.bind ?_ (fun _ => ?_))
      | exact ih0 _ _
      | exact ih1 _ _
      | exact ih2 _ _ _ _ _
      | exact ih3 _ _ _ _ _
      | exact ih4 _ _ _
      | exact ih5 _ _ _
      | exact LeO.none _
      | refine LeO.ite ?_ ?_
      | refine LeO.bind ?_ (fun _ => ?_)
set_option maxHeartbeats 8000000 in
set_option maxRecDepth 100000 in
theorem polyglotlaw02_Parse.calls (k : Nat) (a0 : ByteArray) (r1 : Bool) (r2 : ByteArray) (r3 : Int) (r4 : Bool) (w : World) (h : polyglotlaw02_Parse.f k a0 = some (r1, r2, r3, r4)) :
    Calls Tryd.prog 38 #[.string a0] w fun e w' => e = .returned (.tuple #[.agg #[.bool r1, .string r2, .int .i64 r3], .bool r4]) ∧ Below w.heap.size w w' := by
  have hu23 := Tryd.underlying23
  have HB := Aside0.mk (Below.refl w.heap.size w)
  have H : (if (a0.size : Int) > 0 then (if 0 < (a0.size : Int) then (polyglotlaw02_Parse.j0 k a0 ((bt a0 0) == 45)) else (none)) else (polyglotlaw02_Parse.j0 k a0 false)) = some (r1, r2, r3, r4) := h
  clear h
  have HC2 := Aside0.mk H
  clear H
  go_enter Tryd.func38, Tryd.ntmps38
  go_upto_region 1 with (first | ((with_reducible refine gate_dst (N := 2) rfl ?_); (try (refine gate_guard (by rfl) ?_; dsimp only)); refine box_event ?hg (N := 2) ?hd (cs := #[.bool false, .string (⟨#[]⟩ : ByteArray), .int .i64 0]) (t := 23) ?hr ?_; (case hd => rfl); (case hg => rfl); (case hr => first | (go_simp; done) | (go_simp; rfl)); intro gb184 hg w3 hbox hb; have n0_ := Aside0.mk (below_step (by repeat (first | (with_reducible first | exact HB.out | apply below_alloc | apply pw_below_drewN | apply below_drew1) | exact HB.out)) hb); have n1_ := Aside0.mk (hbox); have n2_ := Aside0.mk ((by rw [hg]; exact (below_size (by repeat (first | (with_reducible first | exact HB.out | apply below_alloc | apply pw_below_drewN | apply below_drew1) | exact HB.out))) : w.heap.size ≤ gb184)); have n3_ := Aside0.mk ((by rw [hg]; exact (below_size (by repeat (first | (with_reducible first | exact HB.out | apply below_alloc | apply pw_below_drewN | apply below_drew1) | exact HB.out))) : w.heap.size ≤ gb184)); clear HB; have HB := n0_; have BK184 := n1_; have GW184 := n2_; have GE184 := n3_; clear n0_ n1_ n2_ n3_; clear hb hbox hg))
  (try simp only [Act.put, List.setIfInBounds_toArray, List.set_cons_zero, List.set_cons_succ])
  go_cut [4] (fun v4 wc => ∃ (kq : Nat) (x4_1 : Bool), v4 = .bool x4_1 ∧ Aside0 (polyglotlaw02_Parse.j0 kq a0 x4_1 = some (r1, r2, r3, r4)) ∧ Aside0 (kq ≤ k) ∧ Aside0 (wc.heap[gb184]? = some (.cells #[.bool false, .string (⟨#[]⟩ : ByteArray), .int .i64 0] 23 (0, 0))) ∧ Aside0 (Below w.heap.size w wc))
  case first =>
    have H := HC2.out
    clear HC2
    by_cases c4 : (a0.size : Int) > 0
    · rw [if_pos c4] at H
      have c4b0 : decide (0 < (a0.size : Int)) = true := decide_eq_true c4
      have c4b1 : decide (0 < a0.size) = true := decide_eq_true (by omega)
      clear c4
      (first | rw [c4b0] | (simp only [i64_w, i32_w]; rw [c4b0]) | skip)
      by_cases c5 : 0 < (a0.size : Int)
      · rw [if_pos c5] at H
        have c5b0 : decide (0 < (a0.size : Int)) = true := decide_eq_true c5
        have c5b1 : decide (0 < a0.size) = true := decide_eq_true (by omega)
        clear c5
        have H' := Aside0.mk H
        clear H
        have p6 : 0 ≤ (0 : Int) := (by omega)
        have q6 : 0 < a0.size := (by have : (0 : Int) < (a0.size : Int) := of_decide_eq_true (by first | (with_reducible assumption) | assumption); omega)
        have hx6 : ∀ h : 0 < a0.size, ((a0[0]'h).toNat : Int) = bt a0 0 := bt_at a0 0
        clear p6
        have qi6 : (0 < (a0.size : Int)) = True := eq_true (of_decide_eq_true (by first | (with_reducible assumption) | assumption))
        replace q6 := eq_true q6
        go_wp2
        go_meet
        case rel => exact ⟨_, (((bt a0 0) == 45)), (by first | rfl | (simp; done) | (simp [*]; done)), H', ⟨by first | omega | exact Nat.le_refl _⟩, ⟨by (with_reducible repeat (first | refine blk_drewN ?_ _ | refine blk_drew ?_ | refine blk_alloc ?_ _)); exact BK184.out⟩, ⟨by repeat (first | (with_reducible first | exact HB.out | apply below_alloc | apply pw_below_drewN | apply below_drew1 | refine below_set ?_ GE184.out) | exact HB.out)⟩⟩
      · rw [if_neg c5] at H
        exact absurd H (by simp)
    · rw [if_neg c4] at H
      have c4b0 : decide (0 < (a0.size : Int)) = false := decide_eq_false c4
      have c4b1 : decide (0 < a0.size) = false := decide_eq_false (by omega)
      clear c4
      (first | rw [c4b0] | (simp only [i64_w, i32_w]; rw [c4b0]) | skip)
      have H' := Aside0.mk H
      clear H
      go_wp2
      go_meet
      case rel => exact ⟨_, (false), (by first | rfl | (simp; done) | (simp [*]; done)), H', ⟨by first | omega | exact Nat.le_refl _⟩, ⟨by (with_reducible repeat (first | refine blk_drewN ?_ _ | refine blk_drew ?_ | refine blk_alloc ?_ _)); exact BK184.out⟩, ⟨by repeat (first | (with_reducible first | exact HB.out | apply below_alloc | apply pw_below_drewN | apply below_drew1 | refine below_set ?_ GE184.out) | exact HB.out)⟩⟩
  case rest =>
    clear HC2
    try clear p2
    try clear c3
    try clear c4
    try clear c4b0
    try clear c4b1
    try clear c5
    try clear c5b0
    try clear c5b1
    try clear p6
    try clear q6
    try clear hx6
    try clear qi6
    try clear p6
    try clear q6
    obtain ⟨kq, x4_1, rfl, HA, HJ1, BK184, HB⟩ := hcut
    cases kq with
    | zero => exact absurd HA.out (by simp [polyglotlaw02_Parse.j0])
    | succ kj1 =>
      have H := HA.out
      clear HA
      simp only [polyglotlaw02_Parse.j0] at H
      have HC7 := Aside0.mk H
      clear H
      go_upto_if 17 with (fail)
      go_cut [0] (fun v0 wc => ∃ (kq : Nat) (x0_6 : ByteArray), v0 = .string x0_6 ∧ Aside0 (polyglotlaw02_Parse.j1 kq x0_6 x4_1 = some (r1, r2, r3, r4)) ∧ Aside0 (kq ≤ kj1) ∧ Aside0 (wc.heap[gb184]? = some (.cells #[.bool false, .string (⟨#[]⟩ : ByteArray), .int .i64 0] 23 (0, 0))) ∧ Aside0 (Below w.heap.size w wc))
      case first =>
        have H := HC7.out
        clear HC7
        by_cases c8 : x4_1 = true
        · subst c8
          have H1 : (if 1 ≤ (a0.size : Int) then (polyglotlaw02_Parse.j1 kj1 (a0.extract 1 a0.size) true) else (none)) = some (r1, r2, r3, r4) := by rw [if_pos rfl] at H; exact H
          clear H
          have H := H1
          clear H1
          by_cases c9 : 1 ≤ (a0.size : Int)
          · rw [if_pos c9] at H
            have c9b0 := eq_true c9
            have c9b1 : decide (1 ≤ (a0.size : Int)) = true := decide_eq_true c9
            clear c9
            have H' := Aside0.mk H
            clear H
            go_wp2
            go_meet
            case rel => exact ⟨_, (a0.extract 1 a0.size), (by first | rfl | (simp; done) | (simp [*]; done)), H', ⟨by have := HJ1.out; first | omega | exact Nat.le_refl _⟩, ⟨by (with_reducible repeat (first | refine blk_drewN ?_ _ | refine blk_drew ?_ | refine blk_alloc ?_ _)); exact BK184.out⟩, ⟨by repeat (first | (with_reducible first | exact HB.out | apply below_alloc | apply pw_below_drewN | apply below_drew1 | refine below_set ?_ GE184.out) | exact HB.out)⟩⟩
          · rw [if_neg c9] at H
            exact absurd H (by simp)
        · replace c8 := Bool.eq_false_iff.mpr c8
          subst c8
          have H1 : (polyglotlaw02_Parse.j1 kj1 a0 false) = some (r1, r2, r3, r4) := by rw [if_neg (show ¬ (false = true) by decide)] at H; exact H
          clear H
          have H := H1
          clear H1
          have H' := Aside0.mk H
          clear H
          go_wp2
          go_meet
          case rel => exact ⟨_, (a0), (by first | rfl | (simp; done) | (simp [*]; done)), H', ⟨by have := HJ1.out; first | omega | exact Nat.le_refl _⟩, ⟨by (with_reducible repeat (first | refine blk_drewN ?_ _ | refine blk_drew ?_ | refine blk_alloc ?_ _)); exact BK184.out⟩, ⟨by repeat (first | (with_reducible first | exact HB.out | apply below_alloc | apply pw_below_drewN | apply below_drew1 | refine below_set ?_ GE184.out) | exact HB.out)⟩⟩
      case rest =>
        clear HC7
        try clear p2
        try clear c3
        try clear c4
        try clear c4b0
        try clear c4b1
        try clear c5
        try clear c5b0
        try clear c5b1
        try clear p6
        try clear q6
        try clear hx6
        try clear qi6
        try clear c8
        try clear c9
        try clear c9b0
        try clear c9b1
        try clear p2
        try clear p6
        try clear q6
        obtain ⟨kq, x0_6, rfl, HA, HJ6, BK184, HB⟩ := hcut
        cases kq with
        | zero => exact absurd HA.out (by simp [polyglotlaw02_Parse.j1])
        | succ kj6 =>
          have H := HA.out
          clear HA
          simp only [polyglotlaw02_Parse.j1] at H
          have H' := Aside0.mk H
          clear H
          go_wp2
          go_loopg [5, 6, 7] kj6 (fun kq v5 v6 v7 w' => ∃ (x5_3 : ByteArray) (x6_3 : Int) (x7_3 : Int) (x185000_3 : Bool) (x185001_3 : ByteArray) (x185002_3 : Int), v5 = .string x5_3 ∧ v6 = .int .i64 x6_3 ∧ v7 = .int .i64 x7_3 ∧ Aside0 (polyglotlaw02_Parse.l0 kq x0_6 x4_1 x5_3 x6_3 x7_3 = some (r1, r2, r3, r4)) ∧ Aside0 (kq ≤ kj6) ∧ Aside0 (w'.heap[gb184]? = some (.cells #[.bool x185000_3, .string x185001_3, .int .i64 x185002_3] 23 (0, 0))) ∧ Aside0 (Below w.heap.size w w'))
          case atStart => exact ⟨((⟨#[]⟩ : ByteArray)), ((-1)), (0), (false), ((⟨#[]⟩ : ByteArray)), (0), (by first | rfl | (simp; done) | (simp [*]; done)), (by first | rfl | (simp; done) | (simp [*]; done)), (by first | rfl | (simp; done) | (simp [*]; done)), H', ⟨Nat.le_refl _⟩, ⟨by (with_reducible repeat (first | refine blk_drewN ?_ _ | refine blk_drew ?_ | refine blk_alloc ?_ _)); exact BK184.out⟩, ⟨by repeat (first | (with_reducible first | exact HB.out | apply below_alloc | apply pw_below_drewN | apply below_drew1 | refine below_set ?_ GE184.out) | exact HB.out)⟩⟩
          case round =>
            clear H'
            try clear p2
            try clear c3
            try clear c4
            try clear c4b0
            try clear c4b1
            try clear c5
            try clear c5b0
            try clear c5b1
            try clear p6
            try clear q6
            try clear hx6
            try clear qi6
            try clear c8
            try clear c9
            try clear c9b0
            try clear c9b1
            try clear p2
            try clear p6
            try clear q6
            obtain ⟨x5_3, x6_3, x7_3, x185000_3, x185001_3, x185002_3, rfl, rfl, rfl, HA, HK3, BK184, HB⟩ := hrel
            cases gk with
            | zero => exact absurd HA.out (by simp [polyglotlaw02_Parse.l0])
            | succ k3 =>
              have H := HA.out
              clear HA
              simp only [polyglotlaw02_Parse.l0] at H
              by_cases c10 : x7_3 < (x0_6.size : Int)
              · rw [if_pos c10] at H
                have c10b0 : decide (x7_3 < (x0_6.size : Int)) = true := decide_eq_true c10
                clear c10
                by_cases c11 : 0 ≤ x7_3
                · rw [if_pos c11] at H
                  have c11b0 : decide (0 ≤ x7_3) = true := decide_eq_true c11
                  clear c11
                  replace H := Option.bind_eq_some_iff.mp H
                  obtain ⟨t185, A130, H⟩ := H
                  replace H : (if t185 = true then (if x7_3 ≤ (wrap64 (x7_3 + 1)) then (if (wrap64 (x7_3 + 1)) ≤ (x0_6.size : Int) then (if x5_3.size + (x0_6.extract (x7_3 : Int).toNat ((wrap64 (x7_3 + 1)) : Int).toNat).size ≤ 9223372036854775807 then (polyglotlaw02_Parse.l0 k3 x0_6 x4_1 (x5_3 ++ (x0_6.extract (x7_3 : Int).toNat ((wrap64 (x7_3 + 1)) : Int).toNat)) x6_3 (wrap64 (x7_3 + 1))) else (none)) else (none)) else (none)) else (if (bt x0_6 x7_3) = 46 then (if x6_3 < 0 then (if x7_3 > 0 then (if (wrap64 (x7_3 + 1)) < (x0_6.size : Int) then (polyglotlaw02_Parse.l0 k3 x0_6 x4_1 x5_3 x7_3 (wrap64 (x7_3 + 1))) else (some (false, (⟨#[]⟩ : ByteArray), 0, false))) else (some (false, (⟨#[]⟩ : ByteArray), 0, false))) else (some (false, (⟨#[]⟩ : ByteArray), 0, false))) else (some (false, (⟨#[]⟩ : ByteArray), 0, false)))) = some (r1, r2, r3, r4) := H
                  have A13 := Aside0.mk A130
                  clear A130
                  by_cases c14 : t185 = true
                  · subst c14
                    have H1 : (if x7_3 ≤ (wrap64 (x7_3 + 1)) then (if (wrap64 (x7_3 + 1)) ≤ (x0_6.size : Int) then (if x5_3.size + (x0_6.extract (x7_3 : Int).toNat ((wrap64 (x7_3 + 1)) : Int).toNat).size ≤ 9223372036854775807 then (polyglotlaw02_Parse.l0 k3 x0_6 x4_1 (x5_3 ++ (x0_6.extract (x7_3 : Int).toNat ((wrap64 (x7_3 + 1)) : Int).toNat)) x6_3 (wrap64 (x7_3 + 1))) else (none)) else (none)) else (none)) = some (r1, r2, r3, r4) := by rw [if_pos rfl] at H; exact H
                    clear H
                    have H := H1
                    clear H1
                    have c15b0 := eq_true (of_decide_eq_true (by first | (with_reducible assumption) | assumption) : 0 ≤ x7_3)
                    by_cases c16 : x7_3 ≤ (wrap64 (x7_3 + 1))
                    · rw [if_pos c16] at H
                      have c16b0 := eq_true c16
                      have c16b1 : decide (x7_3 ≤ (wrap64 (x7_3 + 1))) = true := decide_eq_true c16
                      by_cases c17 : (wrap64 (x7_3 + 1)) ≤ (x0_6.size : Int)
                      · rw [if_pos c17] at H
                        have c17b0 := eq_true c17
                        have c17b1 : decide ((wrap64 (x7_3 + 1)) ≤ (x0_6.size : Int)) = true := decide_eq_true c17
                        by_cases c18 : x5_3.size + (x0_6.extract (x7_3 : Int).toNat ((wrap64 (x7_3 + 1)) : Int).toNat).size ≤ 9223372036854775807
                        · rw [if_pos c18] at H
                          have c18b0 := eq_true c18
                          have c18b1 : decide (x5_3.size + (x0_6.extract (x7_3 : Int).toNat ((wrap64 (x7_3 + 1)) : Int).toNat).size ≤ 9223372036854775807) = true := decide_eq_true c18
                          try have c18b2 : (9223372036854775807 < x5_3.size + (x0_6.extract (x7_3 : Int).toNat ((wrap64 (x7_3 + 1)) : Int).toNat).size) = False := eq_false (Nat.not_lt.2 c18)
                          have H' := Aside0.mk H
                          clear H
                          have p12 : 0 ≤ (x7_3 : Int) := of_decide_eq_true (by first | (with_reducible assumption) | assumption)
                          have q12 : x7_3 < (x0_6.size : Int) := of_decide_eq_true (by first | (with_reducible assumption) | assumption)
                          have hx12 := bt_at x0_6 x7_3
                          replace p12 := eq_true p12
                          replace q12 := eq_true q12
                          go_wp2_with (first | ((with_reducible refine gate_callee (f := 35) rfl ?_); refine goesL_ (some 31) rfl rfl Tryd.func35 (by kernel_rfl) rfl #[.int .u8 (bt x0_6 x7_3)] rfl (by (try simp only [List.map_toArray, List.map_cons, List.map_nil]); first | done | rfl | (simp only [List.length_drop, List.length_take]; rfl)) ?_; (with_reducible refine (polyglotlaw02_digit.calls (bt x0_6 x7_3) true _ A13.out).mono ?_); rintro e w' ⟨rfl, ⟨nd, rfl⟩⟩; refine ⟨_, rfl, ?_⟩))
                          go_roundg k3
                          case measure => have := HJ1.out; have := HJ6.out; have := HK3.out; omega
                          case rel => exact ⟨(x5_3 ++ (x0_6.extract (x7_3 : Int).toNat ((wrap64 (x7_3 + 1)) : Int).toNat)), (x6_3), (wrap64 (x7_3 + 1)), (x185000_3), (x185001_3), (x185002_3), (by first | rfl | (simp; done) | (simp [*]; done)), (by first | rfl | (simp; done) | (simp [*]; done)), (by first | rfl | (simp; done) | (simp [*]; done)), H', ⟨by have := HJ1.out; have := HJ6.out; have := HK3.out; omega⟩, ⟨by (with_reducible repeat (first | refine blk_drewN ?_ _ | refine blk_drew ?_ | refine blk_alloc ?_ _)); exact BK184.out⟩, ⟨by repeat (first | (with_reducible first | exact HB.out | apply below_alloc | apply pw_below_drewN | apply below_drew1 | refine below_set ?_ GE184.out) | exact HB.out)⟩⟩
                        · rw [if_neg c18] at H
                          exact absurd H (by simp)
                      · rw [if_neg c17] at H
                        exact absurd H (by simp)
                    · rw [if_neg c16] at H
                      exact absurd H (by simp)
                  · replace c14 := Bool.eq_false_iff.mpr c14
                    subst c14
                    have H1 : (if (bt x0_6 x7_3) = 46 then (if x6_3 < 0 then (if x7_3 > 0 then (if (wrap64 (x7_3 + 1)) < (x0_6.size : Int) then (polyglotlaw02_Parse.l0 k3 x0_6 x4_1 x5_3 x7_3 (wrap64 (x7_3 + 1))) else (some (false, (⟨#[]⟩ : ByteArray), 0, false))) else (some (false, (⟨#[]⟩ : ByteArray), 0, false))) else (some (false, (⟨#[]⟩ : ByteArray), 0, false))) else (some (false, (⟨#[]⟩ : ByteArray), 0, false))) = some (r1, r2, r3, r4) := by rw [if_neg (show ¬ (false = true) by decide)] at H; exact H
                    clear H
                    have H := H1
                    clear H1
                    by_cases c20 : (bt x0_6 x7_3) = 46
                    · rw [if_pos c20] at H
                      have c20b0 : ((bt x0_6 x7_3) == 46) = true := beq_iff_eq.mpr c20
                      have c20b1 : ((bt x0_6 x7_3) != 46) = false := bne_eq_false_iff_eq.mpr c20
                      clear c20
                      by_cases c21 : x6_3 < 0
                      · rw [if_pos c21] at H
                        have c21b0 : decide (x6_3 < 0) = true := decide_eq_true c21
                        clear c21
                        by_cases c22 : x7_3 > 0
                        · rw [if_pos c22] at H
                          have c22b0 : decide (0 < x7_3) = true := decide_eq_true c22
                          clear c22
                          by_cases c23 : (wrap64 (x7_3 + 1)) < (x0_6.size : Int)
                          · rw [if_pos c23] at H
                            have c23b0 : decide ((wrap64 (x7_3 + 1)) < (x0_6.size : Int)) = true := decide_eq_true c23
                            clear c23
                            have H' := Aside0.mk H
                            clear H
                            have p12 : 0 ≤ (x7_3 : Int) := of_decide_eq_true (by first | (with_reducible assumption) | assumption)
                            have q12 : x7_3 < (x0_6.size : Int) := of_decide_eq_true (by first | (with_reducible assumption) | assumption)
                            have hx12 := bt_at x0_6 x7_3
                            replace p12 := eq_true p12
                            replace q12 := eq_true q12
                            go_wp2_with (first | ((with_reducible refine gate_callee (f := 35) rfl ?_); refine goesL_ (some 31) rfl rfl Tryd.func35 (by kernel_rfl) rfl #[.int .u8 (bt x0_6 x7_3)] rfl (by (try simp only [List.map_toArray, List.map_cons, List.map_nil]); first | done | rfl | (simp only [List.length_drop, List.length_take]; rfl)) ?_; (with_reducible refine (polyglotlaw02_digit.calls (bt x0_6 x7_3) false _ A13.out).mono ?_); rintro e w' ⟨rfl, ⟨nd, rfl⟩⟩; refine ⟨_, rfl, ?_⟩; have p19 : 0 ≤ (x7_3 : Int) := of_decide_eq_true (by first | (with_reducible assumption) | assumption); have q19 : x7_3 < (x0_6.size : Int) := of_decide_eq_true (by first | (with_reducible assumption) | assumption); have hx19 := bt_at x0_6 x7_3; replace p19 := eq_true p19; replace q19 := eq_true q19))
                            go_roundg k3
                            case measure => have := HJ1.out; have := HJ6.out; have := HK3.out; omega
                            case rel => exact ⟨(x5_3), (x7_3), (wrap64 (x7_3 + 1)), (x185000_3), (x185001_3), (x185002_3), (by first | rfl | (simp; done) | (simp [*]; done)), (by first | rfl | (simp; done) | (simp [*]; done)), (by first | rfl | (simp; done) | (simp [*]; done)), H', ⟨by have := HJ1.out; have := HJ6.out; have := HK3.out; omega⟩, ⟨by (with_reducible repeat (first | refine blk_drewN ?_ _ | refine blk_drew ?_ | refine blk_alloc ?_ _)); exact BK184.out⟩, ⟨by repeat (first | (with_reducible first | exact HB.out | apply below_alloc | apply pw_below_drewN | apply below_drew1 | refine below_set ?_ GE184.out) | exact HB.out)⟩⟩
                          · rw [if_neg c23] at H
                            have c23b0 : decide ((wrap64 (x7_3 + 1)) < (x0_6.size : Int)) = false := decide_eq_false c23
                            clear c23
                            simp only [Option.some.injEq, Prod.mk.injEq] at H
                            obtain ⟨rfl, rfl, rfl, rfl⟩ := H
                            have p12 : 0 ≤ (x7_3 : Int) := of_decide_eq_true (by first | (with_reducible assumption) | assumption)
                            have q12 : x7_3 < (x0_6.size : Int) := of_decide_eq_true (by first | (with_reducible assumption) | assumption)
                            have hx12 := bt_at x0_6 x7_3
                            replace p12 := eq_true p12
                            replace q12 := eq_true q12
                            go_wp2_with (first | ((with_reducible refine gate_callee (f := 35) rfl ?_); refine goesL_ (some 31) rfl rfl Tryd.func35 (by kernel_rfl) rfl #[.int .u8 (bt x0_6 x7_3)] rfl (by (try simp only [List.map_toArray, List.map_cons, List.map_nil]); first | done | rfl | (simp only [List.length_drop, List.length_take]; rfl)) ?_; (with_reducible refine (polyglotlaw02_digit.calls (bt x0_6 x7_3) false _ A13.out).mono ?_); rintro e w' ⟨rfl, ⟨nd, rfl⟩⟩; refine ⟨_, rfl, ?_⟩; (try (rw [drewN_self wr]; generalize hq_ : World.drewN wr _ = wr; have n0_ : Aside0 (wr.heap[gb184]? = some (.cells #[.bool x185000_3, .string x185001_3, .int .i64 x185002_3] 23 (0, 0))) := ⟨by rw [← hq_]; exact (by (with_reducible repeat (first | refine blk_drewN ?_ _ | refine blk_drew ?_ | refine blk_alloc ?_ _)); exact BK184.out)⟩; have n1_ : Aside0 (Below w.heap.size w wr) := ⟨by rw [← hq_]; exact (by repeat (first | (with_reducible first | exact HB.out | apply below_alloc | apply pw_below_drewN | apply below_drew1 | refine below_set ?_ GE184.out) | exact HB.out))⟩; clear BK184 HB hq_; have BK184 := n0_; have HB := n1_; clear n0_ n1_)); have p19 : 0 ≤ (x7_3 : Int) := of_decide_eq_true (by first | (with_reducible assumption) | assumption); have q19 : x7_3 < (x0_6.size : Int) := of_decide_eq_true (by first | (with_reducible assumption) | assumption); have hx19 := bt_at x0_6 x7_3; replace p19 := eq_true p19; replace q19 := eq_true q19; have hcz24_0 : wr.cell? ⟨gb184, 0, none⟩ = some (.bool x185000_3) := (blk_cell BK184.out 0).trans rfl; have hcz24_1 : wr.cell? ⟨gb184, 1, none⟩ = some (.string x185001_3) := (blk_cell BK184.out 1).trans rfl; have hcz24_2 : wr.cell? ⟨gb184, 2, none⟩ = some (.int .i64 x185002_3) := (blk_cell BK184.out 2).trans rfl; have hfz24_0 := blk_frozen BK184.out 0; have hfz24_1 := blk_frozen BK184.out 1; have hfz24_2 := blk_frozen BK184.out 2))
                            refine bodyPost_ret (results_ct rfl _ _ gb184 23 #[.bool false, .string (⟨#[]⟩ : ByteArray), .int .i64 0] (0, 0) _ rfl (by (with_reducible repeat (first | refine blk_drewN ?_ _ | refine blk_drew ?_ | refine blk_alloc ?_ _)); refine blk_put (cs := #[.bool false, .string (⟨#[]⟩ : ByteArray), .int .i64 x185002_3]) ?_ 2 _ rfl; (with_reducible repeat (first | refine blk_drewN ?_ _ | refine blk_drew ?_ | refine blk_alloc ?_ _)); refine blk_put (cs := #[.bool false, .string x185001_3, .int .i64 x185002_3]) ?_ 1 _ rfl; (with_reducible repeat (first | refine blk_drewN ?_ _ | refine blk_drew ?_ | refine blk_alloc ?_ _)); refine blk_put (cs := #[.bool x185000_3, .string x185001_3, .int .i64 x185002_3]) ?_ 0 _ rfl; (with_reducible repeat (first | refine blk_drewN ?_ _ | refine blk_drew ?_ | refine blk_alloc ?_ _)); exact BK184.out) Tryd.underlying23 rfl (by kernel_rfl)) rfl ?_
                            exact ⟨by first | rfl | (simp [errW_none, errW_some] <;> rfl) | (simp [*, errW_none, errW_some] <;> rfl), by repeat (first | (with_reducible first | exact HB.out | apply below_alloc | apply pw_below_drewN | apply below_drew1 | refine below_set ?_ GE184.out) | exact HB.out)⟩
                        · rw [if_neg c22] at H
                          have c22b0 : decide (0 < x7_3) = false := decide_eq_false c22
                          clear c22
                          simp only [Option.some.injEq, Prod.mk.injEq] at H
                          obtain ⟨rfl, rfl, rfl, rfl⟩ := H
                          have p12 : 0 ≤ (x7_3 : Int) := of_decide_eq_true (by first | (with_reducible assumption) | assumption)
                          have q12 : x7_3 < (x0_6.size : Int) := of_decide_eq_true (by first | (with_reducible assumption) | assumption)
                          have hx12 := bt_at x0_6 x7_3
                          replace p12 := eq_true p12
                          replace q12 := eq_true q12
                          go_wp2_with (first | ((with_reducible refine gate_callee (f := 35) rfl ?_); refine goesL_ (some 31) rfl rfl Tryd.func35 (by kernel_rfl) rfl #[.int .u8 (bt x0_6 x7_3)] rfl (by (try simp only [List.map_toArray, List.map_cons, List.map_nil]); first | done | rfl | (simp only [List.length_drop, List.length_take]; rfl)) ?_; (with_reducible refine (polyglotlaw02_digit.calls (bt x0_6 x7_3) false _ A13.out).mono ?_); rintro e w' ⟨rfl, ⟨nd, rfl⟩⟩; refine ⟨_, rfl, ?_⟩; (try (rw [drewN_self wr]; generalize hq_ : World.drewN wr _ = wr; have n0_ : Aside0 (wr.heap[gb184]? = some (.cells #[.bool x185000_3, .string x185001_3, .int .i64 x185002_3] 23 (0, 0))) := ⟨by rw [← hq_]; exact (by (with_reducible repeat (first | refine blk_drewN ?_ _ | refine blk_drew ?_ | refine blk_alloc ?_ _)); exact BK184.out)⟩; have n1_ : Aside0 (Below w.heap.size w wr) := ⟨by rw [← hq_]; exact (by repeat (first | (with_reducible first | exact HB.out | apply below_alloc | apply pw_below_drewN | apply below_drew1 | refine below_set ?_ GE184.out) | exact HB.out))⟩; clear BK184 HB hq_; have BK184 := n0_; have HB := n1_; clear n0_ n1_)); have p19 : 0 ≤ (x7_3 : Int) := of_decide_eq_true (by first | (with_reducible assumption) | assumption); have q19 : x7_3 < (x0_6.size : Int) := of_decide_eq_true (by first | (with_reducible assumption) | assumption); have hx19 := bt_at x0_6 x7_3; replace p19 := eq_true p19; replace q19 := eq_true q19; have hcz25_0 : wr.cell? ⟨gb184, 0, none⟩ = some (.bool x185000_3) := (blk_cell BK184.out 0).trans rfl; have hcz25_1 : wr.cell? ⟨gb184, 1, none⟩ = some (.string x185001_3) := (blk_cell BK184.out 1).trans rfl; have hcz25_2 : wr.cell? ⟨gb184, 2, none⟩ = some (.int .i64 x185002_3) := (blk_cell BK184.out 2).trans rfl; have hfz25_0 := blk_frozen BK184.out 0; have hfz25_1 := blk_frozen BK184.out 1; have hfz25_2 := blk_frozen BK184.out 2))
                          refine bodyPost_ret (results_ct rfl _ _ gb184 23 #[.bool false, .string (⟨#[]⟩ : ByteArray), .int .i64 0] (0, 0) _ rfl (by (with_reducible repeat (first | refine blk_drewN ?_ _ | refine blk_drew ?_ | refine blk_alloc ?_ _)); refine blk_put (cs := #[.bool false, .string (⟨#[]⟩ : ByteArray), .int .i64 x185002_3]) ?_ 2 _ rfl; (with_reducible repeat (first | refine blk_drewN ?_ _ | refine blk_drew ?_ | refine blk_alloc ?_ _)); refine blk_put (cs := #[.bool false, .string x185001_3, .int .i64 x185002_3]) ?_ 1 _ rfl; (with_reducible repeat (first | refine blk_drewN ?_ _ | refine blk_drew ?_ | refine blk_alloc ?_ _)); refine blk_put (cs := #[.bool x185000_3, .string x185001_3, .int .i64 x185002_3]) ?_ 0 _ rfl; (with_reducible repeat (first | refine blk_drewN ?_ _ | refine blk_drew ?_ | refine blk_alloc ?_ _)); exact BK184.out) Tryd.underlying23 rfl (by kernel_rfl)) rfl ?_
                          exact ⟨by first | rfl | (simp [errW_none, errW_some] <;> rfl) | (simp [*, errW_none, errW_some] <;> rfl), by repeat (first | (with_reducible first | exact HB.out | apply below_alloc | apply pw_below_drewN | apply below_drew1 | refine below_set ?_ GE184.out) | exact HB.out)⟩
                      · rw [if_neg c21] at H
                        have c21b0 : decide (x6_3 < 0) = false := decide_eq_false c21
                        clear c21
                        simp only [Option.some.injEq, Prod.mk.injEq] at H
                        obtain ⟨rfl, rfl, rfl, rfl⟩ := H
                        have p12 : 0 ≤ (x7_3 : Int) := of_decide_eq_true (by first | (with_reducible assumption) | assumption)
                        have q12 : x7_3 < (x0_6.size : Int) := of_decide_eq_true (by first | (with_reducible assumption) | assumption)
                        have hx12 := bt_at x0_6 x7_3
                        replace p12 := eq_true p12
                        replace q12 := eq_true q12
                        go_wp2_with (first | ((with_reducible refine gate_callee (f := 35) rfl ?_); refine goesL_ (some 31) rfl rfl Tryd.func35 (by kernel_rfl) rfl #[.int .u8 (bt x0_6 x7_3)] rfl (by (try simp only [List.map_toArray, List.map_cons, List.map_nil]); first | done | rfl | (simp only [List.length_drop, List.length_take]; rfl)) ?_; (with_reducible refine (polyglotlaw02_digit.calls (bt x0_6 x7_3) false _ A13.out).mono ?_); rintro e w' ⟨rfl, ⟨nd, rfl⟩⟩; refine ⟨_, rfl, ?_⟩; (try (rw [drewN_self wr]; generalize hq_ : World.drewN wr _ = wr; have n0_ : Aside0 (wr.heap[gb184]? = some (.cells #[.bool x185000_3, .string x185001_3, .int .i64 x185002_3] 23 (0, 0))) := ⟨by rw [← hq_]; exact (by (with_reducible repeat (first | refine blk_drewN ?_ _ | refine blk_drew ?_ | refine blk_alloc ?_ _)); exact BK184.out)⟩; have n1_ : Aside0 (Below w.heap.size w wr) := ⟨by rw [← hq_]; exact (by repeat (first | (with_reducible first | exact HB.out | apply below_alloc | apply pw_below_drewN | apply below_drew1 | refine below_set ?_ GE184.out) | exact HB.out))⟩; clear BK184 HB hq_; have BK184 := n0_; have HB := n1_; clear n0_ n1_)); have p19 : 0 ≤ (x7_3 : Int) := of_decide_eq_true (by first | (with_reducible assumption) | assumption); have q19 : x7_3 < (x0_6.size : Int) := of_decide_eq_true (by first | (with_reducible assumption) | assumption); have hx19 := bt_at x0_6 x7_3; replace p19 := eq_true p19; replace q19 := eq_true q19; have hcz26_0 : wr.cell? ⟨gb184, 0, none⟩ = some (.bool x185000_3) := (blk_cell BK184.out 0).trans rfl; have hcz26_1 : wr.cell? ⟨gb184, 1, none⟩ = some (.string x185001_3) := (blk_cell BK184.out 1).trans rfl; have hcz26_2 : wr.cell? ⟨gb184, 2, none⟩ = some (.int .i64 x185002_3) := (blk_cell BK184.out 2).trans rfl; have hfz26_0 := blk_frozen BK184.out 0; have hfz26_1 := blk_frozen BK184.out 1; have hfz26_2 := blk_frozen BK184.out 2))
                        refine bodyPost_ret (results_ct rfl _ _ gb184 23 #[.bool false, .string (⟨#[]⟩ : ByteArray), .int .i64 0] (0, 0) _ rfl (by (with_reducible repeat (first | refine blk_drewN ?_ _ | refine blk_drew ?_ | refine blk_alloc ?_ _)); refine blk_put (cs := #[.bool false, .string (⟨#[]⟩ : ByteArray), .int .i64 x185002_3]) ?_ 2 _ rfl; (with_reducible repeat (first | refine blk_drewN ?_ _ | refine blk_drew ?_ | refine blk_alloc ?_ _)); refine blk_put (cs := #[.bool false, .string x185001_3, .int .i64 x185002_3]) ?_ 1 _ rfl; (with_reducible repeat (first | refine blk_drewN ?_ _ | refine blk_drew ?_ | refine blk_alloc ?_ _)); refine blk_put (cs := #[.bool x185000_3, .string x185001_3, .int .i64 x185002_3]) ?_ 0 _ rfl; (with_reducible repeat (first | refine blk_drewN ?_ _ | refine blk_drew ?_ | refine blk_alloc ?_ _)); exact BK184.out) Tryd.underlying23 rfl (by kernel_rfl)) rfl ?_
                        exact ⟨by first | rfl | (simp [errW_none, errW_some] <;> rfl) | (simp [*, errW_none, errW_some] <;> rfl), by repeat (first | (with_reducible first | exact HB.out | apply below_alloc | apply pw_below_drewN | apply below_drew1 | refine below_set ?_ GE184.out) | exact HB.out)⟩
                    · rw [if_neg c20] at H
                      have c20b0 : ((bt x0_6 x7_3) == 46) = false := beq_eq_false_iff_ne.mpr c20
                      have c20b1 : ((bt x0_6 x7_3) != 46) = true := bne_iff_ne.mpr c20
                      simp only [Option.some.injEq, Prod.mk.injEq] at H
                      obtain ⟨rfl, rfl, rfl, rfl⟩ := H
                      have p12 : 0 ≤ (x7_3 : Int) := of_decide_eq_true (by first | (with_reducible assumption) | assumption)
                      have q12 : x7_3 < (x0_6.size : Int) := of_decide_eq_true (by first | (with_reducible assumption) | assumption)
                      have hx12 := bt_at x0_6 x7_3
                      replace p12 := eq_true p12
                      replace q12 := eq_true q12
                      go_wp2_with (first | ((with_reducible refine gate_callee (f := 35) rfl ?_); refine goesL_ (some 31) rfl rfl Tryd.func35 (by kernel_rfl) rfl #[.int .u8 (bt x0_6 x7_3)] rfl (by (try simp only [List.map_toArray, List.map_cons, List.map_nil]); first | done | rfl | (simp only [List.length_drop, List.length_take]; rfl)) ?_; (with_reducible refine (polyglotlaw02_digit.calls (bt x0_6 x7_3) false _ A13.out).mono ?_); rintro e w' ⟨rfl, ⟨nd, rfl⟩⟩; refine ⟨_, rfl, ?_⟩; (try (rw [drewN_self wr]; generalize hq_ : World.drewN wr _ = wr; have n0_ : Aside0 (wr.heap[gb184]? = some (.cells #[.bool x185000_3, .string x185001_3, .int .i64 x185002_3] 23 (0, 0))) := ⟨by rw [← hq_]; exact (by (with_reducible repeat (first | refine blk_drewN ?_ _ | refine blk_drew ?_ | refine blk_alloc ?_ _)); exact BK184.out)⟩; have n1_ : Aside0 (Below w.heap.size w wr) := ⟨by rw [← hq_]; exact (by repeat (first | (with_reducible first | exact HB.out | apply below_alloc | apply pw_below_drewN | apply below_drew1 | refine below_set ?_ GE184.out) | exact HB.out))⟩; clear BK184 HB hq_; have BK184 := n0_; have HB := n1_; clear n0_ n1_)); have p19 : 0 ≤ (x7_3 : Int) := of_decide_eq_true (by first | (with_reducible assumption) | assumption); have q19 : x7_3 < (x0_6.size : Int) := of_decide_eq_true (by first | (with_reducible assumption) | assumption); have hx19 := bt_at x0_6 x7_3; replace p19 := eq_true p19; replace q19 := eq_true q19; have hcz27_0 : wr.cell? ⟨gb184, 0, none⟩ = some (.bool x185000_3) := (blk_cell BK184.out 0).trans rfl; have hcz27_1 : wr.cell? ⟨gb184, 1, none⟩ = some (.string x185001_3) := (blk_cell BK184.out 1).trans rfl; have hcz27_2 : wr.cell? ⟨gb184, 2, none⟩ = some (.int .i64 x185002_3) := (blk_cell BK184.out 2).trans rfl; have hfz27_0 := blk_frozen BK184.out 0; have hfz27_1 := blk_frozen BK184.out 1; have hfz27_2 := blk_frozen BK184.out 2))
                      refine bodyPost_ret (results_ct rfl _ _ gb184 23 #[.bool false, .string (⟨#[]⟩ : ByteArray), .int .i64 0] (0, 0) _ rfl (by (with_reducible repeat (first | refine blk_drewN ?_ _ | refine blk_drew ?_ | refine blk_alloc ?_ _)); refine blk_put (cs := #[.bool false, .string (⟨#[]⟩ : ByteArray), .int .i64 x185002_3]) ?_ 2 _ rfl; (with_reducible repeat (first | refine blk_drewN ?_ _ | refine blk_drew ?_ | refine blk_alloc ?_ _)); refine blk_put (cs := #[.bool false, .string x185001_3, .int .i64 x185002_3]) ?_ 1 _ rfl; (with_reducible repeat (first | refine blk_drewN ?_ _ | refine blk_drew ?_ | refine blk_alloc ?_ _)); refine blk_put (cs := #[.bool x185000_3, .string x185001_3, .int .i64 x185002_3]) ?_ 0 _ rfl; (with_reducible repeat (first | refine blk_drewN ?_ _ | refine blk_drew ?_ | refine blk_alloc ?_ _)); exact BK184.out) Tryd.underlying23 rfl (by kernel_rfl)) rfl ?_
                      exact ⟨by first | rfl | (simp [errW_none, errW_some] <;> rfl) | (simp [*, errW_none, errW_some] <;> rfl), by repeat (first | (with_reducible first | exact HB.out | apply below_alloc | apply pw_below_drewN | apply below_drew1 | refine below_set ?_ GE184.out) | exact HB.out)⟩
                · rw [if_neg c11] at H
                  exact absurd H (by simp)
              · rw [if_neg c10] at H
                have c10b0 : decide (x7_3 < (x0_6.size : Int)) = false := decide_eq_false c10
                clear c10
                have HC28 := Aside0.mk H
                clear H
                go_upto_region 14 with (fail)
                go_cut [67] (fun v67 wc => ∃ (kq : Nat) (x67_27 : Bool), v67 = .bool x67_27 ∧ Aside0 (polyglotlaw02_Parse.j3 kq x0_6 x4_1 x5_3 x6_3 x67_27 = some (r1, r2, r3, r4)) ∧ Aside0 (kq ≤ k3) ∧ Aside0 (wc.heap[gb184]? = some (.cells #[.bool x185000_3, .string x185001_3, .int .i64 x185002_3] 23 (0, 0))) ∧ Aside0 (Below w.heap.size w wc))
                case first =>
                  have H := HC28.out
                  clear HC28
                  by_cases c29 : (x5_3.size : Int) = 0
                  · rw [if_pos c29] at H
                    have c29b0 : ((x5_3.size : Int) == 0) = true := beq_iff_eq.mpr c29
                    have c29b1 : ((x5_3.size : Int) != 0) = false := bne_eq_false_iff_eq.mpr c29
                    clear c29
                    (first | rw [c29b0] | (simp only [i64_w, i32_w]; rw [c29b0]) | skip)
                    have H' := Aside0.mk H
                    clear H
                    go_wp2
                    go_meet
                    case rel => exact ⟨_, (true), (by first | rfl | (simp; done) | (simp [*]; done)), H', ⟨by have := HJ1.out; have := HJ6.out; have := HK3.out; first | omega | exact Nat.le_refl _⟩, ⟨by (with_reducible repeat (first | refine blk_drewN ?_ _ | refine blk_drew ?_ | refine blk_alloc ?_ _)); exact BK184.out⟩, ⟨by repeat (first | (with_reducible first | exact HB.out | apply below_alloc | apply pw_below_drewN | apply below_drew1 | refine below_set ?_ GE184.out) | exact HB.out)⟩⟩
                  · rw [if_neg c29] at H
                    have c29b0 : ((x5_3.size : Int) == 0) = false := beq_eq_false_iff_ne.mpr c29
                    have c29b1 : ((x5_3.size : Int) != 0) = true := bne_iff_ne.mpr c29
                    (first | rw [c29b0] | (simp only [i64_w, i32_w]; rw [c29b0]) | skip)
                    have H' := Aside0.mk H
                    clear H
                    go_wp2
                    go_meet
                    case rel => exact ⟨_, (decide ((x5_3.size : Int) > 40)), (by first | rfl | (simp; done) | (simp [*]; done)), H', ⟨by have := HJ1.out; have := HJ6.out; have := HK3.out; first | omega | exact Nat.le_refl _⟩, ⟨by (with_reducible repeat (first | refine blk_drewN ?_ _ | refine blk_drew ?_ | refine blk_alloc ?_ _)); exact BK184.out⟩, ⟨by repeat (first | (with_reducible first | exact HB.out | apply below_alloc | apply pw_below_drewN | apply below_drew1 | refine below_set ?_ GE184.out) | exact HB.out)⟩⟩
                case rest =>
                  clear HC28
                  try clear c1
                  try clear p1
                  try clear q1
                  try clear hx1
                  try clear c2
                  try clear p2
                  try clear c3
                  try clear c4
                  try clear c4b0
                  try clear c4b1
                  try clear c5
                  try clear c5b0
                  try clear c5b1
                  try clear p6
                  try clear q6
                  try clear hx6
                  try clear qi6
                  try clear c8
                  try clear c9
                  try clear c9b0
                  try clear c9b1
                  try clear c10
                  try clear c10b0
                  try clear c11
                  try clear c11b0
                  try clear p12
                  try clear q12
                  try clear hx12
                  try clear c14
                  try clear c15
                  try clear c15b0
                  try clear c16
                  try clear c16b0
                  try clear c16b1
                  try clear c17
                  try clear c17b0
                  try clear c17b1
                  try clear c18
                  try clear c18b0
                  try clear c18b1
                  try clear c18b2
                  try clear p19
                  try clear q19
                  try clear hx19
                  try clear c20
                  try clear c20b0
                  try clear c20b1
                  try clear c21
                  try clear c21b0
                  try clear c22
                  try clear c22b0
                  try clear c23
                  try clear c23b0
                  try clear c29
                  try clear c29b0
                  try clear c29b1
                  try clear hcz24_0
                  try clear hcz24_1
                  try clear hcz24_2
                  try clear hcz25_0
                  try clear hcz25_1
                  try clear hcz25_2
                  try clear hcz26_0
                  try clear hcz26_1
                  try clear hcz26_2
                  try clear hcz27_0
                  try clear hcz27_1
                  try clear hcz27_2
                  try clear hfz24_0
                  try clear hfz24_1
                  try clear hfz24_2
                  try clear hfz25_0
                  try clear hfz25_1
                  try clear hfz25_2
                  try clear hfz26_0
                  try clear hfz26_1
                  try clear hfz26_2
                  try clear hfz27_0
                  try clear hfz27_1
                  try clear hfz27_2
                  try clear p12
                  try clear p19
                  try clear p2
                  try clear p6
                  try clear q12
                  try clear q19
                  try clear q6
                  obtain ⟨kq, x67_27, rfl, HA, HJ27, BK184, HB⟩ := hcut
                  cases kq with
                  | zero => exact absurd HA.out (by simp [polyglotlaw02_Parse.j3])
                  | succ kj27 =>
                    have H := HA.out
                    clear HA
                    simp only [polyglotlaw02_Parse.j3] at H
                    by_cases c30 : x67_27 = true
                    · subst c30
                      have H1 : (some (false, (⟨#[]⟩ : ByteArray), 0, false)) = some (r1, r2, r3, r4) := by rw [if_pos rfl] at H; exact H
                      clear H
                      have H := H1
                      clear H1
                      simp only [Option.some.injEq, Prod.mk.injEq] at H
                      obtain ⟨rfl, rfl, rfl, rfl⟩ := H
                      have hcz31_0 : wc.cell? ⟨gb184, 0, none⟩ = some (.bool x185000_3) := (blk_cell BK184.out 0).trans rfl
                      have hcz31_1 : wc.cell? ⟨gb184, 1, none⟩ = some (.string x185001_3) := (blk_cell BK184.out 1).trans rfl
                      have hcz31_2 : wc.cell? ⟨gb184, 2, none⟩ = some (.int .i64 x185002_3) := (blk_cell BK184.out 2).trans rfl
                      have hfz31_0 := blk_frozen BK184.out 0
                      have hfz31_1 := blk_frozen BK184.out 1
                      have hfz31_2 := blk_frozen BK184.out 2
                      go_wp2
                      refine bodyPost_ret (results_ct rfl _ _ gb184 23 #[.bool false, .string (⟨#[]⟩ : ByteArray), .int .i64 0] (0, 0) _ rfl (by (with_reducible repeat (first | refine blk_drewN ?_ _ | refine blk_drew ?_ | refine blk_alloc ?_ _)); refine blk_put (cs := #[.bool false, .string (⟨#[]⟩ : ByteArray), .int .i64 x185002_3]) ?_ 2 _ rfl; (with_reducible repeat (first | refine blk_drewN ?_ _ | refine blk_drew ?_ | refine blk_alloc ?_ _)); refine blk_put (cs := #[.bool false, .string x185001_3, .int .i64 x185002_3]) ?_ 1 _ rfl; (with_reducible repeat (first | refine blk_drewN ?_ _ | refine blk_drew ?_ | refine blk_alloc ?_ _)); refine blk_put (cs := #[.bool x185000_3, .string x185001_3, .int .i64 x185002_3]) ?_ 0 _ rfl; (with_reducible repeat (first | refine blk_drewN ?_ _ | refine blk_drew ?_ | refine blk_alloc ?_ _)); exact BK184.out) Tryd.underlying23 rfl (by kernel_rfl)) rfl ?_
                      exact ⟨by first | rfl | (simp [errW_none, errW_some] <;> rfl) | (simp [*, errW_none, errW_some] <;> rfl), by repeat (first | (with_reducible first | exact HB.out | apply below_alloc | apply pw_below_drewN | apply below_drew1 | refine below_set ?_ GE184.out) | exact HB.out)⟩
                    · replace c30 := Bool.eq_false_iff.mpr c30
                      subst c30
                      have H1 : (if x6_3 ≥ 0 then (polyglotlaw02_Parse.j4 kj27 x4_1 x5_3 (wrap64 ((wrap64 ((x0_6.size : Int) - 1)) - x6_3))) else (polyglotlaw02_Parse.j4 kj27 x4_1 x5_3 0)) = some (r1, r2, r3, r4) := by rw [if_neg (show ¬ (false = true) by decide)] at H; exact H
                      clear H
                      have H := H1
                      clear H1
                      have HC32 := Aside0.mk H
                      clear H
                      go_upto_if 70 with (fail)
                      go_cut [8] (fun v8 wc => ∃ (kq : Nat) (x8_31 : Int), v8 = .int .i64 x8_31 ∧ Aside0 (polyglotlaw02_Parse.j4 kq x4_1 x5_3 x8_31 = some (r1, r2, r3, r4)) ∧ Aside0 (kq ≤ kj27) ∧ Aside0 (wc.heap[gb184]? = some (.cells #[.bool x185000_3, .string x185001_3, .int .i64 x185002_3] 23 (0, 0))) ∧ Aside0 (Below w.heap.size w wc))
                      case first =>
                        have H := HC32.out
                        clear HC32
                        by_cases c33 : x6_3 ≥ 0
                        · rw [if_pos c33] at H
                          have c33b0 : decide (0 ≤ x6_3) = true := decide_eq_true c33
                          clear c33
                          (first | rw [c33b0] | (simp only [i64_w, i32_w]; rw [c33b0]) | skip)
                          have H' := Aside0.mk H
                          clear H
                          go_wp2
                          go_meet
                          case rel => exact ⟨_, (wrap64 ((wrap64 ((x0_6.size : Int) - 1)) - x6_3)), (by first | rfl | (simp; done) | (simp [*]; done)), H', ⟨by have := HJ1.out; have := HJ6.out; have := HK3.out; have := HJ27.out; first | omega | exact Nat.le_refl _⟩, ⟨by (with_reducible repeat (first | refine blk_drewN ?_ _ | refine blk_drew ?_ | refine blk_alloc ?_ _)); exact BK184.out⟩, ⟨by repeat (first | (with_reducible first | exact HB.out | apply below_alloc | apply pw_below_drewN | apply below_drew1 | refine below_set ?_ GE184.out) | exact HB.out)⟩⟩
                        · rw [if_neg c33] at H
                          have c33b0 : decide (0 ≤ x6_3) = false := decide_eq_false c33
                          clear c33
                          (first | rw [c33b0] | (simp only [i64_w, i32_w]; rw [c33b0]) | skip)
                          have H' := Aside0.mk H
                          clear H
                          go_wp2
                          go_meet
                          case rel => exact ⟨_, (0), (by first | rfl | (simp; done) | (simp [*]; done)), H', ⟨by have := HJ1.out; have := HJ6.out; have := HK3.out; have := HJ27.out; first | omega | exact Nat.le_refl _⟩, ⟨by (with_reducible repeat (first | refine blk_drewN ?_ _ | refine blk_drew ?_ | refine blk_alloc ?_ _)); exact BK184.out⟩, ⟨by repeat (first | (with_reducible first | exact HB.out | apply below_alloc | apply pw_below_drewN | apply below_drew1 | refine below_set ?_ GE184.out) | exact HB.out)⟩⟩
                      case rest =>
                        clear HC32
                        try clear c1
                        try clear p1
                        try clear q1
                        try clear hx1
                        try clear c2
                        try clear p2
                        try clear c3
                        try clear c4
                        try clear c4b0
                        try clear c4b1
                        try clear c5
                        try clear c5b0
                        try clear c5b1
                        try clear p6
                        try clear q6
                        try clear hx6
                        try clear qi6
                        try clear c8
                        try clear c9
                        try clear c9b0
                        try clear c9b1
                        try clear c10
                        try clear c10b0
                        try clear c11
                        try clear c11b0
                        try clear p12
                        try clear q12
                        try clear hx12
                        try clear c14
                        try clear c15
                        try clear c15b0
                        try clear c16
                        try clear c16b0
                        try clear c16b1
                        try clear c17
                        try clear c17b0
                        try clear c17b1
                        try clear c18
                        try clear c18b0
                        try clear c18b1
                        try clear c18b2
                        try clear p19
                        try clear q19
                        try clear hx19
                        try clear c20
                        try clear c20b0
                        try clear c20b1
                        try clear c21
                        try clear c21b0
                        try clear c22
                        try clear c22b0
                        try clear c23
                        try clear c23b0
                        try clear c29
                        try clear c29b0
                        try clear c29b1
                        try clear c30
                        try clear c33
                        try clear c33b0
                        try clear hcz24_0
                        try clear hcz24_1
                        try clear hcz24_2
                        try clear hcz25_0
                        try clear hcz25_1
                        try clear hcz25_2
                        try clear hcz26_0
                        try clear hcz26_1
                        try clear hcz26_2
                        try clear hcz27_0
                        try clear hcz27_1
                        try clear hcz27_2
                        try clear hcz31_0
                        try clear hcz31_1
                        try clear hcz31_2
                        try clear hfz24_0
                        try clear hfz24_1
                        try clear hfz24_2
                        try clear hfz25_0
                        try clear hfz25_1
                        try clear hfz25_2
                        try clear hfz26_0
                        try clear hfz26_1
                        try clear hfz26_2
                        try clear hfz27_0
                        try clear hfz27_1
                        try clear hfz27_2
                        try clear hfz31_0
                        try clear hfz31_1
                        try clear hfz31_2
                        try clear p1
                        try clear p12
                        try clear p19
                        try clear p2
                        try clear p6
                        try clear q1
                        try clear q12
                        try clear q19
                        try clear q6
                        obtain ⟨kq, x8_31, rfl, HA, HJ31, BK184, HB⟩ := hcut
                        cases kq with
                        | zero => exact absurd HA.out (by simp [polyglotlaw02_Parse.j4])
                        | succ kj31 =>
                          have H := HA.out
                          clear HA
                          simp only [polyglotlaw02_Parse.j4] at H
                          have H' := Aside0.mk H
                          clear H
                          go_wp2
                          go_loopg [5] kj31 (fun kq v5 w' => ∃ (x5_6 : ByteArray), v5 = .string x5_6 ∧ Aside0 (polyglotlaw02_Parse.l1 kq x4_1 x5_6 x8_31 = some (r1, r2, r3, r4)) ∧ Aside0 (kq ≤ kj31) ∧ Aside0 (w'.heap[gb184]? = some (.cells #[.bool x185000_3, .string x185001_3, .int .i64 x185002_3] 23 (0, 0))) ∧ Aside0 (Below w.heap.size w w'))
                          case atStart => exact ⟨(x5_3), (by first | rfl | (simp; done) | (simp [*]; done)), H', ⟨Nat.le_refl _⟩, ⟨by (with_reducible repeat (first | refine blk_drewN ?_ _ | refine blk_drew ?_ | refine blk_alloc ?_ _)); exact BK184.out⟩, ⟨by repeat (first | (with_reducible first | exact HB.out | apply below_alloc | apply pw_below_drewN | apply below_drew1 | refine below_set ?_ GE184.out) | exact HB.out)⟩⟩
                          case round =>
                            clear H'
                            try clear c1
                            try clear p1
                            try clear q1
                            try clear hx1
                            try clear c2
                            try clear p2
                            try clear c3
                            try clear c4
                            try clear c4b0
                            try clear c4b1
                            try clear c5
                            try clear c5b0
                            try clear c5b1
                            try clear p6
                            try clear q6
                            try clear hx6
                            try clear qi6
                            try clear c8
                            try clear c9
                            try clear c9b0
                            try clear c9b1
                            try clear c10
                            try clear c10b0
                            try clear c11
                            try clear c11b0
                            try clear p12
                            try clear q12
                            try clear hx12
                            try clear c14
                            try clear c15
                            try clear c15b0
                            try clear c16
                            try clear c16b0
                            try clear c16b1
                            try clear c17
                            try clear c17b0
                            try clear c17b1
                            try clear c18
                            try clear c18b0
                            try clear c18b1
                            try clear c18b2
                            try clear p19
                            try clear q19
                            try clear hx19
                            try clear c20
                            try clear c20b0
                            try clear c20b1
                            try clear c21
                            try clear c21b0
                            try clear c22
                            try clear c22b0
                            try clear c23
                            try clear c23b0
                            try clear c29
                            try clear c29b0
                            try clear c29b1
                            try clear c30
                            try clear c33
                            try clear c33b0
                            try clear hcz24_0
                            try clear hcz24_1
                            try clear hcz24_2
                            try clear hcz25_0
                            try clear hcz25_1
                            try clear hcz25_2
                            try clear hcz26_0
                            try clear hcz26_1
                            try clear hcz26_2
                            try clear hcz27_0
                            try clear hcz27_1
                            try clear hcz27_2
                            try clear hcz31_0
                            try clear hcz31_1
                            try clear hcz31_2
                            try clear hfz24_0
                            try clear hfz24_1
                            try clear hfz24_2
                            try clear hfz25_0
                            try clear hfz25_1
                            try clear hfz25_2
                            try clear hfz26_0
                            try clear hfz26_1
                            try clear hfz26_2
                            try clear hfz27_0
                            try clear hfz27_1
                            try clear hfz27_2
                            try clear hfz31_0
                            try clear hfz31_1
                            try clear hfz31_2
                            try clear p1
                            try clear p12
                            try clear p19
                            try clear p2
                            try clear p6
                            try clear q1
                            try clear q12
                            try clear q19
                            try clear q6
                            obtain ⟨x5_6, rfl, HA, HK6, BK184, HB⟩ := hrel
                            cases gk with
                            | zero => exact absurd HA.out (by simp [polyglotlaw02_Parse.l1])
                            | succ k6 =>
                              have H := HA.out
                              clear HA
                              simp only [polyglotlaw02_Parse.l1] at H
                              by_cases c34 : (x5_6.size : Int) > (wrap64 (x8_31 + 1))
                              · rw [if_pos c34] at H
                                have c34b0 : decide ((wrap64 (x8_31 + 1)) < (x5_6.size : Int)) = true := decide_eq_true c34
                                clear c34
                                by_cases c35 : 0 < (x5_6.size : Int)
                                · rw [if_pos c35] at H
                                  have c35b0 : decide (0 < (x5_6.size : Int)) = true := decide_eq_true c35
                                  have c35b1 : decide (0 < x5_6.size) = true := decide_eq_true (by omega)
                                  clear c35
                                  by_cases c37 : (bt x5_6 0) = 48
                                  · rw [if_pos c37] at H
                                    have c37b0 : ((bt x5_6 0) == 48) = true := beq_iff_eq.mpr c37
                                    have c37b1 : ((bt x5_6 0) != 48) = false := bne_eq_false_iff_eq.mpr c37
                                    clear c37
                                    by_cases c38 : 1 ≤ (x5_6.size : Int)
                                    · rw [if_pos c38] at H
                                      have c38b0 := eq_true c38
                                      have c38b1 : decide (1 ≤ (x5_6.size : Int)) = true := decide_eq_true c38
                                      clear c38
                                      have H' := Aside0.mk H
                                      clear H
                                      have p36 : 0 ≤ (0 : Int) := (by omega)
                                      have q36 : 0 < x5_6.size := (by have : (0 : Int) < (x5_6.size : Int) := of_decide_eq_true (by first | (with_reducible assumption) | assumption); omega)
                                      have hx36 : ∀ h : 0 < x5_6.size, ((x5_6[0]'h).toNat : Int) = bt x5_6 0 := bt_at x5_6 0
                                      clear p36
                                      have qi36 : (0 < (x5_6.size : Int)) = True := eq_true (of_decide_eq_true (by first | (with_reducible assumption) | assumption))
                                      replace q36 := eq_true q36
                                      go_wp2
                                      go_roundg k6
                                      case measure => have := HJ1.out; have := HJ6.out; have := HK3.out; have := HJ27.out; have := HJ31.out; have := HK6.out; omega
                                      case rel => exact ⟨(x5_6.extract 1 x5_6.size), (by first | rfl | (simp; done) | (simp [*]; done)), H', ⟨by have := HJ1.out; have := HJ6.out; have := HK3.out; have := HJ27.out; have := HJ31.out; have := HK6.out; omega⟩, ⟨by (with_reducible repeat (first | refine blk_drewN ?_ _ | refine blk_drew ?_ | refine blk_alloc ?_ _)); exact BK184.out⟩, ⟨by repeat (first | (with_reducible first | exact HB.out | apply below_alloc | apply pw_below_drewN | apply below_drew1 | refine below_set ?_ GE184.out) | exact HB.out)⟩⟩
                                    · rw [if_neg c38] at H
                                      exact absurd H (by simp)
                                  · rw [if_neg c37] at H
                                    have c37b0 : ((bt x5_6 0) == 48) = false := beq_eq_false_iff_ne.mpr c37
                                    have c37b1 : ((bt x5_6 0) != 48) = true := bne_iff_ne.mpr c37
                                    simp only [Option.some.injEq, Prod.mk.injEq] at H
                                    obtain ⟨rfl, rfl, rfl, rfl⟩ := H
                                    have p36 : 0 ≤ (0 : Int) := (by omega)
                                    have q36 : 0 < x5_6.size := (by have : (0 : Int) < (x5_6.size : Int) := of_decide_eq_true (by first | (with_reducible assumption) | assumption); omega)
                                    have hx36 : ∀ h : 0 < x5_6.size, ((x5_6[0]'h).toNat : Int) = bt x5_6 0 := bt_at x5_6 0
                                    clear p36
                                    have qi36 : (0 < (x5_6.size : Int)) = True := eq_true (of_decide_eq_true (by first | (with_reducible assumption) | assumption))
                                    replace q36 := eq_true q36
                                    have hcz39_0 : wr.cell? ⟨gb184, 0, none⟩ = some (.bool x185000_3) := (blk_cell BK184.out 0).trans rfl
                                    have hcz39_1 : wr.cell? ⟨gb184, 1, none⟩ = some (.string x185001_3) := (blk_cell BK184.out 1).trans rfl
                                    have hcz39_2 : wr.cell? ⟨gb184, 2, none⟩ = some (.int .i64 x185002_3) := (blk_cell BK184.out 2).trans rfl
                                    have hfz39_0 := blk_frozen BK184.out 0
                                    have hfz39_1 := blk_frozen BK184.out 1
                                    have hfz39_2 := blk_frozen BK184.out 2
                                    go_wp2
                                    refine bodyPost_ret (results_ct rfl _ _ gb184 23 #[.bool x4_1, .string x5_6, .int .i64 x8_31] (0, 0) _ rfl (by (with_reducible repeat (first | refine blk_drewN ?_ _ | refine blk_drew ?_ | refine blk_alloc ?_ _)); refine blk_put (cs := #[.bool x4_1, .string x5_6, .int .i64 x185002_3]) ?_ 2 _ rfl; (with_reducible repeat (first | refine blk_drewN ?_ _ | refine blk_drew ?_ | refine blk_alloc ?_ _)); refine blk_put (cs := #[.bool x4_1, .string x185001_3, .int .i64 x185002_3]) ?_ 1 _ rfl; (with_reducible repeat (first | refine blk_drewN ?_ _ | refine blk_drew ?_ | refine blk_alloc ?_ _)); refine blk_put (cs := #[.bool x185000_3, .string x185001_3, .int .i64 x185002_3]) ?_ 0 _ rfl; (with_reducible repeat (first | refine blk_drewN ?_ _ | refine blk_drew ?_ | refine blk_alloc ?_ _)); exact BK184.out) Tryd.underlying23 rfl (by kernel_rfl)) rfl ?_
                                    exact ⟨by first | rfl | (simp [errW_none, errW_some] <;> rfl) | (simp [*, errW_none, errW_some] <;> rfl), by repeat (first | (with_reducible first | exact HB.out | apply below_alloc | apply pw_below_drewN | apply below_drew1 | refine below_set ?_ GE184.out) | exact HB.out)⟩
                                · rw [if_neg c35] at H
                                  exact absurd H (by simp)
                              · rw [if_neg c34] at H
                                have c34b0 : decide ((wrap64 (x8_31 + 1)) < (x5_6.size : Int)) = false := decide_eq_false c34
                                clear c34
                                simp only [Option.some.injEq, Prod.mk.injEq] at H
                                obtain ⟨rfl, rfl, rfl, rfl⟩ := H
                                have hcz40_0 : wr.cell? ⟨gb184, 0, none⟩ = some (.bool x185000_3) := (blk_cell BK184.out 0).trans rfl
                                have hcz40_1 : wr.cell? ⟨gb184, 1, none⟩ = some (.string x185001_3) := (blk_cell BK184.out 1).trans rfl
                                have hcz40_2 : wr.cell? ⟨gb184, 2, none⟩ = some (.int .i64 x185002_3) := (blk_cell BK184.out 2).trans rfl
                                have hfz40_0 := blk_frozen BK184.out 0
                                have hfz40_1 := blk_frozen BK184.out 1
                                have hfz40_2 := blk_frozen BK184.out 2
                                go_wp2
                                refine bodyPost_ret (results_ct rfl _ _ gb184 23 #[.bool x4_1, .string x5_6, .int .i64 x8_31] (0, 0) _ rfl (by (with_reducible repeat (first | refine blk_drewN ?_ _ | refine blk_drew ?_ | refine blk_alloc ?_ _)); refine blk_put (cs := #[.bool x4_1, .string x5_6, .int .i64 x185002_3]) ?_ 2 _ rfl; (with_reducible repeat (first | refine blk_drewN ?_ _ | refine blk_drew ?_ | refine blk_alloc ?_ _)); refine blk_put (cs := #[.bool x4_1, .string x185001_3, .int .i64 x185002_3]) ?_ 1 _ rfl; (with_reducible repeat (first | refine blk_drewN ?_ _ | refine blk_drew ?_ | refine blk_alloc ?_ _)); refine blk_put (cs := #[.bool x185000_3, .string x185001_3, .int .i64 x185002_3]) ?_ 0 _ rfl; (with_reducible repeat (first | refine blk_drewN ?_ _ | refine blk_drew ?_ | refine blk_alloc ?_ _)); exact BK184.out) Tryd.underlying23 rfl (by kernel_rfl)) rfl ?_
                                exact ⟨by first | rfl | (simp [errW_none, errW_some] <;> rfl) | (simp [*, errW_none, errW_some] <;> rfl), by repeat (first | (with_reducible first | exact HB.out | apply below_alloc | apply pw_below_drewN | apply below_drew1 | refine below_set ?_ GE184.out) | exact HB.out)⟩
end Go.Proofs.YtonjkoeacedaiaaDoor.R

namespace Go.Proofs.YtonjkoeacedaiaaDoor.PU
open Go.RowKit Go.Proofs.YtonjkoeacedaiaaDoor Go.Proofs.YtonjkoeacedaiaaDoor.G Go.Proofs.YtonjkoeacedaiaaDoor.U Go.Proofs.YtonjkoeacedaiaaDoor.R Go.Proofs.YtonjkoeacedaiaaDoorW.PrintWords
set_option linter.unusedVariables false
set_option linter.unusedSimpArgs false
abbrev bl (s : ByteArray) : List UInt8 := s.data.toList
theorem tl (s : ByteArray) : s.toList = bl s := Lib.toList_data s
theorem sz (s : ByteArray) : s.size = (bl s).length := Lib.size_eq s
theorem ba_ext {a b : ByteArray} (h : bl a = bl b) : a = b := by
  cases a; cases b; congr 1; exact Array.ext' h
theorem bl_app (a b : ByteArray) : bl (a ++ b) = bl a ++ bl b := by show (a ++ b).data.toList = _; rw [ByteArray.data_append, Array.toList_append]
theorem bl_ext (s : ByteArray) (a b : Nat) : bl (s.extract a b) = ((bl s).drop a).take (b - a) := Lib.extract_data s a b
theorem bl_mk (l : List UInt8) : bl ⟨l.toArray⟩ = l := rfl
theorem mk_bl (s : ByteArray) : (⟨(bl s).toArray⟩ : ByteArray) = s := ba_ext rfl
theorem sz_app (a b : ByteArray) : (a ++ b).size = a.size + b.size := ByteArray.size_append
theorem w64 (x : Int) (h0 : -9223372036854775808 ≤ x) (h1 : x ≤ 9223372036854775807) : wrap64 x = x := by unfold wrap64; omega
theorem bt_nat (s : ByteArray) (i : Nat) (c : UInt8) (h : (bl s)[i]? = some c) : bt s (i : Int) = c.toNat := by
  obtain ⟨hl, e⟩ := List.getElem?_eq_some_iff.1 h
  have hl' : i < s.size := by rw [sz]; exact hl
  unfold bt
  rw [Int.toNat_natCast, dif_pos hl']
  rw [← e]
  rfl
def isDig (c : UInt8) : Bool := decide (48 ≤ c.toNat) && decide (c.toNat ≤ 57)
theorem digit_f (c : UInt8) : polyglotlaw02_digit.f (c.toNat : Int) = some (isDig c) := by
  unfold polyglotlaw02_digit.f isDig
  by_cases h : 48 ≤ c.toNat
  · rw [if_pos (by omega)]
    simp [h]
    omega
  · rw [if_neg (by omega)]
    simp [h]
theorem head_ok : polyglotlaw02_head.f 3 = some true := by kernel_rfl
end Go.Proofs.YtonjkoeacedaiaaDoor.PU
namespace Go.Proofs.YtonjkoeacedaiaaDoor.S
open Go.RowKit Go.Proofs.YtonjkoeacedaiaaDoor Go.Proofs.YtonjkoeacedaiaaDoor.G Go.Proofs.YtonjkoeacedaiaaDoor.U Go.Proofs.YtonjkoeacedaiaaDoor.R Go.Proofs.YtonjkoeacedaiaaDoor.PU Go.Proofs.YtonjkoeacedaiaaDoorW.PrintWords
set_option linter.unusedVariables false
set_option linter.unusedSimpArgs false
abbrev digs (l : List UInt8) : Bool := l.all isDig
def stripTo (m : Nat) : List UInt8 → List UInt8
  | [] => []
  | c :: t => if m < t.length + 1 ∧ c = 48 then stripTo m t else c :: t
theorem stripTo_len (m : Nat) : ∀ L, (stripTo m L).length ≤ L.length ∧ (m ≤ L.length → m ≤ (stripTo m L).length)
  | [] => ⟨Nat.le_refl _, fun h => h⟩
  | c :: t => by
    have ih := stripTo_len m t
    unfold stripTo
    split
    · rw [List.length_cons]; exact ⟨by omega, fun h => ih.2 (by omega)⟩
    · exact ⟨Nat.le_refl _, fun h => h⟩
theorem stripTo_digs (m : Nat) : ∀ L, digs L = true → digs (stripTo m L) = true
  | [], h => h
  | c :: t, h => by
    unfold stripTo
    split
    · exact stripTo_digs m t (by simp [digs] at h ⊢; exact h.2)
    · exact h
theorem stripTo_norm (m : Nat) : ∀ L, m ≤ L.length → (stripTo m L).length = m ∨ (stripTo m L).head? ≠ some 48
  | [], h => Or.inl (by simp at h; subst h; rfl)
  | c :: t, h => by
    unfold stripTo
    split
    · rename_i hc; exact stripTo_norm m t (by omega)
    · rename_i hc
      by_cases e : c = 48
      · left; rw [List.length_cons] at h ⊢; have : ¬ m < t.length + 1 := fun h2 => hc ⟨h2, e⟩; omega
      · right; simpa using e
theorem stripTo_id (m : Nat) (L : List UInt8) (h : L.length = m ∨ L.head? ≠ some 48) : stripTo m L = L := by
  cases L with
  | nil => rfl
  | cons c t =>
    unfold stripTo
    rw [if_neg]
    rintro ⟨h1, h2⟩
    rcases h with h | h
    · rw [List.length_cons] at h; omega
    · exact h (by rw [h2]; rfl)
theorem dw48 (l : List UInt8) : l = List.replicate (l.length - (Lib.trimLeftS l [48]).length) 48 ++ Lib.trimLeftS l [48] := by
  induction l with
  | nil => rfl
  | cons c t ih =>
    unfold Lib.trimLeftS at ih ⊢
    rw [List.dropWhile_cons]
    by_cases h : ([48] : List UInt8).contains c = true
    · rw [if_pos h]
      have hc : c = 48 := by simpa using h
      have hl : (t.dropWhile fun x => ([48] : List UInt8).contains x).length ≤ t.length := (List.dropWhile_suffix _).length_le
      rw [List.length_cons, show t.length + 1 - (t.dropWhile fun x => ([48] : List UInt8).contains x).length = (t.length - (t.dropWhile fun x => ([48] : List UInt8).contains x).length) + 1 by omega, List.replicate_succ, List.cons_append, ← ih, hc]
    · rw [if_neg h]
      simp
theorem strip_eq (m : Nat) : ∀ L : List UInt8, m ≤ L.length → 1 ≤ m → (if (Lib.trimLeftS L [48]).length < m then List.replicate (m - (Lib.trimLeftS L [48]).length) 48 ++ Lib.trimLeftS L [48] else Lib.trimLeftS L [48]) = stripTo m L
  | [], h, h1 => by simp at h; omega
  | c :: t, h, h1 => by
    rw [List.length_cons] at h
    by_cases hc : c = 48
    · have e : Lib.trimLeftS (c :: t) [48] = Lib.trimLeftS t [48] := by
        unfold Lib.trimLeftS
        rw [List.dropWhile_cons, if_pos (by simpa using hc)]
      rw [e]
      unfold stripTo
      by_cases hm : m < t.length + 1
      · rw [if_pos (⟨hm, hc⟩ : m < t.length + 1 ∧ c = 48)]
        exact strip_eq m t (by omega) h1
      · rw [if_neg (fun h => hm h.1 : ¬ (m < t.length + 1 ∧ c = 48))]
        have hd := dw48 (c :: t)
        rw [e, List.length_cons] at hd
        have hl : (Lib.trimLeftS t [48]).length ≤ t.length := (List.dropWhile_suffix _).length_le
        rw [if_pos (by omega), show m - (Lib.trimLeftS t [48]).length = t.length + 1 - (Lib.trimLeftS t [48]).length by omega]
        exact hd.symm
    · have e : Lib.trimLeftS (c :: t) [48] = c :: t := by
        unfold Lib.trimLeftS
        rw [List.dropWhile_cons, if_neg (by simpa using hc)]
      rw [e, if_neg (by rw [List.length_cons]; omega)]
      unfold stripTo
      rw [if_neg (fun h => hc h.2 : ¬ (m < t.length + 1 ∧ c = 48))]
theorem make0_ok (n : Bool) (D : ByteArray) (sc : Nat) (h : sc + 1 ≤ (bl D).length) (hl : (bl D).length ≤ 1000) : dec_make0.f n D sc = some (n, ⟨(stripTo (sc + 1) (bl D)).toArray⟩, (sc : Int)) := by
  have hT : strings_TrimLeft.f D ⟨#[48]⟩ = some ⟨(Lib.trimLeftS (bl D) [48]).toArray⟩ := by
    unfold strings_TrimLeft.f
    rw [if_pos ⟨by decide, by decide⟩]
  have hlt : (Lib.trimLeftS (bl D) [48]).length ≤ (bl D).length := (List.dropWhile_suffix _).length_le
  have hst := strip_eq (sc + 1) (bl D) h (by omega)
  unfold dec_make0.f
  rw [hT, Option.bind_some, sz, bl_mk, w64 ((sc : Int) + 1) (by omega) (by omega), w64 _ (by omega) (by omega)]
  by_cases hc : (Lib.trimLeftS (bl D) [48]).length < sc + 1
  · rw [if_pos hc] at hst
    rw [if_pos (by omega)]
    have hR : strings_Repeat.f ⟨#[48]⟩ ((sc : Int) + 1 - ((Lib.trimLeftS (bl D) [48]).length : Int)) = some ⟨(List.replicate (sc + 1 - (Lib.trimLeftS (bl D) [48]).length) 48).toArray⟩ := by
      unfold strings_Repeat.f
      have e : ((sc : Int) + 1 - ((Lib.trimLeftS (bl D) [48]).length : Int)).toNat = sc + 1 - (Lib.trimLeftS (bl D) [48]).length := by omega
      rw [if_pos ⟨by omega, by omega, by rw [e]; show 1 * _ ≤ _; omega⟩, e]
      rw [show (⟨#[48]⟩ : ByteArray).data.toList = [48] from rfl, repeatL_one]
    rw [hR, Option.bind_some, if_pos (by rw [sz, bl_mk, List.length_replicate]; omega), ← hst]
    congr 3
  · rw [if_neg hc] at hst
    rw [if_neg (by omega), ← hst]
end Go.Proofs.YtonjkoeacedaiaaDoor.S
namespace Go.Proofs.YtonjkoeacedaiaaDoor.S
open Go.RowKit Go.Proofs.YtonjkoeacedaiaaDoor Go.Proofs.YtonjkoeacedaiaaDoor.G Go.Proofs.YtonjkoeacedaiaaDoor.U Go.Proofs.YtonjkoeacedaiaaDoor.R Go.Proofs.YtonjkoeacedaiaaDoor.PU Go.Proofs.YtonjkoeacedaiaaDoorW.PrintWords Go.Proofs.YtonjkoeacedaiaaDoorW.PrintMore
set_option linter.unusedVariables false
set_option linter.unusedSimpArgs false
def dv (c : UInt8) : Nat := c.toNat - 48
def val (l : List UInt8) : Nat := l.foldl (fun n c => n * 10 + dv c) 0
theorem val_fold : ∀ (l : List UInt8) (n : Nat), l.foldl (fun n c => n * 10 + dv c) n = n * 10 ^ l.length + val l
  | [], n => by simp [val]
  | c :: t, n => by
    show t.foldl (fun n c => n * 10 + dv c) (n * 10 + dv c) = n * 10 ^ (t.length + 1) + t.foldl (fun n c => n * 10 + dv c) (0 * 10 + dv c)
    rw [val_fold t, val_fold t (0 * 10 + dv c), Nat.pow_succ, Nat.add_mul, Nat.add_mul, Nat.mul_assoc, Nat.mul_comm 10, Nat.zero_mul, Nat.zero_add, Nat.add_assoc]
theorem val_cons (c : UInt8) (t : List UInt8) : val (c :: t) = dv c * 10 ^ t.length + val t := by
  show t.foldl (fun n c => n * 10 + dv c) (0 * 10 + dv c) = _
  rw [val_fold, Nat.zero_mul, Nat.zero_add]
theorem val_app (a b : List UInt8) : val (a ++ b) = val a * 10 ^ b.length + val b := by
  show (a ++ b).foldl _ 0 = _
  rw [List.foldl_append, val_fold]
  rfl
theorem dig_le {c : UInt8} (h : isDig c = true) : 48 ≤ c.toNat ∧ c.toNat ≤ 57 := by simpa [isDig] using h
theorem digs_cons {c : UInt8} {t : List UInt8} (h : digs (c :: t) = true) : isDig c = true ∧ digs t = true := by simpa [digs] using h
theorem digs_app {a b : List UInt8} : digs (a ++ b) = (digs a && digs b) := List.all_append
theorem digs_of {a : List UInt8} (h : ∀ c ∈ a, isDig c = true) : digs a = true := List.all_eq_true.2 h
theorem digs_at {a : List UInt8} (h : digs a = true) : ∀ c ∈ a, isDig c = true := List.all_eq_true.1 h
theorem digs_rep (n : Nat) : digs (List.replicate n 48) = true := digs_of fun c hc => by rw [List.eq_of_mem_replicate hc]; rfl
theorem val_lt : ∀ {l : List UInt8}, digs l = true → val l < 10 ^ l.length
  | [], _ => by simp [val]
  | c :: t, h => by
    obtain ⟨hc, ht⟩ := digs_cons h
    have ih := val_lt ht
    have hd := dig_le hc
    have h9 : dv c * 10 ^ t.length ≤ 9 * 10 ^ t.length := Nat.mul_le_mul_right _ (by unfold dv; omega)
    rw [val_cons, List.length_cons, Nat.pow_succ]
    omega
theorem val_rep : ∀ n, val (List.replicate n 48) = 0
  | 0 => rfl
  | n + 1 => by rw [List.replicate_succ, val_cons, val_rep n, show dv 48 = 0 from rfl, Nat.zero_mul]
theorem two (P a b x y : Nat) (hx : x < P) (hy : y < P) : (a * P + x < b * P + y ↔ a < b ∨ a = b ∧ x < y) ∧ (a * P + x = b * P + y ↔ a = b ∧ x = y) := by
  rcases Nat.lt_trichotomy a b with h | h | h
  · have := Nat.mul_le_mul_right P (show a + 1 ≤ b from h)
    rw [Nat.add_mul] at this
    omega
  · subst h; omega
  · have := Nat.mul_le_mul_right P (show b + 1 ≤ a from h)
    rw [Nat.add_mul] at this
    omega
def sgn (a b : Nat) : Int := if a < b then -1 else if a = b then 0 else 1
theorem less_val : ∀ {x y : List UInt8}, digs x = true → digs y = true → x.length = y.length → (Op.bytesLess x y = true ↔ val x < val y) ∧ (x = y ↔ val x = val y)
  | [], [], _, _, _ => by simp [Op.bytesLess]
  | [], _ :: _, _, _, h => by simp at h
  | _ :: _, [], _, _, h => by simp at h
  | a :: x, b :: y, hx, hy, hl => by
    obtain ⟨ha, hx⟩ := digs_cons hx
    obtain ⟨hb, hy⟩ := digs_cons hy
    have hl : x.length = y.length := by simpa using hl
    obtain ⟨ih1, ih2⟩ := less_val hx hy hl
    have hxl := val_lt hx
    have hyl := val_lt hy
    rw [← hl] at hyl
    have h2 := two (10 ^ x.length) (dv a) (dv b) (val x) (val y) hxl hyl
    have hda := dig_le ha
    have hdb := dig_le hb
    have he : a = b ↔ dv a = dv b := by
      rw [← UInt8.toNat_inj]; unfold dv; omega
    have hlt : a < b ↔ dv a < dv b := by
      rw [UInt8.lt_iff_toNat_lt]; unfold dv; omega
    rw [val_cons, val_cons, ← hl, h2.1, h2.2]
    constructor
    · show (decide (a < b) || (a == b && Op.bytesLess x y)) = true ↔ _
      rw [Bool.or_eq_true, Bool.and_eq_true, decide_eq_true_iff, beq_iff_eq, hlt, he, ih1]
    · rw [List.cons.injEq, he, ih2]
theorem cmpS_val {x y : List UInt8} (hx : digs x = true) (hy : digs y = true) (hl : x.length = y.length) : cmpS x y = sgn (val x) (val y) := by
  obtain ⟨h1, h2⟩ := less_val hx hy hl
  unfold cmpS sgn
  by_cases h : val x < val y
  · rw [if_pos (h1.2 h), if_pos h]
  · rw [if_neg (fun hh => h (h1.1 hh)), if_neg h]
    by_cases e : val x = val y
    · rw [if_pos (by rw [beq_iff_eq]; exact h2.2 e), if_pos e]
    · rw [if_neg (by rw [beq_iff_eq]; exact fun hh => e (h2.1 hh)), if_neg e]
theorem dwn {p : UInt8 → Bool} : ∀ {l : List UInt8}, l.dropWhile p = [] ↔ ∀ c ∈ l, p c = true
  | [] => by simp
  | c :: t => by
    rw [List.dropWhile_cons]
    by_cases h : p c = true
    · rw [if_pos h, dwn]; simp [h]
    · rw [if_neg h]; simp [h]
theorem dw_head {p : UInt8 → Bool} : ∀ {l : List UInt8} {c : UInt8} {t : List UInt8}, l.dropWhile p = c :: t → p c = false
  | [], _, _, h => by simp at h
  | a :: l, c, t, h => by
    rw [List.dropWhile_cons] at h
    by_cases hp : p a = true
    · rw [if_pos hp] at h; exact dw_head h
    · rw [if_neg hp] at h
      obtain ⟨rfl, _⟩ := List.cons.inj h
      simpa using hp
theorem trim_val (l : List UInt8) : val (Lib.trimLeftS l [48]) = val l := by
  have h := dw48 l
  have : val l = val (List.replicate (l.length - (Lib.trimLeftS l [48]).length) 48 ++ Lib.trimLeftS l [48]) := congrArg val h
  rw [this, val_app, val_rep, Nat.zero_mul, Nat.zero_add]
theorem trim_digs {l : List UInt8} (h : digs l = true) : digs (Lib.trimLeftS l [48]) = true :=
  digs_of fun c hc => digs_at h c ((List.dropWhile_suffix _).subset hc)
theorem trim_low {l : List UInt8} (h : digs l = true) (h0 : 0 < (Lib.trimLeftS l [48]).length) : 10 ^ ((Lib.trimLeftS l [48]).length - 1) ≤ val (Lib.trimLeftS l [48]) := by
  cases hT : Lib.trimLeftS l [48] with
  | nil => rw [hT] at h0; simp at h0
  | cons c t =>
    have hd := trim_digs h
    rw [hT] at hd
    have hc := dig_le (digs_cons hd).1
    have hne := dw_head hT
    have hn : c ≠ 48 := by intro e; rw [e] at hne; exact absurd hne (by decide)
    have hn2 : c.toNat ≠ 48 := fun e => hn (UInt8.toNat_inj.1 e)
    have h1 : 1 * 10 ^ t.length ≤ dv c * 10 ^ t.length := Nat.mul_le_mul_right _ (by unfold dv; omega)
    rw [val_cons, List.length_cons, Nat.add_sub_cancel]
    omega
theorem strip_cmp {x y : List UInt8} (hx : digs x = true) (hy : digs y = true) :
    (if Lib.compareInt ((Lib.trimLeftS x [48]).length : Int) ((Lib.trimLeftS y [48]).length : Int) = 0 then cmpS (Lib.trimLeftS x [48]) (Lib.trimLeftS y [48]) else Lib.compareInt ((Lib.trimLeftS x [48]).length : Int) ((Lib.trimLeftS y [48]).length : Int)) = sgn (val x) (val y) := by
  have dx := trim_digs hx
  have dy := trim_digs hy
  have lx := trim_low hx
  have ly := trim_low hy
  rw [← trim_val x, ← trim_val y]
  generalize Lib.trimLeftS x [48] = X at *
  generalize Lib.trimLeftS y [48] = Y at *
  have ux := val_lt dx
  have uy := val_lt dy
  rcases Nat.lt_trichotomy X.length Y.length with h | h | h
  · have hc : Lib.compareInt (X.length : Int) (Y.length : Int) = -1 := by unfold Lib.compareInt; rw [if_pos (by omega)]
    rw [hc, if_neg (by decide)]
    have h2 := Nat.pow_le_pow_right (show 0 < 10 by decide) (show X.length ≤ Y.length - 1 by omega)
    have h3 := ly (by omega)
    unfold sgn
    rw [if_pos (by omega)]
  · have hc : Lib.compareInt (X.length : Int) (Y.length : Int) = 0 := by unfold Lib.compareInt; rw [if_neg (by omega), if_neg (by omega)]
    rw [hc, if_pos rfl]
    exact cmpS_val dx dy h
  · have hc : Lib.compareInt (X.length : Int) (Y.length : Int) = 1 := by unfold Lib.compareInt; rw [if_neg (by omega), if_pos (by omega)]
    rw [hc, if_neg (by decide)]
    have h2 := Nat.pow_le_pow_right (show 0 < 10 by decide) (show Y.length ≤ X.length - 1 by omega)
    have h3 := lx (by omega)
    unfold sgn
    rw [if_neg (by omega), if_neg (by omega)]
theorem or2 (k : Nat) (a b : Int) : cmp_Or_int.f (k + 3) [a, b] = some (if a = 0 then b else a) := by
  unfold cmp_Or_int.f
  show cmp_Or_int.l0 (k + 3) 0 [a, b] 2 0 = _
  rw [cmp_Or_int.l0, if_pos (by decide), if_pos (by decide), if_pos (by show (0 : Int) < 2; decide), show rd [a, b] 0 = a from rfl]
  by_cases ha : a = 0
  · rw [if_pos ha, if_pos ha, show wrap64 (0 + 1) = 1 from w64 _ (by decide) (by decide), cmp_Or_int.l0, if_pos (by decide), if_pos (by decide), if_pos (by show (1 : Int) < 2; decide), show rd [a, b] 1 = b from rfl]
    by_cases hb : b = 0
    · rw [if_pos hb, show wrap64 (1 + 1) = 2 from w64 _ (by decide) (by decide), cmp_Or_int.l0, if_neg (by decide), hb]
    · rw [if_neg hb]
  · rw [if_neg ha, if_neg ha]
structure Num (D : List UInt8) (sc : Nat) : Prop where
  dig : digs D = true
  lt : sc < D.length
  max : D.length ≤ 150
def V (D : List UInt8) (sc : Nat) : Nat := val D * 10 ^ (200 - sc)
theorem sgn_mul (a b c : Nat) (hc : 0 < c) : sgn (a * c) (b * c) = sgn a b := by
  unfold sgn
  rcases Nat.lt_trichotomy a b with h | h | h
  · have := Nat.mul_lt_mul_of_pos_right h hc
    rw [if_pos this, if_pos h]
  · subst h; rw [if_neg (by omega), if_pos rfl, if_neg (by omega), if_pos rfl]
  · have := Nat.mul_lt_mul_of_pos_right h hc
    rw [if_neg (by omega), if_neg (by omega), if_neg (by omega), if_neg (by omega)]
theorem rep_ok (m : Nat) (h : m ≤ 1000) : strings_Repeat.f ⟨#[48]⟩ (m : Int) = some ⟨(List.replicate m 48).toArray⟩ := by
  unfold strings_Repeat.f
  rw [if_pos ⟨by omega, by omega, by rw [Int.toNat_natCast]; show 1 * _ ≤ _; omega⟩, Int.toNat_natCast]
  rw [show (⟨#[48]⟩ : ByteArray).data.toList = [48] from rfl, repeatL_one]
theorem tl_ok (s : ByteArray) : strings_TrimLeft.f s ⟨#[48]⟩ = some ⟨(Lib.trimLeftS (bl s) [48]).toArray⟩ := by
  unfold strings_TrimLeft.f
  rw [if_pos ⟨by decide, by decide⟩]
theorem size_ok (k : Nat) (na nb : Bool) {A B : List UInt8} {sa sb : Nat} (ha : Num A sa) (hb : Num B sb) :
    dec_Dec_size.f (k + 3) na ⟨A.toArray⟩ (sa : Int) nb ⟨B.toArray⟩ (sb : Int) = some (sgn (V A sa) (V B sb)) := by
  obtain ⟨n, hn⟩ : ∃ n : Nat, mx (sa : Int) (sb : Int) = (n : Int) ∧ sa ≤ n ∧ sb ≤ n ∧ n ≤ 150 := by
    have h1 := ha.lt; have h2 := ha.max; have h3 := hb.lt; have h4 := hb.max
    unfold mx
    by_cases h : sa < sb
    · exact ⟨sb, by rw [if_pos (by omega)], by omega, by omega, by omega⟩
    · exact ⟨sa, by rw [if_neg (by omega)], by omega, by omega, by omega⟩
  have h2 := ha.max
  have h4 := hb.max
  have hza : (⟨A.toArray⟩ : ByteArray).size = A.length := sz _
  have hzb : (⟨B.toArray⟩ : ByteArray).size = B.length := sz _
  have zr : ∀ m, (⟨(List.replicate m 48).toArray⟩ : ByteArray).size = m := fun m => by rw [sz, bl_mk, List.length_replicate]
  unfold dec_Dec_size.f
  rw [hn.1, w64 _ (by omega) (by omega), w64 _ (by omega) (by omega), show (n : Int) - (sa : Int) = ((n - sa : Nat) : Int) by omega, show (n : Int) - (sb : Int) = ((n - sb : Nat) : Int) by omega]
  rw [rep_ok _ (by omega), Option.bind_some, if_pos (by rw [hza, zr]; omega), rep_ok _ (by omega), Option.bind_some, if_pos (by rw [hzb, zr]; omega), tl_ok, Option.bind_some, tl_ok, Option.bind_some]
  unfold cmp_Compare_int.f cmp_Compare_string.f
  rw [Option.bind_some, Option.bind_some, or2, Option.bind_some]
  simp only [sz, tl, bl_app, bl_mk]
  have da : digs (A ++ List.replicate (n - sa) 48) = true := by rw [digs_app, ha.dig, digs_rep]; rfl
  have db : digs (B ++ List.replicate (n - sb) 48) = true := by rw [digs_app, hb.dig, digs_rep]; rfl
  rw [strip_cmp da db, val_app, val_app, val_rep, val_rep, List.length_replicate, List.length_replicate, Nat.add_zero, Nat.add_zero, ← sgn_mul _ _ (10 ^ (200 - n)) (Nat.pow_pos (by decide)), Nat.mul_assoc, Nat.mul_assoc, ← Nat.pow_add, ← Nat.pow_add, show n - sa + (200 - n) = 200 - sa by omega, show n - sb + (200 - n) = 200 - sb by omega]
  rfl
theorem val_zero : ∀ {l : List UInt8}, digs l = true → (val l = 0 ↔ ∀ c ∈ l, c = 48)
  | [], _ => by simp [val]
  | c :: t, h => by
    obtain ⟨hc, ht⟩ := digs_cons h
    have ih := val_zero ht
    have hp : 0 < 10 ^ t.length := Nat.pow_pos (by decide)
    have hd := dig_le hc
    have he : c = 48 ↔ dv c = 0 := by
      rw [← UInt8.toNat_inj]; unfold dv; show c.toNat = 48 ↔ _; omega
    rw [val_cons, Nat.add_eq_zero_iff, Nat.mul_eq_zero, ih, List.forall_mem_cons, he]
    constructor
    · rintro ⟨h1 | h1, h2⟩
      · exact ⟨h1, h2⟩
      · omega
    · rintro ⟨h1, h2⟩; exact ⟨Or.inl h1, h2⟩
theorem trimS_nil (l : List UInt8) : Lib.trimS l [48] = [] ↔ ∀ c ∈ l, c = 48 := by
  have hc : ∀ c : UInt8, ([48] : List UInt8).contains c = true ↔ c = 48 := fun c => by simp
  unfold Lib.trimS Lib.trimLeftS Lib.trimRightS
  rw [dwn]
  constructor
  · intro h
    cases hR : l.reverse.dropWhile fun x => ([48] : List UInt8).contains x with
    | nil =>
      intro c hcm
      exact (hc c).1 (dwn.1 hR c (List.mem_reverse.2 hcm))
    | cons a t =>
      have h1 := dw_head hR
      rw [hR] at h
      have h2 := h a (by simp)
      rw [h1] at h2
      cases h2
  · intro h c hcm
    have hcm2 := (List.dropWhile_suffix _).subset (List.mem_reverse.1 hcm)
    exact (hc c).2 (h c (List.mem_reverse.1 hcm2))
theorem zero_ok (n : Bool) {A : List UInt8} {sa : Nat} (ha : Num A sa) (s : Int) : dec_Dec_Zero.f n ⟨A.toArray⟩ s = some (decide (V A sa = 0)) := by
  have hza : (⟨A.toArray⟩ : ByteArray).size = A.length := sz _
  have h2 := ha.max
  have hp : 0 < 10 ^ (200 - sa) := Nat.pow_pos (by decide)
  unfold dec_Dec_Zero.f strings_Trim.f
  rw [if_pos ⟨by omega, by decide, by decide⟩, Option.bind_some, tl]
  refine congrArg some ?_
  show (Lib.trimS A [48] == []) = _
  rw [Bool.eq_iff_iff, beq_iff_eq, trimS_nil, ← val_zero ha.dig, decide_eq_true_iff]
  unfold V
  rw [Nat.mul_eq_zero]
  constructor
  · exact Or.inl
  · rintro (h | h)
    · exact h
    · omega
def S (neg : Bool) (v : Nat) : Int := if neg = true then -(v : Int) else v
def isg (x y : Int) : Int := if x < y then -1 else if x = y then 0 else 1
theorem sgn_or (a b : Nat) : sgn a b = -1 ∨ sgn a b = 0 ∨ sgn a b = 1 := by
  unfold sgn
  split
  · exact Or.inl rfl
  · split
    · exact Or.inr (Or.inl rfl)
    · exact Or.inr (Or.inr rfl)
theorem j0_ok (k : Nat) (x y na nb : Bool) {A B : List UInt8} {sa sb : Nat} (ha : Num A sa) (hb : Num B sb) :
    dec_Dec_Compare.j0 (k + 6) x y na ⟨A.toArray⟩ (sa : Int) nb ⟨B.toArray⟩ (sb : Int) = some (if x = true ∧ y = false then -1 else if y = true ∧ x = false then 1 else if x = true then -sgn (V A sa) (V B sb) else sgn (V A sa) (V B sb)) := by
  have hS := size_ok k na nb ha hb
  have hw : wrap64 (-sgn (V A sa) (V B sb)) = -sgn (V A sa) (V B sb) := w64 _ (by rcases sgn_or (V A sa) (V B sb) with h | h | h <;> rw [h] <;> decide) (by rcases sgn_or (V A sa) (V B sb) with h | h | h <;> rw [h] <;> decide)
  rw [dec_Dec_Compare.j0]
  cases x <;> cases y <;> simp only [dec_Dec_Compare.j1, dec_Dec_Compare.j2, hS, hw, Bool.not_true, Bool.not_false, Bool.false_eq_true, if_true, if_false, and_self, and_true, and_false, true_and, false_and, reduceCtorEq, Option.bind_some]
theorem compare_ok (k : Nat) (na nb : Bool) {A B : List UInt8} {sa sb : Nat} (ha : Num A sa) (hb : Num B sb) :
    dec_Dec_Compare.f (k + 6) na ⟨A.toArray⟩ (sa : Int) nb ⟨B.toArray⟩ (sb : Int) = some (isg (S na (V A sa)) (S nb (V B sb))) := by
  have za := zero_ok na ha (sa : Int)
  have zb := zero_ok nb hb (sb : Int)
  have hj := fun x y => j0_ok k x y na nb ha hb
  unfold dec_Dec_Compare.f
  rw [za, zb]
  simp only [Option.bind_some, hj]
  generalize V A sa = a
  generalize V B sb = b
  unfold isg S sgn
  cases na <;> cases nb <;> by_cases h1 : a = 0 <;> by_cases h2 : b = 0 <;> simp [h1, h2] <;> (try split) <;> (try split) <;> (try split) <;> (try split) <;> (try omega)
theorem right_loop (n : Bool) (A : List UInt8) (sc : Int) (hA : A.length ≤ 60) (h0 : 0 < A.length) : ∀ (d i : Nat), A.length - i ≤ d → i ≤ A.length → (∀ c ∈ A.take i, isDig c = true) →
    ∃ b, polyglotlaw02_Right.l0 (d + 1) (i : Int) n ⟨A.toArray⟩ sc = some b ∧ (b = true → digs A = true) := by
  have hz : (⟨A.toArray⟩ : ByteArray).size = A.length := sz _
  have fin : ∀ (i k : Nat), A.length ≤ i → i ≤ A.length → (∀ c ∈ A.take i, isDig c = true) → ∃ b, polyglotlaw02_Right.l0 (k + 1) (i : Int) n ⟨A.toArray⟩ sc = some b ∧ (b = true → digs A = true) := by
    intro i k h1 h2 h3
    have hd : digs A = true := digs_of (by rw [List.take_of_length_le h1] at h3; exact h3)
    rw [polyglotlaw02_Right.l0, hz, if_neg (by omega), if_pos (by omega)]
    split
    · exact ⟨_, rfl, fun _ => hd⟩
    · exact ⟨_, rfl, fun _ => hd⟩
  intro d
  induction d with
  | zero => intro i h1 h2 h3; exact fin i 0 (by omega) h2 h3
  | succ d ih =>
    intro i h1 h2 h3
    by_cases hi : i < A.length
    · have hc : (bl ⟨A.toArray⟩)[i]? = some A[i] := List.getElem?_eq_getElem hi
      rw [polyglotlaw02_Right.l0, hz, if_pos (by omega), if_pos (by omega), bt_nat _ i _ hc, digit_f, Option.bind_some]
      by_cases hg : isDig A[i] = true
      · rw [if_pos hg, w64 _ (by omega) (by omega), show (i : Int) + 1 = ((i + 1 : Nat) : Int) by omega]
        refine ih (i + 1) (by omega) (by omega) ?_
        intro c hcm
        rw [List.take_add_one, List.mem_append] at hcm
        rcases hcm with h | h
        · exact h3 c h
        · rw [List.getElem?_eq_getElem hi] at h
          have : c = A[i] := by simpa using h
          rw [this]; exact hg
      · rw [if_neg hg]
        exact ⟨false, rfl, fun h => by cases h⟩
    · exact fin i (d + 1) (by omega) h2 h3
theorem right_any (n : Bool) (A : List UInt8) (sc : Int) (k : Nat) (hk : 100 ≤ k) : ∃ b, polyglotlaw02_Right.f k n ⟨A.toArray⟩ sc = some b ∧ (b = true → ∃ s : Nat, sc = s ∧ Num A s ∧ A.length ≤ 60) := by
  have hz : (⟨A.toArray⟩ : ByteArray).size = A.length := sz _
  obtain ⟨j, rfl⟩ : ∃ j, k = j + 61 + 1 := ⟨k - 62, by omega⟩
  have hj : ∀ x, polyglotlaw02_Right.j0 (j + 61 + 1) true n ⟨A.toArray⟩ x = some false := fun x => by rw [polyglotlaw02_Right.j0, if_pos rfl]
  unfold polyglotlaw02_Right.f
  rw [hz]
  by_cases h1 : sc < 0
  · rw [if_pos h1, hj]; exact ⟨false, rfl, fun h => by cases h⟩
  rw [if_neg h1]
  by_cases h2 : sc ≥ A.length
  · rw [if_pos h2, hj]; exact ⟨false, rfl, fun h => by cases h⟩
  rw [if_neg h2]
  by_cases h3 : A.length > 60
  · rw [show decide ((A.length : Int) > 60) = true from decide_eq_true (by omega), hj]; exact ⟨false, rfl, fun h => by cases h⟩
  rw [show decide ((A.length : Int) > 60) = false from decide_eq_false (by omega), polyglotlaw02_Right.j0, if_neg (by decide)]
  obtain ⟨b, hb, hd⟩ := right_loop n A sc (by omega) (by omega) (j + 60) 0 (by omega) (by omega) (by simp)
  exact ⟨b, hb, fun h => ⟨sc.toNat, by omega, ⟨hd h, by omega, by omega⟩, by omega⟩⟩
theorem dv_succ {c : UInt8} (h : isDig c = true) (h9 : c.toNat < 57) : dv (c.toNat + 1).toUInt8 = dv c + 1 ∧ isDig (c.toNat + 1).toUInt8 = true := by
  have hd := dig_le h
  have e : ((c.toNat + 1).toUInt8).toNat = c.toNat + 1 := by
    show (c.toNat + 1) % 256 = _
    omega
  constructor
  · unfold dv; rw [e]; omega
  · unfold isDig; rw [e]; simp; omega
theorem inc_ok : ∀ (r : List UInt8), digs r = true → val (incR r).reverse = val r.reverse + 1 ∧ digs (incR r) = true ∧ r.length ≤ (incR r).length ∧ (incR r).length ≤ r.length + 1
  | [], _ => ⟨rfl, rfl, by decide, by decide⟩
  | c :: t, h => by
    obtain ⟨hc, ht⟩ := digs_cons h
    have hd := dig_le hc
    have e : incR (c :: t) = if c.toNat < 57 then (c.toNat + 1).toUInt8 :: t else 48 :: incR t := rfl
    rw [e, List.reverse_cons, val_app, val_cons c [], show val [] = 0 from rfl]
    by_cases h9 : c.toNat < 57
    · obtain ⟨h1, h2⟩ := dv_succ hc h9
      rw [if_pos h9, List.reverse_cons, val_app, val_cons _ [], h1, show val [] = 0 from rfl]
      refine ⟨by simp; omega, by simp [digs] at ht ⊢; exact ⟨h2, ht⟩, by simp, by simp⟩
    · obtain ⟨i1, i2, i3, i4⟩ := inc_ok t ht
      rw [if_neg h9, List.reverse_cons, val_app, val_cons 48 [], i1, show val [] = 0 from rfl, show dv 48 = 0 from rfl]
      refine ⟨by unfold dv; simp; omega, by simp [digs] at i2 ⊢; exact ⟨rfl, i2⟩, by simp; omega, by simp; omega⟩
theorem incL_ok {l : List UInt8} (h : digs l = true) : val (incL l) = val l + 1 ∧ digs (incL l) = true ∧ l.length ≤ (incL l).length ∧ (incL l).length ≤ l.length + 1 := by
  have hr : digs l.reverse = true := digs_of fun c hc => digs_at h c (List.mem_reverse.1 hc)
  obtain ⟨h1, h2, h3, h4⟩ := inc_ok l.reverse hr
  rw [List.reverse_reverse] at h1
  rw [List.length_reverse] at h3 h4
  unfold incL
  refine ⟨h1, digs_of fun c hc => digs_at h2 c (List.mem_reverse.1 hc), by rw [List.length_reverse]; exact h3, by rw [List.length_reverse]; exact h4⟩
theorem strip_val (m : Nat) : ∀ L, val (stripTo m L) = val L
  | [] => rfl
  | c :: t => by
    unfold stripTo
    split
    · rename_i h
      rw [strip_val m t, val_cons, h.2, show dv 48 = 0 from rfl, Nat.zero_mul, Nat.zero_add]
    · rfl
def q (v u : Nat) : Nat := if u < 2 * (v % u) ∨ 2 * (v % u) = u ∧ v / u % 2 = 1 then v / u + 1 else v / u
theorem q_mono {u v w : Nat} (hu : 0 < u) (h : v ≤ w) : q v u ≤ q w u := by
  have h1 := Nat.div_le_div_right (c := u) h
  have h2 := Nat.div_add_mod v u
  have h3 := Nat.div_add_mod w u
  unfold q
  rcases Nat.lt_or_eq_of_le h1 with h4 | h4
  · split <;> split <;> omega
  · rw [h4] at h2 ⊢
    have h5 : v % u ≤ w % u := by omega
    split <;> split <;> omega
theorem q_mul {v u c : Nat} (hc : 0 < c) : q (v * c) (u * c) = q v u := by
  unfold q
  rw [Nat.mul_div_mul_right _ _ hc, Nat.mul_mod_mul_right, ← Nat.mul_assoc]
  have e1 : u * c < 2 * (v % u) * c ↔ u < 2 * (v % u) := Nat.mul_lt_mul_right hc
  have e2 : 2 * (v % u) * c = u * c ↔ 2 * (v % u) = u := Nat.mul_left_inj (by omega)
  rw [if_iff (or_congr e1 (and_congr e2 Iff.rfl))]
theorem q_whole {n u : Nat} (hu : 0 < u) : q (n * u) u = n := by
  unfold q
  rw [Nat.mul_mod_left, Nat.mul_div_cancel _ hu, if_neg (by omega)]
theorem last_odd {D : List UInt8} (h : digs D = true) (n : Nat) (h0 : 0 < n) (hn : n ≤ D.length) : ((D.getD (n - 1) 0).toNat - 48) % 2 = val (D.take n) % 2 := by
  obtain ⟨i, rfl⟩ : ∃ i, n = i + 1 := ⟨n - 1, by omega⟩
  have hc : D[i]? = some D[i] := List.getElem?_eq_getElem (by omega)
  rw [Nat.add_sub_cancel, List.getD_eq_getElem?_getD, hc, List.take_add_one, hc, val_app]
  show dv D[i] % 2 = (val (D.take i) * 10 ^ 1 + (0 * 10 + dv D[i])) % 2
  omega
theorem roundL_ok {D : List UInt8} {k s : Nat} (h : digs D = true) (hk : k < D.length) (hs : s < k) :
    val (roundL D k s) = q (val D) (10 ^ (k - s)) ∧ digs (roundL D k s) = true ∧ s + 1 ≤ (roundL D k s).length ∧ (roundL D k s).length ≤ D.length + 1 := by
  obtain ⟨m, hm⟩ : ∃ m, k - s = m + 1 := ⟨k - s - 1, by omega⟩
  have hkm : k = s + m + 1 := by omega
  have hkeep : digs (D.take (D.length - (k - s))) = true := digs_of fun c hc => digs_at h c (List.mem_of_mem_take hc)
  have hrest : digs (D.drop (D.length - (k - s))) = true := digs_of fun c hc => digs_at h c (List.mem_of_mem_drop hc)
  have hrl : (D.drop (D.length - (k - s))).length = m + 1 := by rw [List.length_drop]; omega
  have hhalf : digs (53 :: List.replicate m 48) = true := by
    have := digs_rep m
    simp only [digs, List.all_cons, Bool.and_eq_true] at this ⊢
    exact ⟨rfl, this⟩
  have hvh : val (53 :: List.replicate m 48) = 5 * 10 ^ m := by rw [val_cons, val_rep, List.length_replicate, Nat.add_zero]; rfl
  have hcmp := cmpS_val hrest hhalf (by rw [hrl, List.length_cons, List.length_replicate])
  rw [hvh] at hcmp
  have hodd := last_odd h (D.length - (k - s)) (by omega) (by omega)
  have hv : val D = val (D.take (D.length - (k - s))) * 10 ^ (m + 1) + val (D.drop (D.length - (k - s))) := by
    conv => lhs; rw [← List.take_append_drop (D.length - (k - s)) D]
    rw [val_app, hrl]
  have hlt := val_lt hrest
  rw [hrl] at hlt
  have hkl : (D.take (D.length - (k - s))).length = D.length - (k - s) := by rw [List.length_take]; omega
  unfold roundL
  rw [show k - s - 1 = m by omega, hcmp, hodd, hm] at *
  generalize D.take (D.length - (m + 1)) = KP at *
  generalize val (D.drop (D.length - (m + 1))) = r at *
  have hdiv : val D / 10 ^ (m + 1) = val KP := by rw [hv, Nat.mul_comm, Nat.mul_add_div (Nat.pow_pos (by decide)), Nat.div_eq_of_lt hlt, Nat.add_zero]
  have hmod : val D % 10 ^ (m + 1) = r := by rw [hv, Nat.mul_comm, Nat.mul_add_mod, Nat.mod_eq_of_lt hlt]
  have hp : 10 ^ (m + 1) = 10 * 10 ^ m := by rw [Nat.pow_succ, Nat.mul_comm]
  have hq : (sgn r (5 * 10 ^ m) > 0 ∨ sgn r (5 * 10 ^ m) = 0 ∧ val KP % 2 = 1) ↔ (10 ^ (m + 1) < 2 * r ∨ 2 * r = 10 ^ (m + 1) ∧ val KP % 2 = 1) := by
    rw [hp]
    unfold sgn
    rcases Nat.lt_trichotomy r (5 * 10 ^ m) with h | h | h
    · rw [if_pos h]; omega
    · rw [if_neg (by omega), if_pos h]; omega
    · rw [if_neg (by omega), if_neg (by omega)]; omega
  rw [if_iff hq]
  unfold q
  rw [hdiv, hmod]
  obtain ⟨i1, i2, i3, i4⟩ := incL_ok hkeep
  split
  · exact ⟨i1, i2, by omega, by omega⟩
  · exact ⟨rfl, hkeep, by omega, by omega⟩
theorem round_ok (n : Bool) {A : List UInt8} {sa : Nat} (ha : Num A sa) (hA : A.length ≤ 60) (s : Int) (hs : s ≤ 60) :
    ∃ (R : List UInt8) (r : Nat), dec_Dec_Round.f n ⟨A.toArray⟩ (sa : Int) s = some (n, ⟨R.toArray⟩, (r : Int)) ∧ Num R r ∧ V R r = q (V A sa) (10 ^ (200 - (if s < 0 then (0 : Int) else s).toNat)) * 10 ^ (200 - (if s < 0 then (0 : Int) else s).toNat) := by
  obtain ⟨t, ht⟩ : ∃ t : Nat, (if s < 0 then (0 : Int) else s) = (t : Int) := ⟨(if s < 0 then (0 : Int) else s).toNat, by split <;> omega⟩
  have ht60 : t ≤ 60 := by split at ht <;> omega
  have hz : (⟨A.toArray⟩ : ByteArray).size = A.length := sz _
  have hlt := ha.lt
  have hrk : rndOk ⟨A.toArray⟩ (sa : Int) = true := by
    have hdB : digB ⟨A.toArray⟩ = true := ha.dig
    unfold rndOk
    rw [hdB, hz]
    simp
    omega
  have hu : 0 < 10 ^ (200 - t) := Nat.pow_pos (by decide)
  unfold dec_Dec_Round.f
  simp only [ht, Int.toNat_natCast]
  rw [if_pos hrk]
  by_cases hk : sa ≤ t
  · rw [if_pos (by omega)]
    refine ⟨A, sa, rfl, ha, ?_⟩
    have e : V A sa = (val A * 10 ^ (t - sa)) * 10 ^ (200 - t) := by
      unfold V
      rw [Nat.mul_assoc, ← Nat.pow_add, show t - sa + (200 - t) = 200 - sa by omega]
    rw [e, q_whole hu]
  · rw [if_neg (by omega)]
    obtain ⟨h1, h2, h3, h4⟩ := roundL_ok ha.dig hlt (show t < sa by omega)
    have hm := make0_ok n ⟨(roundL A sa t).toArray⟩ t (by rw [bl_mk]; exact h3) (by rw [bl_mk]; omega)
    rw [bl_mk] at hm
    refine ⟨stripTo (t + 1) (roundL A sa t), t, hm, ⟨stripTo_digs _ _ h2, (stripTo_len _ _).2 h3, Nat.le_trans (stripTo_len _ _).1 (by omega)⟩, ?_⟩
    unfold V
    rw [strip_val, h1, show 10 ^ (200 - t) = 10 ^ (sa - t) * 10 ^ (200 - sa) by rw [← Nat.pow_add]; congr 1; omega, q_mul (Nat.pow_pos (by decide))]
end Go.Proofs.YtonjkoeacedaiaaDoor.S
namespace Go.Proofs.YtonjkoeacedaiaaDoor.S
open Go.RowKit Go.Proofs.YtonjkoeacedaiaaDoor Go.Proofs.YtonjkoeacedaiaaDoor.G Go.Proofs.YtonjkoeacedaiaaDoor.U Go.Proofs.YtonjkoeacedaiaaDoor.R Go.Proofs.YtonjkoeacedaiaaDoor.G4 Go.Proofs.YtonjkoeacedaiaaDoor.PU Go.Proofs.YtonjkoeacedaiaaDoorW.PrintWords Go.Proofs.YtonjkoeacedaiaaDoorW.PrintMore
set_option linter.unusedVariables false
set_option linter.unusedSimpArgs false
theorem make0_turn (n m : Bool) (D : ByteArray) (sc : Int) : dec_make0.f m D sc = (dec_make0.f n D sc).map fun x => (m, x.2) := by
  unfold dec_make0.f
  cases strings_TrimLeft.f D ⟨#[48]⟩ with
  | none => rfl
  | some t =>
    rw [Option.bind_some, Option.bind_some]
    by_cases h : (wrap64 ((wrap64 (sc + 1)) - (t.size : Int))) > 0
    · rw [if_pos h, if_pos h]
      cases strings_Repeat.f (⟨#[48]⟩ : ByteArray) (wrap64 ((wrap64 (sc + 1)) - (t.size : Int))) with
      | none => rfl
      | some u =>
        rw [Option.bind_some, Option.bind_some]
        by_cases h2 : u.size + t.size ≤ 9223372036854775807
        · rw [if_pos h2, if_pos h2]; rfl
        · rw [if_neg h2, if_neg h2]; rfl
    · rw [if_neg h, if_neg h]; rfl
theorem round_turn (n m : Bool) (D : ByteArray) (sa s : Int) : dec_Dec_Round.f m D sa s = (dec_Dec_Round.f n D sa s).map fun x => (m, x.2) := by
  unfold dec_Dec_Round.f
  by_cases h1 : rndOk D sa = true
  · rw [if_pos h1, if_pos h1]
    by_cases h2 : sa ≤ (if s < 0 then (0 : Int) else s)
    · rw [if_pos h2, if_pos h2]; rfl
    · rw [if_neg h2, if_neg h2]
      exact make0_turn n m _ _
  · rw [if_neg h1, if_neg h1]; rfl
theorem isg_turn (n : Bool) (v : Nat) : (v = 0 → isg (S n v) (S (!n) v) = 0) ∧ (v ≠ 0 → isg (S n v) (S (!n) v) = -isg (S (!n) v) (S n v) ∧ isg (S n v) (S (!n) v) ≠ 0 ∧ (isg (S (!n) v) (S n v) = 1 ∨ isg (S (!n) v) (S n v) = -1)) := by
  unfold isg S
  cases n
  · refine ⟨fun h => by subst h; rfl, fun h => ?_⟩
    have a1 : ¬ ((v : Int) < -(v : Int)) := by omega
    have a2 : ¬ ((v : Int) = -(v : Int)) := by omega
    have a3 : -(v : Int) < (v : Int) := by omega
    simp [a1, a2, a3]
  · refine ⟨fun h => by subst h; rfl, fun h => ?_⟩
    have a1 : ¬ ((v : Int) < -(v : Int)) := by omega
    have a2 : ¬ ((v : Int) = -(v : Int)) := by omega
    have a3 : -(v : Int) < (v : Int) := by omega
    simp [a1, a2, a3]
theorem signs_pure (n : Bool) (A : ByteArray) (sa s : Int) : ∃ k, polyglotlaw02_DecSigns.f k n A sa s = some true := by
  obtain ⟨A, rfl⟩ : ∃ l : List UInt8, A = ⟨l.toArray⟩ := ⟨bl A, (mk_bl A).symm⟩
  have hH : ∀ k, polyglotlaw02_head.f (k + 3) = some true := fun k => by
    induction k with
    | zero => exact head_ok
    | succ k ih => exact polyglotlaw02_head.mono _ _ ih
  refine ⟨200, ?_⟩
  obtain ⟨ba, ea, fa⟩ := right_any n A sa 200 (by decide)
  have hj : ∀ x0 x1 x2 x3, polyglotlaw02_DecSigns.j0 200 x0 true x1 x2 x3 = some true := fun x0 x1 x2 x3 => by
    show polyglotlaw02_DecSigns.j0 (199 + 1) x0 true x1 x2 x3 = some true
    rw [polyglotlaw02_DecSigns.j0, if_pos rfl]
  unfold polyglotlaw02_DecSigns.f
  rw [hH 197, Option.bind_some, if_pos rfl, ea, Option.bind_some]
  cases ba with
  | false => rw [if_neg (by decide), hj]
  | true =>
    rw [if_pos rfl]
    by_cases hs : s > 40
    · rw [show decide (s > 40) = true from decide_eq_true hs, hj]
    · rw [show decide (s > 40) = false from decide_eq_false hs]
      obtain ⟨a, rfl, ha, hA⟩ := fa rfl
      obtain ⟨R, r, er, hr, vr⟩ := round_ok n ha hA s (by omega)
      have et : dec_Dec_Round.f (!n) ⟨A.toArray⟩ (a : Int) s = some (!n, ⟨R.toArray⟩, (r : Int)) := by rw [round_turn n, er]; rfl
      have z1 := zero_ok n ha (a : Int)
      have z2 := zero_ok (!n) ha (a : Int)
      have hlt := ha.lt
      have hz : (⟨A.toArray⟩ : ByteArray).size = A.length := sz _
      have hw : wrap64 (((⟨A.toArray⟩ : ByteArray).size : Int) - (a : Int)) = ((⟨A.toArray⟩ : ByteArray).size : Int) - (a : Int) := w64 _ (by omega) (by omega)
      obtain ⟨X, hX⟩ : ∃ X, ∀ m, dec_Dec_Whole.f m ⟨A.toArray⟩ (a : Int) = some X := ⟨_, fun m => by
        unfold dec_Dec_Whole.f
        rw [hw, if_pos (by omega), if_pos (by omega)]⟩
      obtain ⟨Y, hY⟩ : ∃ Y, ∀ m, dec_Dec_Part.f m ⟨A.toArray⟩ (a : Int) = some Y := ⟨_, fun m => by
        unfold dec_Dec_Part.f
        rw [hw, if_pos (by omega), if_pos (by omega)]⟩
      have c1 := compare_ok 192 n (!n) ha ha
      have c2 := compare_ok 192 (!n) n ha ha
      obtain ⟨g1, g2⟩ := isg_turn n (V A a)
      have hj1 : polyglotlaw02_DecSigns.j1 199 false n ⟨A.toArray⟩ (a : Int) (!n) ⟨A.toArray⟩ (a : Int) = some true := by
        show polyglotlaw02_DecSigns.j1 (198 + 1) false n ⟨A.toArray⟩ (a : Int) (!n) ⟨A.toArray⟩ (a : Int) = some true
        rw [polyglotlaw02_DecSigns.j1, if_neg (by decide), z1, Option.bind_some]
        by_cases hv : V A a = 0
        · rw [if_pos (decide_eq_true hv), c1, Option.bind_some, if_pos (g1 hv)]
        · obtain ⟨g3, g4, g5⟩ := g2 hv
          rw [if_neg (fun h => hv (of_decide_eq_true h)), Option.bind_some, if_neg (fun h => hv (of_decide_eq_true h)), c1, Option.bind_some, c2, Option.bind_some, if_pos (by rw [w64 _ (by omega) (by omega)]; exact g3), Option.bind_some]
          refine congrArg some ?_
          rw [bne_iff_ne]
          exact g4
      show polyglotlaw02_DecSigns.j0 (199 + 1) s false n ⟨A.toArray⟩ (a : Int) = some true
      rw [polyglotlaw02_DecSigns.j0, if_neg (by decide), er, Option.bind_some, et, Option.bind_some, if_pos rfl, if_pos rfl, if_neg (by show ¬ (n == !n) = true; cases n <;> decide), z1, Option.bind_some, z2, Option.bind_some, bne_self_eq_false, if_neg (by decide), hX n, Option.bind_some, hX (!n), Option.bind_some, if_pos rfl, hY n, Option.bind_some, hY (!n), Option.bind_some, bne_self_eq_false]
      exact hj1
theorem signs_walk (n : Bool) (A : ByteArray) (sa s : Int) (w : World) (hT : Tab_ w) : Calls Tryd.prog 15 #[.agg #[.bool n, .string A, .int .i64 sa], .int .i64 s] w fun e w' => e = .returned (.bool true) ∧ Below w.heap.size w w' := by
  obtain ⟨k, hk⟩ := signs_pure n A sa s
  exact polyglotlaw02_DecSigns.calls k n A sa s true w hk hT
end Go.Proofs.YtonjkoeacedaiaaDoor.S
namespace Go.Proofs.YtonjkoeacedaiaaDoor.decSigns
open Go.ChangeShapes Go.WideShapes Go.ChangeAt Go.RowKit Go.Proofs.YtonjkoeacedaiaaDoor.E
open Go.ChangeMaps (open_string shut_string)
set_option linter.unusedVariables false
set_option linter.unusedSimpArgs false
theorem laid_met (os : Os) : laidMet Tryd.prog Rows.decSignsRow.laid ((laidWorld os).forCall (fun _ _ => 0) ⟨#[], #[.agg #[.bool false, .string ByteArray.empty, .int .i64 0], .int .i64 0], []⟩).memory :=
  laidMet_of_run3 8 (by kernel_rfl) (by kernel_rfl) (by kernel_rfl)
set_option maxRecDepth 100000 in
theorem reads (os : Os) {H : Type} (enc : TypeId × Value → H) : ∃ places, DataW.whole enc Tryd.prog ((laidWorld os).forCall (fun _ _ => 0) ⟨#[], #[.agg #[.bool false, .string ByteArray.empty, .int .i64 0], .int .i64 0], []⟩).memory Tryd.f15.params.toList Rows.decSignsSpec.vars false #[Value.agg #[.bool false, .string ByteArray.empty, .int .i64 0], Value.int .i64 0].toList 8 = some ([.agg [.lit (.bool false), .lit (.string []), .lit (.int .i64 0)], .lit (.int .i64 0)], [], places) :=
  ⟨[], by kernel_rfl⟩
set_option maxRecDepth 100000 in
theorem contract (H : Type) (enc : TypeId × Value → H) (W : World) (base : Nat) (args : Array Value) (ds gs : List (DataW H)) (before : List MemPlace)
    (hval : ∀ (j : Nat) t v, Tryd.f15.params[j]? = some t → args[j]? = some v → Value.okWide Tryd.prog W .any base t v)
    (hW : DataW.Whole enc Tryd.prog Tryd.f15.params.toList Rows.decSignsSpec.vars false W args.toList ds gs before) (hL : laidMetH Tryd.prog Rows.decSignsRow.laid W) (hS : W.ShapedOpen Tryd.prog) :
    Calls Tryd.prog 15 args W fun e W' => ∃ v, e = .returned v ∧ Rows.decSignsSpec.post enc Tryd.prog Tryd.f15 false true false false W args v W' := by
  have hW' := hW
  obtain ⟨p, q, hA0, hV, rfl, hfz, hnd⟩ := hW
  have hA : DataW.TrodAll enc Tryd.prog W 0 (fun _ => true) true Tryd.f15.params.toList args.toList ds p := hA0
  rw [Tryd.params15] at hA hval
  have hAk := hA
  have hlt : ∀ x ∈ p, x.block < W.heap.size := fun x hx => by simpa using hW'.lt x (List.mem_append.2 (Or.inl hx))
  obtain ⟨v0, vs0, d0, ds0, p0, q0, hargs, rfl, rfl, h0, r0⟩ := trodAll_cons hA
  obtain ⟨v1, vs1, d1, ds1, p1, q1, rfl, rfl, rfl, h1, r1⟩ := trodAll_cons r0
  obtain ⟨rfl, rfl, rfl⟩ := trodAll_nil r1
  obtain rfl : args = #[v0, v1] := by cases args; simp_all
  obtain ⟨rfl, rfl⟩ := trodVars_none hV
  obtain ⟨n0, s0, k0, rfl, rfl, rfl⟩ := open_dec (hval 0 23 v0 rfl rfl) h0
  obtain ⟨n1, rfl, rfl, rfl, hm1⟩ := open_int Tryd.underlying3 (hval 1 3 v1 rfl rfl) h1
  clear hA0
  simp only [List.append_nil] at hW' hAk hlt
  have hT := tab_of hS
  refine (S.signs_walk n0 s0 k0 n1 W hT).mono fun e W' ⟨he, hb⟩ => ?_
  subst he
  exact ⟨_, rfl, _, _, _, [], _, [], hW', trodAll_mk1 (shut_bool Tryd.underlying4 _), args_below laidOut hb _ _ _ _ (by decide +kernel) hAk hlt, rfl, hb.frame _, fun h => by cases h⟩
set_option maxRecDepth 100000 in
theorem lifted (os : Os) (started : os.Started) (H : Type) (enc : TypeId × Value → H) (F : Stop.Interp) :
    ReturnsInHanded {} Tryd.checked os 15 .any ((OpenSpec.ofChange Rows.decSignsSpec).preRow enc Tryd.prog Tryd.f15 Rows.decSignsRow.domain false Rows.decSignsRow.laid) (((OpenSpec.ofChange Rows.decSignsSpec).at F).post enc Tryd.prog Tryd.f15 false true false false) := by
  obtain ⟨places, hx⟩ := reads os enc
  refine returnsInHanded_of_row (C := Tryd.checked) (s := OpenSpec.ofChange Rows.decSignsSpec) own started (by kernel_rfl) Tryd.func15
    (witness_row_atRef (enc := enc) (C := Tryd.checked) false (laidWorld os) #[.agg #[.bool false, .string ByteArray.empty, .int .i64 0], .int .i64 0] rfl (by kernel_rfl) (by kernel_rfl) (by kernel_rfl)
      (OpenSpec.preRow_of_cond 8 hx (by kernel_rfl) (fun k hk => by cases hk) (by kernel_rfl) (laid_met os))) ?_
  intro W base args ds gs before hval hW _ _ _ hL hS _
  exact contract H enc W base args ds gs before hval hW hL hS
theorem said : Rows.DecSignsSaid :=
  OpenClaim.holds_of_cond 15 Tryd.f15 rfl rfl rfl rfl rfl rfl rfl ⟨rfl, rfl, rfl, rfl, rfl⟩ rfl rfl rfl rfl rfl (by kernel_rfl) Tryd.func15 (by kernel_rfl)
    (of_decide_eq_true (by kernel_rfl)) (by unfold Func.isWrapper; first | (rw [if_pos (by decide +kernel)]; kernel_rfl) | (rw [if_neg (by decide +kernel)]; exact ⟨rfl, rfl⟩))
    (fun os started H enc _ F => by rw [OpenClaim.pre_eq_preRow]; exact lifted os started H enc F)
theorem plain (f : FuncId) (fn : Func) (hf : Tryd.pinned.checked.prog.funcNamed "polyglot/polyglotlaw02.DecSigns" = some f) (hfn : Tryd.pinned.checked.prog.funcs[f]? = some fn) :
    false = Tryd.pinned.checked.prog.looks [] ∧ ∀ (j : Nat) t, fn.params[j]? = some t → Tryd.pinned.checked.prog.wantsStandIn t = false := by
  obtain rfl : f = 15 := Option.some.inj ((show Tryd.prog.funcNamed "polyglot/polyglotlaw02.DecSigns" = some 15 by kernel_rfl).symm.trans hf) |>.symm
  obtain rfl : fn = Tryd.f15 := (Option.some.inj (Tryd.func15.symm.trans hfn)).symm
  refine ⟨by kernel_rfl, fun j t ht => ?_⟩
  rw [Tryd.params15] at ht
  have hmem := Array.mem_of_getElem? ht
  have hall : ∀ t ∈ (#[23, 3] : Array TypeId), Tryd.prog.wantsStandIn t = false := by
    intro t ht
    simp at ht
    rcases ht with rfl | rfl
    all_goals kernel_rfl
  exact hall t hmem
end Go.Proofs.YtonjkoeacedaiaaDoor.decSigns
namespace Go.Proofs.YtonjkoeacedaiaaDoor
theorem decSigns_holds : Rows.DecSignsCardSaid :=
  Claim7.holds_tied_plain_at .later [] _ _ _ _ decSigns.said (fun _ h => by cases h) (by kernel_rfl) (fun _ h => by cases h) decSigns_row_tie rfl ⟨rfl, rfl⟩ (by kernel_rfl) rfl decSigns.plain (by kernel_rfl)
end Go.Proofs.YtonjkoeacedaiaaDoor
