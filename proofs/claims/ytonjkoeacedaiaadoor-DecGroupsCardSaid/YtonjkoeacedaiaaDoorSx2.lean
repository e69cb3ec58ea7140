-- PRINTED by print.py (a twelfth state) out of the translation. Not trusted: Lean checks it.
import Derived.Test.YtonjkoeacedaiaaDoorSx0
namespace Go.Proofs.YtonjkoeacedaiaaDoor.S
open Go.RowKit Go.Proofs.YtonjkoeacedaiaaDoor.G Go.Proofs.YtonjkoeacedaiaaDoor.U Go.Proofs.YtonjkoeacedaiaaDoor.R Go.Proofs.YtonjkoeacedaiaaDoorW.PrintWords Go.Proofs.YtonjkoeacedaiaaDoorW.PrintLast Go.Proofs.YtonjkoeacedaiaaDoorW.PrintMore
attribute [local go_sem] max2_int min2_int max_two min_two max_three min_three max_four min_four   -- for this text's walks alone
set_option linter.unusedVariables false
set_option linter.unusedSimpArgs false

/-! ### polyglotlaw02_DecGroups: function 8 -/
mutual
def polyglotlaw02_DecGroups.j0 : Nat → ByteArray → ByteArray → Bool → Option (Bool)
  | 0, _, _, _ => none
  | k + 1, x0, x1, x17 => if x17 = true then (some true) else (polyglotlaw02_DecGroups.l0 k x0 x1 0)
def polyglotlaw02_DecGroups.l0 : Nat → ByteArray → ByteArray → Int → Option (Bool)
  | 0, _, _, _ => none
  | k + 1, x0, x1, x5 => if x5 < (x0.size : Int) then (if 0 ≤ x5 then ((polyglotlaw02_digit.f (bt x0 x5)).bind fun t102 => (if t102 = true then (polyglotlaw02_DecGroups.l0 k x0 x1 (wrap64 (x5 + 1))) else (some true))) else (none)) else (polyglotlaw02_DecGroups.l1 k x0 x1 (⟨#[]⟩ : ByteArray) x0)
def polyglotlaw02_DecGroups.l1 : Nat → ByteArray → ByteArray → ByteArray → ByteArray → Option (Bool)
  | 0, _, _, _, _ => none
  | k + 1, x0, x1, x6, x7 => if (x7.size : Int) > 3 then (if 0 ≤ (wrap64 ((x7.size : Int) - 3)) then (if (wrap64 ((x7.size : Int) - 3)) ≤ (x7.size : Int) then (if x1.size + (x7.extract ((wrap64 ((x7.size : Int) - 3)) : Int).toNat x7.size).size ≤ 9223372036854775807 then (if (x1 ++ (x7.extract ((wrap64 ((x7.size : Int) - 3)) : Int).toNat x7.size)).size + x6.size ≤ 9223372036854775807 then (polyglotlaw02_DecGroups.l1 k x0 x1 ((x1 ++ (x7.extract ((wrap64 ((x7.size : Int) - 3)) : Int).toNat x7.size)) ++ x6) (x7.extract 0 ((wrap64 ((x7.size : Int) - 3)) : Int).toNat)) else (none)) else (none)) else (none)) else (none)) else ((dec_Group.f x0 x1).bind fun t103 => (if x7.size + x6.size ≤ 9223372036854775807 then (some (t103.toList == (x7 ++ x6).toList)) else (none)))
end
def polyglotlaw02_DecGroups.f (k : Nat) (a0 : ByteArray) (a1 : ByteArray) : Option (Bool) := (polyglotlaw02_head.f k).bind fun t101 => (if t101 = true then (if (a0.size : Int) > 100 then (polyglotlaw02_DecGroups.j0 k a0 a1 true) else (polyglotlaw02_DecGroups.j0 k a0 a1 (decide ((a1.size : Int) > 20)))) else (some false))
theorem polyglotlaw02_DecGroups.mono_l : ∀ k, (∀ y0 y1 y2, LeO (polyglotlaw02_DecGroups.j0 k y0 y1 y2) (polyglotlaw02_DecGroups.j0 (k + 1) y0 y1 y2)) ∧ (∀ y0 y1 y2, LeO (polyglotlaw02_DecGroups.l0 k y0 y1 y2) (polyglotlaw02_DecGroups.l0 (k + 1) y0 y1 y2)) ∧ (∀ y0 y1 y2 y3, LeO (polyglotlaw02_DecGroups.l1 k y0 y1 y2 y3) (polyglotlaw02_DecGroups.l1 (k + 1) y0 y1 y2 y3))
  | 0 => ⟨fun _ _ _ r h => by simp [polyglotlaw02_DecGroups.j0] at h, fun _ _ _ r h => by simp [polyglotlaw02_DecGroups.l0] at h, fun _ _ _ _ r h => by simp [polyglotlaw02_DecGroups.l1] at h⟩
  | k + 1 => by
    obtain ⟨ih0, ih1, ih2⟩ := polyglotlaw02_DecGroups.mono_l k
    refine ⟨?_, ?_, ?_⟩
    · intro y0 y1 y2
      unfold polyglotlaw02_DecGroups.j0
      repeat' first
      | (with_reducible exact ih0 _ _ _)
      | (with_reducible exact ih1 _ _ _)
      | (with_reducible exact ih2 _ _ _ _)
      | (with_reducible exact polyglotlaw02_head.mono _)
      | (with_reducible exact LeO.refl _)
      | (with_reducible exact LeO.none _)
      | (with_reducible refine LeO.ite ?_ ?_)
      | (with_reducible refine LeO.bind ?_ (fun _ => ?_))
      | exact ih0 _ _ _
      | exact ih1 _ _ _
      | exact ih2 _ _ _ _
      | exact polyglotlaw02_head.mono _
      | exact LeO.none _
      | refine LeO.ite ?_ ?_
      | refine LeO.bind ?_ (fun _ => ?_)
    · intro y0 y1 y2
      unfold polyglotlaw02_DecGroups.l0
      repeat' first
      | (with_reducible exact ih0 _ _ _)
      | (with_reducible exact ih1 _ _ _)
      | (with_reducible exact ih2 _ _ _ _)
      | (with_reducible exact polyglotlaw02_head.mono _)
      | (with_reducible exact LeO.refl _)
      | (with_reducible exact LeO.none _)
      | (with_reducible refine LeO.ite ?_ ?_)
      | (with_reducible refine LeO.bind ?_ (fun _ => ?_))
      | exact ih0 _ _ _
      | exact ih1 _ _ _
      | exact ih2 _ _ _ _
      | exact polyglotlaw02_head.mono _
      | exact LeO.none _
      | refine LeO.ite ?_ ?_
      | refine LeO.bind ?_ (fun _ => ?_)
    · intro y0 y1 y2 y3
      unfold polyglotlaw02_DecGroups.l1
      repeat' first
      | (with_reducible exact ih0 _ _ _)
      | (with_reducible exact ih1 _ _ _)
      | (with_reducible exact ih2 _ _ _ _)
      | (with_reducible exact polyglotlaw02_head.mono _)
      | (with_reducible exact LeO.refl _)
      | (with_reducible exact LeO.none _)
      | (with_reducible refine LeO.ite ?_ ?_)
      | (with_reducible refine LeO.bind ?_ (fun _ => ?_))
      | exact ih0 _ _ _
      | exact ih1 _ _ _
      | exact ih2 _ _ _ _
      | exact polyglotlaw02_head.mono _
      | exact LeO.none _
      | refine LeO.ite ?_ ?_
      | refine LeO.bind ?_ (fun _ => ?_)
theorem polyglotlaw02_DecGroups.mono : ∀ a0 a1 k, LeO (polyglotlaw02_DecGroups.f k a0 a1) (polyglotlaw02_DecGroups.f (k + 1) a0 a1) := by
  intro a0 a1 k
  obtain ⟨ih0, ih1, ih2⟩ := polyglotlaw02_DecGroups.mono_l k
  unfold polyglotlaw02_DecGroups.f
  repeat' first
      | (with_reducible exact ih0 _ _ _)
      | (with_reducible exact ih1 _ _ _)
      | (with_reducible exact ih2 _ _ _ _)
      | (with_reducible exact polyglotlaw02_head.mono _)
      | (with_reducible exact LeO.refl _)
      | (with_reducible exact LeO.none _)
      | (with_reducible refine LeO.ite ?_ ?_)
      | (with_reducible refine LeO.bind ?_ (fun _ => ?_))
      | exact ih0 _ _ _
      | exact ih1 _ _ _
      | exact ih2 _ _ _ _
      | exact polyglotlaw02_head.mono _
      | exact LeO.none _
      | refine LeO.ite ?_ ?_
      | refine LeO.bind ?_ (fun _ => ?_)
set_option maxHeartbeats 8000000 in
set_option maxRecDepth 100000 in
theorem polyglotlaw02_DecGroups.calls (k : Nat) (a0 : ByteArray) (a1 : ByteArray) (r : Bool) (w : World) (h : polyglotlaw02_DecGroups.f k a0 a1 = some r) (HT0_ : Tab_ w := by exact Tab_.step HT0_ (by repeat (first | (with_reducible first | exact HB.out | apply below_alloc | apply pw_below_drewN | apply below_drew1 | refine below_set ?_ (Aside0.out (by assumption))) | exact HB.out))) :
    Calls Tryd.prog 8 #[.string a0, .string a1] w fun e w' => e = .returned (.bool r) ∧ Below w.heap.size w w' := by
  have HB := Aside0.mk (Below.refl w.heap.size w)
  have H : ((polyglotlaw02_head.f k).bind fun t101 => (if t101 = true then (if (a0.size : Int) > 100 then (polyglotlaw02_DecGroups.j0 k a0 a1 true) else (polyglotlaw02_DecGroups.j0 k a0 a1 (decide ((a1.size : Int) > 20)))) else (some false))) = some r := h
  clear h
  replace H := Option.bind_eq_some_iff.mp H
  obtain ⟨t101, A30, H⟩ := H
  replace H : (if t101 = true then (if (a0.size : Int) > 100 then (polyglotlaw02_DecGroups.j0 k a0 a1 true) else (polyglotlaw02_DecGroups.j0 k a0 a1 (decide ((a1.size : Int) > 20)))) else (some false)) = some r := H
  have A3 := Aside0.mk A30
  clear A30
  by_cases c4 : t101 = true
  · subst c4
    have H1 : (if (a0.size : Int) > 100 then (polyglotlaw02_DecGroups.j0 k a0 a1 true) else (polyglotlaw02_DecGroups.j0 k a0 a1 (decide ((a1.size : Int) > 20)))) = some r := by rw [if_pos rfl] at H; exact H
    clear H
    have H := H1
    clear H1
    have HC5 := Aside0.mk H
    clear H
    go_enter Tryd.func8, Tryd.ntmps8
    go_upto_region 3 with (first | ((with_reducible refine gate_callee (f := 34) rfl ?_); refine goesL_ (some 8) rfl rfl Tryd.func34 (by kernel_rfl) rfl #[] rfl (by (try simp only [List.map_toArray, List.map_cons, List.map_nil]); first | done | rfl | (simp only [List.length_drop, List.length_take]; rfl)) ?_; (with_reducible refine (polyglotlaw02_head.calls k  true _ A3.out).mono ?_); rintro e w6 ⟨rfl, hb⟩; refine ⟨_, rfl, ?_⟩; have n0_ := Aside0.mk (below_step (by repeat (first | (with_reducible first | exact HB.out | apply below_alloc | apply pw_below_drewN | apply below_drew1) | exact HB.out)) hb); clear HB; have HB := n0_; clear n0_; (try clear hb); (try clear hb2); (try clear hk); (try clear hi)))
    (try simp only [Act.put, List.setIfInBounds_toArray, List.set_cons_zero, List.set_cons_succ])
    go_cut [17] (fun v17 wc => ∃ (kq : Nat) (x17_4 : Bool), v17 = .bool x17_4 ∧ Aside0 (polyglotlaw02_DecGroups.j0 kq a0 a1 x17_4 = some r) ∧ Aside0 (kq ≤ k) ∧ Aside0 (Below w.heap.size w wc))
    case first =>
      have H := HC5.out
      clear HC5
      by_cases c7 : (a0.size : Int) > 100
      · rw [if_pos c7] at H
        have c7b0 : decide (100 < (a0.size : Int)) = true := decide_eq_true c7
        have c7b1 : decide (100 < a0.size) = true := decide_eq_true (by omega)
        clear c7
        (first | rw [c7b0] | (simp only [i64_w, i32_w]; rw [c7b0]) | skip)
        have H' := Aside0.mk H
        clear H
        go_wp2
        go_meet
        case rel => exact ⟨_, (true), (by first | rfl | (simp; done) | (simp [*]; done)), H', ⟨by first | omega | exact Nat.le_refl _⟩, ⟨by repeat (first | (with_reducible first | exact HB.out | apply below_alloc | apply pw_below_drewN | apply below_drew1) | exact HB.out)⟩⟩
      · rw [if_neg c7] at H
        have c7b0 : decide (100 < (a0.size : Int)) = false := decide_eq_false c7
        have c7b1 : decide (100 < a0.size) = false := decide_eq_false (by omega)
        clear c7
        (first | rw [c7b0] | (simp only [i64_w, i32_w]; rw [c7b0]) | skip)
        have H' := Aside0.mk H
        clear H
        go_wp2
        go_meet
        case rel => exact ⟨_, (decide ((a1.size : Int) > 20)), (by first | rfl | (simp; done) | (simp [*]; done)), H', ⟨by first | omega | exact Nat.le_refl _⟩, ⟨by repeat (first | (with_reducible first | exact HB.out | apply below_alloc | apply pw_below_drewN | apply below_drew1) | exact HB.out)⟩⟩
    case rest =>
      clear HC5
      try clear p2
      try clear c3
      try clear c4
      try clear c7
      try clear c7b0
      try clear c7b1
      obtain ⟨kq, x17_4, rfl, HA, HJ4, HB⟩ := hcut
      cases kq with
      | zero => exact absurd HA.out (by simp [polyglotlaw02_DecGroups.j0])
      | succ kj4 =>
        have H := HA.out
        clear HA
        simp only [polyglotlaw02_DecGroups.j0] at H
        by_cases c8 : x17_4 = true
        · subst c8
          have H1 : (some true) = some r := by rw [if_pos rfl] at H; exact H
          clear H
          have H := H1
          clear H1
          obtain rfl := Option.some.inj H
          go_wp2
          go_ret
          exact ⟨by first | rfl | (simp [errW_none, errW_some] <;> rfl) | (simp [*, errW_none, errW_some] <;> rfl), by repeat (first | (with_reducible first | exact HB.out | apply below_alloc | apply pw_below_drewN | apply below_drew1) | exact HB.out)⟩
        · replace c8 := Bool.eq_false_iff.mpr c8
          subst c8
          have H1 : (polyglotlaw02_DecGroups.l0 kj4 a0 a1 0) = some r := by rw [if_neg (show ¬ (false = true) by decide)] at H; exact H
          clear H
          have H := H1
          clear H1
          have H' := Aside0.mk H
          clear H
          go_wp2
          go_loopg [5] kj4 (fun kq v5 w' => ∃ (x5_2 : Int), v5 = .int .i64 x5_2 ∧ Aside0 (polyglotlaw02_DecGroups.l0 kq a0 a1 x5_2 = some r) ∧ Aside0 (kq ≤ kj4) ∧ Aside0 (Below w.heap.size w w'))
          case atStart => exact ⟨(0), (by first | rfl | (simp; done) | (simp [*]; done)), H', ⟨Nat.le_refl _⟩, ⟨by repeat (first | (with_reducible first | exact HB.out | apply below_alloc | apply pw_below_drewN | apply below_drew1) | exact HB.out)⟩⟩
          case round =>
            clear H'
            try clear p2
            try clear c3
            try clear c4
            try clear c7
            try clear c7b0
            try clear c7b1
            try clear c8
            try clear p2
            obtain ⟨x5_2, rfl, HA, HK2, HB⟩ := hrel
            cases gk with
            | zero => exact absurd HA.out (by simp [polyglotlaw02_DecGroups.l0])
            | succ k2 =>
              have H := HA.out
              clear HA
              simp only [polyglotlaw02_DecGroups.l0] at H
              by_cases c9 : x5_2 < (a0.size : Int)
              · rw [if_pos c9] at H
                have c9b0 : decide (x5_2 < (a0.size : Int)) = true := decide_eq_true c9
                clear c9
                by_cases c10 : 0 ≤ x5_2
                · rw [if_pos c10] at H
                  have c10b0 : decide (0 ≤ x5_2) = true := decide_eq_true c10
                  clear c10
                  replace H := Option.bind_eq_some_iff.mp H
                  obtain ⟨t102, A120, H⟩ := H
                  replace H : (if t102 = true then (polyglotlaw02_DecGroups.l0 k2 a0 a1 (wrap64 (x5_2 + 1))) else (some true)) = some r := H
                  have A12 := Aside0.mk A120
                  clear A120
                  by_cases c13 : t102 = true
                  · subst c13
                    have H1 : (polyglotlaw02_DecGroups.l0 k2 a0 a1 (wrap64 (x5_2 + 1))) = some r := by rw [if_pos rfl] at H; exact H
                    clear H
                    have H := H1
                    clear H1
                    have H' := Aside0.mk H
                    clear H
                    have p11 : 0 ≤ (x5_2 : Int) := of_decide_eq_true (by first | (with_reducible assumption) | assumption)
                    have q11 : x5_2 < (a0.size : Int) := of_decide_eq_true (by first | (with_reducible assumption) | assumption)
                    have hx11 := bt_at a0 x5_2
                    replace p11 := eq_true p11
                    replace q11 := eq_true q11
                    go_wp2_with (first | ((with_reducible refine gate_callee (f := 35) rfl ?_); refine goesL_ (some 27) rfl rfl Tryd.func35 (by kernel_rfl) rfl #[.int .u8 (bt a0 x5_2)] rfl (by (try simp only [List.map_toArray, List.map_cons, List.map_nil]); first | done | rfl | (simp only [List.length_drop, List.length_take]; rfl)) ?_; (with_reducible refine (polyglotlaw02_digit.calls (bt a0 x5_2) true _ A12.out).mono ?_); rintro e w' ⟨rfl, ⟨nd, rfl⟩⟩; refine ⟨_, rfl, ?_⟩))
                    go_roundg k2
                    case measure => have := HJ4.out; have := HK2.out; omega
                    case rel => exact ⟨(wrap64 (x5_2 + 1)), (by first | rfl | (simp; done) | (simp [*]; done)), H', ⟨by have := HJ4.out; have := HK2.out; omega⟩, ⟨by repeat (first | (with_reducible first | exact HB.out | apply below_alloc | apply pw_below_drewN | apply below_drew1) | exact HB.out)⟩⟩
                  · replace c13 := Bool.eq_false_iff.mpr c13
                    subst c13
                    have H1 : (some true) = some r := by rw [if_neg (show ¬ (false = true) by decide)] at H; exact H
                    clear H
                    have H := H1
                    clear H1
                    obtain rfl := Option.some.inj H
                    have p11 : 0 ≤ (x5_2 : Int) := of_decide_eq_true (by first | (with_reducible assumption) | assumption)
                    have q11 : x5_2 < (a0.size : Int) := of_decide_eq_true (by first | (with_reducible assumption) | assumption)
                    have hx11 := bt_at a0 x5_2
                    replace p11 := eq_true p11
                    replace q11 := eq_true q11
                    go_wp2_with (first | ((with_reducible refine gate_callee (f := 35) rfl ?_); refine goesL_ (some 27) rfl rfl Tryd.func35 (by kernel_rfl) rfl #[.int .u8 (bt a0 x5_2)] rfl (by (try simp only [List.map_toArray, List.map_cons, List.map_nil]); first | done | rfl | (simp only [List.length_drop, List.length_take]; rfl)) ?_; (with_reducible refine (polyglotlaw02_digit.calls (bt a0 x5_2) false _ A12.out).mono ?_); rintro e w' ⟨rfl, ⟨nd, rfl⟩⟩; refine ⟨_, rfl, ?_⟩))
                    go_ret
                    exact ⟨by first | rfl | (simp [errW_none, errW_some] <;> rfl) | (simp [*, errW_none, errW_some] <;> rfl), by repeat (first | (with_reducible first | exact HB.out | apply below_alloc | apply pw_below_drewN | apply below_drew1) | exact HB.out)⟩
                · rw [if_neg c10] at H
                  exact absurd H (by simp)
              · rw [if_neg c9] at H
                have c9b0 : decide (x5_2 < (a0.size : Int)) = false := decide_eq_false c9
                clear c9
                have H' := Aside0.mk H
                clear H
                go_wp2
                go_loopg [6, 7] k2 (fun kq v6 v7 w' => ∃ (x6_3 : ByteArray) (x7_3 : ByteArray), v6 = .string x6_3 ∧ v7 = .string x7_3 ∧ Aside0 (polyglotlaw02_DecGroups.l1 kq a0 a1 x6_3 x7_3 = some r) ∧ Aside0 (kq ≤ k2) ∧ Aside0 (Below w.heap.size w w'))
                case atStart => exact ⟨((⟨#[]⟩ : ByteArray)), (a0), (by first | rfl | (simp; done) | (simp [*]; done)), (by first | rfl | (simp; done) | (simp [*]; done)), H', ⟨Nat.le_refl _⟩, ⟨by repeat (first | (with_reducible first | exact HB.out | apply below_alloc | apply pw_below_drewN | apply below_drew1) | exact HB.out)⟩⟩
                case round =>
                  clear H'
                  try clear c1
                  try clear p1
                  try clear q1
                  try clear hx1
                  try clear p2
                  try clear c3
                  try clear c4
                  try clear p6
                  try clear c7
                  try clear c7b0
                  try clear c7b1
                  try clear c8
                  try clear c9
                  try clear c9b0
                  try clear c10
                  try clear c10b0
                  try clear p11
                  try clear q11
                  try clear hx11
                  try clear c13
                  try clear p11
                  try clear p2
                  try clear q11
                  obtain ⟨x6_3, x7_3, rfl, rfl, HA, HK3, HB⟩ := hrel
                  cases gk with
                  | zero => exact absurd HA.out (by simp [polyglotlaw02_DecGroups.l1])
                  | succ k3 =>
                    have H := HA.out
                    clear HA
                    simp only [polyglotlaw02_DecGroups.l1] at H
                    by_cases c14 : (x7_3.size : Int) > 3
                    · rw [if_pos c14] at H
                      have c14b0 : decide (3 < (x7_3.size : Int)) = true := decide_eq_true c14
                      have c14b1 : decide (3 < x7_3.size) = true := decide_eq_true (by omega)
                      clear c14
                      obtain ⟨ji15, hji15⟩ : ∃ j_ : Int, (wrap64 ((x7_3.size : Int) - 3)) = j_ := ⟨_, rfl⟩
                      replace H : (if 0 ≤ (ji15) then (if (ji15) ≤ (x7_3.size : Int) then (if a1.size + (x7_3.extract ((ji15) : Int).toNat x7_3.size).size ≤ 9223372036854775807 then (if (a1 ++ (x7_3.extract ((ji15) : Int).toNat x7_3.size)).size + x6_3.size ≤ 9223372036854775807 then (polyglotlaw02_DecGroups.l1 k3 a0 a1 ((a1 ++ (x7_3.extract ((ji15) : Int).toNat x7_3.size)) ++ x6_3) (x7_3.extract 0 ((ji15) : Int).toNat)) else (none)) else (none)) else (none)) else (none)) = some r := by first | (rw [hji15] at H; exact H) | (simp only [hji15] at H ⊢; exact H)
                      have hji15w : (IntKind.i64.wrap ((x7_3.size : Int) - 3)) = ji15 := (i64_w _).trans hji15
                      by_cases c16 : 0 ≤ (ji15)
                      · rw [if_pos c16] at H
                        have c16b0 := eq_true c16
                        have c16b1 : decide (0 ≤ (ji15)) = true := decide_eq_true c16
                        clear c16
                        by_cases c17 : (ji15) ≤ (x7_3.size : Int)
                        · rw [if_pos c17] at H
                          have c17b0 := eq_true c17
                          have c17b1 : decide ((ji15) ≤ (x7_3.size : Int)) = true := decide_eq_true c17
                          clear c17
                          by_cases c18 : a1.size + (x7_3.extract ((ji15) : Int).toNat x7_3.size).size ≤ 9223372036854775807
                          · rw [if_pos c18] at H
                            have c18b0 := eq_true c18
                            have c18b1 : decide (a1.size + (x7_3.extract ((ji15) : Int).toNat x7_3.size).size ≤ 9223372036854775807) = true := decide_eq_true c18
                            try have c18b2 : (9223372036854775807 < a1.size + (x7_3.extract ((ji15) : Int).toNat x7_3.size).size) = False := eq_false (Nat.not_lt.2 c18)
                            by_cases c19 : (a1 ++ (x7_3.extract ((ji15) : Int).toNat x7_3.size)).size + x6_3.size ≤ 9223372036854775807
                            · rw [if_pos c19] at H
                              have c19b0 := eq_true c19
                              try have c19n := c19
                              try simp only [ByteArray.size_append] at c19n
                              try have c19m := eq_false (Nat.not_lt.2 c19n)
                              try have c19k := eq_true c19n
                              have c19b1 : decide ((a1 ++ (x7_3.extract ((ji15) : Int).toNat x7_3.size)).size + x6_3.size ≤ 9223372036854775807) = true := decide_eq_true c19
                              try have c19b2 : (9223372036854775807 < (a1 ++ (x7_3.extract ((ji15) : Int).toNat x7_3.size)).size + x6_3.size) = False := eq_false (Nat.not_lt.2 c19)
                              have c20b0 := eq_true (of_decide_eq_true (by first | (with_reducible assumption) | assumption) : 0 ≤ (ji15))
                              have c21b0 := eq_true (of_decide_eq_true (by first | (with_reducible assumption) | assumption) : (ji15) ≤ (x7_3.size : Int))
                              have H' := Aside0.mk H
                              clear H
                              go_wp2
                              go_roundg k3
                              case measure => have := HJ4.out; have := HK2.out; have := HK3.out; omega
                              case rel => exact ⟨((a1 ++ (x7_3.extract ((ji15) : Int).toNat x7_3.size)) ++ x6_3), (x7_3.extract 0 ((ji15) : Int).toNat), (by first | rfl | (simp; done) | (simp only [← hji15] <;> (first | rfl | simp)) | (simp [*]; done)), (by first | rfl | (simp; done) | (simp only [← hji15] <;> (first | rfl | simp)) | (simp [*]; done)), H', ⟨by have := HJ4.out; have := HK2.out; have := HK3.out; omega⟩, ⟨by repeat (first | (with_reducible first | exact HB.out | apply below_alloc | apply pw_below_drewN | apply below_drew1) | exact HB.out)⟩⟩
                            · rw [if_neg c19] at H
                              exact absurd H (by simp)
                          · rw [if_neg c18] at H
                            exact absurd H (by simp)
                        · rw [if_neg c17] at H
                          exact absurd H (by simp)
                      · rw [if_neg c16] at H
                        exact absurd H (by simp)
                    · rw [if_neg c14] at H
                      have c14b0 : decide (3 < (x7_3.size : Int)) = false := decide_eq_false c14
                      have c14b1 : decide (3 < x7_3.size) = false := decide_eq_false (by omega)
                      clear c14
                      replace H := Option.bind_eq_some_iff.mp H
                      obtain ⟨t103, A220, H⟩ := H
                      replace H : (if x7_3.size + x6_3.size ≤ 9223372036854775807 then (some (t103.toList == (x7_3 ++ x6_3).toList)) else (none)) = some r := H
                      have A22 := Aside0.mk A220
                      clear A220
                      by_cases c23 : x7_3.size + x6_3.size ≤ 9223372036854775807
                      · rw [if_pos c23] at H
                        try simp only [show wrap64 ((x7_3.size : Int) + (x6_3.size : Int)) = (x7_3.size : Int) + (x6_3.size : Int) from by unfold wrap64; omega] at *
                        have c23b0 := eq_true c23
                        have c23b1 : decide (x7_3.size + x6_3.size ≤ 9223372036854775807) = true := decide_eq_true c23
                        try have c23b2 : (9223372036854775807 < x7_3.size + x6_3.size) = False := eq_false (Nat.not_lt.2 c23)
                        obtain rfl := Option.some.inj H
                        go_wp2_with (first | ((with_reducible refine gate_callee (f := 36) rfl ?_); refine goesL_ (some 49) rfl rfl Tryd.func36 (by kernel_rfl) rfl #[.string a0, .string a1] rfl (by (try simp only [List.map_toArray, List.map_cons, List.map_nil]); first | done | rfl | (simp only [List.length_drop, List.length_take]; rfl)) ?_; (with_reducible refine (dec_Group.calls a0 a1 t103 _ A22.out).mono ?_); rintro e w24 ⟨rfl, hb⟩; refine ⟨_, rfl, ?_⟩; have n0_ := Aside0.mk (below_step (by repeat (first | (with_reducible first | exact HB.out | apply below_alloc | apply pw_below_drewN | apply below_drew1) | exact HB.out)) hb); clear HB; have HB := n0_; clear n0_; (try clear hb); (try clear hb2); (try clear hk); (try clear hi)))
                        go_ret
                        exact ⟨by first | rfl | (simp [errW_none, errW_some] <;> rfl) | (simp [*, errW_none, errW_some] <;> rfl), by repeat (first | (with_reducible first | exact HB.out | apply below_alloc | apply pw_below_drewN | apply below_drew1) | exact HB.out)⟩
                      · rw [if_neg c23] at H
                        exact absurd H (by simp)
  · replace c4 := Bool.eq_false_iff.mpr c4
    subst c4
    have H1 : (some false) = some r := by rw [if_neg (show ¬ (false = true) by decide)] at H; exact H
    clear H
    have H := H1
    clear H1
    obtain rfl := Option.some.inj H
    go_enter Tryd.func8, Tryd.ntmps8
    go_wp2_with (first | ((with_reducible refine gate_callee (f := 34) rfl ?_); refine goesL_ (some 8) rfl rfl Tryd.func34 (by kernel_rfl) rfl #[] rfl (by (try simp only [List.map_toArray, List.map_cons, List.map_nil]); first | done | rfl | (simp only [List.length_drop, List.length_take]; rfl)) ?_; (with_reducible refine (polyglotlaw02_head.calls k  false _ A3.out).mono ?_); rintro e w25 ⟨rfl, hb⟩; refine ⟨_, rfl, ?_⟩; have n0_ := Aside0.mk (below_step (by repeat (first | (with_reducible first | exact HB.out | apply below_alloc | apply pw_below_drewN | apply below_drew1) | exact HB.out)) hb); clear HB; have HB := n0_; clear n0_; (try clear hb); (try clear hb2); (try clear hk); (try clear hi)))
    go_ret
    exact ⟨by first | rfl | (simp [errW_none, errW_some] <;> rfl) | (simp [*, errW_none, errW_some] <;> rfl), by repeat (first | (with_reducible first | exact HB.out | apply below_alloc | apply pw_below_drewN | apply below_drew1) | exact HB.out)⟩

/-- THE ONE PURE STATEMENT of polyglotlaw02_DecGroups: yours. -/
def polyglotlaw02_DecGroups.Pure : Prop := ∀ (a0 : ByteArray) (a1 : ByteArray), a0.size ≤ 140737488351232 → a1.size ≤ 140737488351232 → ∃ k, polyglotlaw02_DecGroups.f k a0 a1 = some true
theorem polyglotlaw02_DecGroups.walk (P : polyglotlaw02_DecGroups.Pure) (a0 : ByteArray) (a1 : ByteArray) (w : World) (w0 : a0.size ≤ 140737488351232) (w1 : a1.size ≤ 140737488351232) (HT0_ : Tab_ w) :
    Calls Tryd.prog 8 #[.string a0, .string a1] w fun e w' => e = .returned (.bool true) ∧ Below w.heap.size w w' := by
  have HB := Aside0.mk (Below.refl w.heap.size w)
  obtain ⟨k, h⟩ := P a0 a1 w0 w1
  refine (polyglotlaw02_DecGroups.calls k a0 a1 true w h).mono ?_
  rintro e w' ⟨rfl, hd⟩
  exact ⟨rfl, hd⟩

end Go.Proofs.YtonjkoeacedaiaaDoor.S
