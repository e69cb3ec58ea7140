/- DecCompares: whatever two numbers come in, the call returns true and leaves them as they were (Text 3 of 4: what the law's proof rests on, joined; walks printed by the kit's print over given contracts, walks and plain laws by hand.) -/
import Derived.Test.YtonjkoeacedaiaaDoorCmp0
import Derived.Test.YtonjkoeacedaiaaDoorCmp1
namespace Go.Proofs.YtonjkoeacedaiaaDoor.R
open Go.RowKit Go.Proofs.YtonjkoeacedaiaaDoor.G Go.Proofs.YtonjkoeacedaiaaDoor.U Go.Proofs.YtonjkoeacedaiaaDoorW.PrintWords Go.Proofs.YtonjkoeacedaiaaDoorW.PrintLast Go.Proofs.YtonjkoeacedaiaaDoorW.PrintMore
attribute [local go_sem] max2_int min2_int max_two min_two max_three min_three max_four min_four
set_option linter.unusedVariables false
set_option linter.unusedSimpArgs false
mutual
def polyglotlaw02_Right.j0 : Nat → Bool → Bool → ByteArray → Int → Option (Bool)
  | 0, _, _, _, _ => none
  | k + 1, x20, x142000, x142001, x142002 => if x20 = true then (some false) else (polyglotlaw02_Right.l0 k 0 x142000 x142001 x142002)
def polyglotlaw02_Right.l0 : Nat → Int → Bool → ByteArray → Int → Option (Bool)
  | 0, _, _, _, _ => none
  | k + 1, x3, x142000, x142001, x142002 => if x3 < (x142001.size : Int) then (if 0 ≤ x3 then ((polyglotlaw02_digit.f (bt x142001 x3)).bind fun t142 => (if t142 = true then (polyglotlaw02_Right.l0 k (wrap64 (x3 + 1)) x142000 x142001 x142002) else (some false))) else (none)) else (if 0 < (x142001.size : Int) then (if (bt x142001 0) = 48 then (some ((x142001.size : Int) == (wrap64 (x142002 + 1)))) else (some true)) else (none))
end
def polyglotlaw02_Right.f (k : Nat) (a0_0 : Bool) (a0_1 : ByteArray) (a0_2 : Int) : Option (Bool) := if a0_2 < 0 then (polyglotlaw02_Right.j0 k true a0_0 a0_1 a0_2) else (if a0_2 ≥ (a0_1.size : Int) then (polyglotlaw02_Right.j0 k true a0_0 a0_1 a0_2) else (polyglotlaw02_Right.j0 k (decide ((a0_1.size : Int) > 60)) a0_0 a0_1 a0_2))
set_option maxHeartbeats 8000000 in
set_option maxRecDepth 100000 in
theorem polyglotlaw02_Right.calls (k : Nat) (a0_0 : Bool) (a0_1 : ByteArray) (a0_2 : Int) (r : Bool) (w : World) (h : polyglotlaw02_Right.f k a0_0 a0_1 a0_2 = some r) :
    Calls Tryd.prog 18 #[.agg #[.bool a0_0, .string a0_1, .int .i64 a0_2]] w fun e w' => e = .returned (.bool r) ∧ Below w.heap.size w w' := by
  have hu23 := Tryd.underlying23
  have HB := Aside0.mk (Below.refl w.heap.size w)
  have H : (if a0_2 < 0 then (polyglotlaw02_Right.j0 k true a0_0 a0_1 a0_2) else (if a0_2 ≥ (a0_1.size : Int) then (polyglotlaw02_Right.j0 k true a0_0 a0_1 a0_2) else (polyglotlaw02_Right.j0 k (decide ((a0_1.size : Int) > 60)) a0_0 a0_1 a0_2))) = some r := h
  clear h
  have HC2 := Aside0.mk H
  clear H
  go_enter Tryd.func18, Tryd.ntmps18
  go_upto_region 1 with (first | ((with_reducible refine gate_dst (N := 1) rfl ?_); (try (refine gate_guard (by rfl) ?_; dsimp only)); refine box_event ?hg (N := 1) ?hd (cs := #[.bool a0_0, .string a0_1, .int .i64 a0_2]) (t := 23) ?hr ?_; (case hd => rfl); (case hg => rfl); (case hr => first | (go_simp; done) | (go_simp; rfl)); intro gb141 hg w3 hbox hb; have n0_ := Aside0.mk (below_step (by repeat (first | (with_reducible first | exact HB.out | apply below_alloc | apply pw_below_drewN | apply below_drew1) | exact HB.out)) hb); have n1_ := Aside0.mk (hbox); have n2_ := Aside0.mk ((by rw [hg]; exact (below_size (by repeat (first | (with_reducible first | exact HB.out | apply below_alloc | apply pw_below_drewN | apply below_drew1) | exact HB.out))) : w.heap.size ≤ gb141)); have n3_ := Aside0.mk ((by rw [hg]; exact (below_size (by repeat (first | (with_reducible first | exact HB.out | apply below_alloc | apply pw_below_drewN | apply below_drew1) | exact HB.out))) : w.heap.size ≤ gb141)); clear HB; have HB := n0_; have BK141 := n1_; have GW141 := n2_; have GE141 := n3_; clear n0_ n1_ n2_ n3_; clear hb hbox hg))
  (try simp only [Act.put, List.setIfInBounds_toArray, List.set_cons_zero, List.set_cons_succ])
  go_cut [20] (fun v20 wc => ∃ (kq : Nat) (x20_1 : Bool), v20 = .bool x20_1 ∧ Aside0 (polyglotlaw02_Right.j0 kq x20_1 a0_0 a0_1 a0_2 = some r) ∧ Aside0 (kq ≤ k) ∧ Aside0 (wc.heap[gb141]? = some (.cells #[.bool a0_0, .string a0_1, .int .i64 a0_2] 23 (0, 0))) ∧ Aside0 (Below w.heap.size w wc))
  case first =>
    have H := HC2.out
    clear HC2
    by_cases c4 : a0_2 < 0
    · rw [if_pos c4] at H
      have c4b0 : decide (a0_2 < 0) = true := decide_eq_true c4
      clear c4
      (first | rw [c4b0] | (simp only [i64_w, i32_w]; rw [c4b0]) | skip)
      have H' := Aside0.mk H
      clear H
      have hcz5_0 : w3.cell? ⟨gb141, 0, none⟩ = some (.bool a0_0) := (blk_cell BK141.out 0).trans rfl
      have hcz5_1 : w3.cell? ⟨gb141, 1, none⟩ = some (.string a0_1) := (blk_cell BK141.out 1).trans rfl
      have hcz5_2 : w3.cell? ⟨gb141, 2, none⟩ = some (.int .i64 a0_2) := (blk_cell BK141.out 2).trans rfl
      have hfz5_0 := blk_frozen BK141.out 0
      have hfz5_1 := blk_frozen BK141.out 1
      have hfz5_2 := blk_frozen BK141.out 2
      go_wp2
      go_meet
      case rel => exact ⟨_, (true), (by first | rfl | (simp; done) | (simp [*]; done)), H', ⟨by first | omega | exact Nat.le_refl _⟩, ⟨by (with_reducible repeat (first | refine blk_drewN ?_ _ | refine blk_drew ?_ | refine blk_alloc ?_ _)); exact BK141.out⟩, ⟨by repeat (first | (with_reducible first | exact HB.out | apply below_alloc | apply pw_below_drewN | apply below_drew1 | refine below_set ?_ GE141.out) | exact HB.out)⟩⟩
    · rw [if_neg c4] at H
      have c4b0 : decide (a0_2 < 0) = false := decide_eq_false c4
      clear c4
      (first | rw [c4b0] | (simp only [i64_w, i32_w]; rw [c4b0]) | skip)
      by_cases c6 : a0_2 ≥ (a0_1.size : Int)
      · rw [if_pos c6] at H
        have c6b0 : decide ((a0_1.size : Int) ≤ a0_2) = true := decide_eq_true c6
        clear c6
        have H' := Aside0.mk H
        clear H
        have hcz7_0 : w3.cell? ⟨gb141, 0, none⟩ = some (.bool a0_0) := (blk_cell BK141.out 0).trans rfl
        have hcz7_1 : w3.cell? ⟨gb141, 1, none⟩ = some (.string a0_1) := (blk_cell BK141.out 1).trans rfl
        have hcz7_2 : w3.cell? ⟨gb141, 2, none⟩ = some (.int .i64 a0_2) := (blk_cell BK141.out 2).trans rfl
        have hfz7_0 := blk_frozen BK141.out 0
        have hfz7_1 := blk_frozen BK141.out 1
        have hfz7_2 := blk_frozen BK141.out 2
        go_wp2
        go_meet
        case rel => exact ⟨_, (true), (by first | rfl | (simp; done) | (simp [*]; done)), H', ⟨by first | omega | exact Nat.le_refl _⟩, ⟨by (with_reducible repeat (first | refine blk_drewN ?_ _ | refine blk_drew ?_ | refine blk_alloc ?_ _)); exact BK141.out⟩, ⟨by repeat (first | (with_reducible first | exact HB.out | apply below_alloc | apply pw_below_drewN | apply below_drew1 | refine below_set ?_ GE141.out) | exact HB.out)⟩⟩
      · rw [if_neg c6] at H
        have c6b0 : decide ((a0_1.size : Int) ≤ a0_2) = false := decide_eq_false c6
        clear c6
        have H' := Aside0.mk H
        clear H
        have hcz8_0 : w3.cell? ⟨gb141, 0, none⟩ = some (.bool a0_0) := (blk_cell BK141.out 0).trans rfl
        have hcz8_1 : w3.cell? ⟨gb141, 1, none⟩ = some (.string a0_1) := (blk_cell BK141.out 1).trans rfl
        have hcz8_2 : w3.cell? ⟨gb141, 2, none⟩ = some (.int .i64 a0_2) := (blk_cell BK141.out 2).trans rfl
        have hfz8_0 := blk_frozen BK141.out 0
        have hfz8_1 := blk_frozen BK141.out 1
        have hfz8_2 := blk_frozen BK141.out 2
        go_wp2
        go_meet
        case rel => exact ⟨_, (decide ((a0_1.size : Int) > 60)), (by first | rfl | (simp; done) | (simp [*]; done)), H', ⟨by first | omega | exact Nat.le_refl _⟩, ⟨by (with_reducible repeat (first | refine blk_drewN ?_ _ | refine blk_drew ?_ | refine blk_alloc ?_ _)); exact BK141.out⟩, ⟨by repeat (first | (with_reducible first | exact HB.out | apply below_alloc | apply pw_below_drewN | apply below_drew1 | refine below_set ?_ GE141.out) | exact HB.out)⟩⟩
  case rest =>
    clear HC2
    try clear c1
    try clear p2
    try clear c4
    try clear c4b0
    try clear c6
    try clear c6b0
    try clear hcz5_0
    try clear hcz5_1
    try clear hcz5_2
    try clear hcz7_0
    try clear hcz7_1
    try clear hcz7_2
    try clear hcz8_0
    try clear hcz8_1
    try clear hcz8_2
    try clear hfz5_0
    try clear hfz5_1
    try clear hfz5_2
    try clear hfz7_0
    try clear hfz7_1
    try clear hfz7_2
    try clear hfz8_0
    try clear hfz8_1
    try clear hfz8_2
    obtain ⟨kq, x20_1, rfl, HA, HJ1, BK141, HB⟩ := hcut
    cases kq with
    | zero => exact absurd HA.out (by simp [polyglotlaw02_Right.j0])
    | succ kj1 =>
      have H := HA.out
      clear HA
      simp only [polyglotlaw02_Right.j0] at H
      by_cases c9 : x20_1 = true
      · subst c9
        have H1 : (some false) = some r := by rw [if_pos rfl] at H; exact H
        clear H
        have H := H1
        clear H1
        obtain rfl := Option.some.inj H
        go_wp2
        go_ret
        exact ⟨by first | rfl | (simp [errW_none, errW_some] <;> rfl) | (simp [*, errW_none, errW_some] <;> rfl), by repeat (first | (with_reducible first | exact HB.out | apply below_alloc | apply pw_below_drewN | apply below_drew1 | refine below_set ?_ GE141.out) | exact HB.out)⟩
      · replace c9 := Bool.eq_false_iff.mpr c9
        subst c9
        have H1 : (polyglotlaw02_Right.l0 kj1 0 a0_0 a0_1 a0_2) = some r := by rw [if_neg (show ¬ (false = true) by decide)] at H; exact H
        clear H
        have H := H1
        clear H1
        have H' := Aside0.mk H
        clear H
        go_wp2
        go_loopg [3] kj1 (fun kq v3 w' => ∃ (x3_2 : Int), v3 = .int .i64 x3_2 ∧ Aside0 (polyglotlaw02_Right.l0 kq x3_2 a0_0 a0_1 a0_2 = some r) ∧ Aside0 (kq ≤ kj1) ∧ Aside0 (w'.heap[gb141]? = some (.cells #[.bool a0_0, .string a0_1, .int .i64 a0_2] 23 (0, 0))) ∧ Aside0 (Below w.heap.size w w'))
        case atStart => exact ⟨(0), (by first | rfl | (simp; done) | (simp [*]; done)), H', ⟨Nat.le_refl _⟩, ⟨by (with_reducible repeat (first | refine blk_drewN ?_ _ | refine blk_drew ?_ | refine blk_alloc ?_ _)); exact BK141.out⟩, ⟨by repeat (first | (with_reducible first | exact HB.out | apply below_alloc | apply pw_below_drewN | apply below_drew1 | refine below_set ?_ GE141.out) | exact HB.out)⟩⟩
        case round =>
          clear H'
          try clear c1
          try clear p2
          try clear c4
          try clear c4b0
          try clear c6
          try clear c6b0
          try clear c9
          try clear hcz5_0
          try clear hcz5_1
          try clear hcz5_2
          try clear hcz7_0
          try clear hcz7_1
          try clear hcz7_2
          try clear hcz8_0
          try clear hcz8_1
          try clear hcz8_2
          try clear hfz5_0
          try clear hfz5_1
          try clear hfz5_2
          try clear hfz7_0
          try clear hfz7_1
          try clear hfz7_2
          try clear hfz8_0
          try clear hfz8_1
          try clear hfz8_2
          try clear p2
          obtain ⟨x3_2, rfl, HA, HK2, BK141, HB⟩ := hrel
          cases gk with
          | zero => exact absurd HA.out (by simp [polyglotlaw02_Right.l0])
          | succ k2 =>
            have H := HA.out
            clear HA
            simp only [polyglotlaw02_Right.l0] at H
            by_cases c10 : x3_2 < (a0_1.size : Int)
            · rw [if_pos c10] at H
              have c10b0 : decide (x3_2 < (a0_1.size : Int)) = true := decide_eq_true c10
              clear c10
              by_cases c11 : 0 ≤ x3_2
              · rw [if_pos c11] at H
                have c11b0 : decide (0 ≤ x3_2) = true := decide_eq_true c11
                clear c11
                replace H := Option.bind_eq_some_iff.mp H
                obtain ⟨t142, A130, H⟩ := H
                replace H : (if t142 = true then (polyglotlaw02_Right.l0 k2 (wrap64 (x3_2 + 1)) a0_0 a0_1 a0_2) else (some false)) = some r := H
                have A13 := Aside0.mk A130
                clear A130
                by_cases c14 : t142 = true
                · subst c14
                  have H1 : (polyglotlaw02_Right.l0 k2 (wrap64 (x3_2 + 1)) a0_0 a0_1 a0_2) = some r := by rw [if_pos rfl] at H; exact H
                  clear H
                  have H := H1
                  clear H1
                  have H' := Aside0.mk H
                  clear H
                  have hcz15_0 : wr.cell? ⟨gb141, 0, none⟩ = some (.bool a0_0) := (blk_cell BK141.out 0).trans rfl
                  have hcz15_1 : wr.cell? ⟨gb141, 1, none⟩ = some (.string a0_1) := (blk_cell BK141.out 1).trans rfl
                  have hcz15_2 : wr.cell? ⟨gb141, 2, none⟩ = some (.int .i64 a0_2) := (blk_cell BK141.out 2).trans rfl
                  have hfz15_0 := blk_frozen BK141.out 0
                  have hfz15_1 := blk_frozen BK141.out 1
                  have hfz15_2 := blk_frozen BK141.out 2
                  have p12 : 0 ≤ (x3_2 : Int) := of_decide_eq_true (by first | (with_reducible assumption) | assumption)
                  have q12 : x3_2 < (a0_1.size : Int) := of_decide_eq_true (by first | (with_reducible assumption) | assumption)
                  have hx12 := bt_at a0_1 x3_2
                  replace p12 := eq_true p12
                  replace q12 := eq_true q12
                  go_wp2_with (first | ((with_reducible refine gate_callee (f := 35) rfl ?_); refine goesL_ (some 32) rfl rfl Tryd.func35 (by kernel_rfl) rfl #[.int .u8 (bt a0_1 x3_2)] rfl (by (try simp only [List.map_toArray, List.map_cons, List.map_nil]); first | done | rfl | (simp only [List.length_drop, List.length_take]; rfl)) ?_; (with_reducible refine (polyglotlaw02_digit.calls (bt a0_1 x3_2) true _ A13.out).mono ?_); rintro e w' ⟨rfl, ⟨nd, rfl⟩⟩; refine ⟨_, rfl, ?_⟩))
                  go_roundg k2
                  case measure => have := HJ1.out; have := HK2.out; omega
                  case rel => exact ⟨(wrap64 (x3_2 + 1)), (by first | rfl | (simp; done) | (simp [*]; done)), H', ⟨by have := HJ1.out; have := HK2.out; omega⟩, ⟨by (with_reducible repeat (first | refine blk_drewN ?_ _ | refine blk_drew ?_ | refine blk_alloc ?_ _)); exact BK141.out⟩, ⟨by repeat (first | (with_reducible first | exact HB.out | apply below_alloc | apply pw_below_drewN | apply below_drew1 | refine below_set ?_ GE141.out) | exact HB.out)⟩⟩
                · replace c14 := Bool.eq_false_iff.mpr c14
                  subst c14
                  have H1 : (some false) = some r := by rw [if_neg (show ¬ (false = true) by decide)] at H; exact H
                  clear H
                  have H := H1
                  clear H1
                  obtain rfl := Option.some.inj H
                  have hcz16_0 : wr.cell? ⟨gb141, 0, none⟩ = some (.bool a0_0) := (blk_cell BK141.out 0).trans rfl
                  have hcz16_1 : wr.cell? ⟨gb141, 1, none⟩ = some (.string a0_1) := (blk_cell BK141.out 1).trans rfl
                  have hcz16_2 : wr.cell? ⟨gb141, 2, none⟩ = some (.int .i64 a0_2) := (blk_cell BK141.out 2).trans rfl
                  have hfz16_0 := blk_frozen BK141.out 0
                  have hfz16_1 := blk_frozen BK141.out 1
                  have hfz16_2 := blk_frozen BK141.out 2
                  have p12 : 0 ≤ (x3_2 : Int) := of_decide_eq_true (by first | (with_reducible assumption) | assumption)
                  have q12 : x3_2 < (a0_1.size : Int) := of_decide_eq_true (by first | (with_reducible assumption) | assumption)
                  have hx12 := bt_at a0_1 x3_2
                  replace p12 := eq_true p12
                  replace q12 := eq_true q12
                  go_wp2_with (first | ((with_reducible refine gate_callee (f := 35) rfl ?_); refine goesL_ (some 32) rfl rfl Tryd.func35 (by kernel_rfl) rfl #[.int .u8 (bt a0_1 x3_2)] rfl (by (try simp only [List.map_toArray, List.map_cons, List.map_nil]); first | done | rfl | (simp only [List.length_drop, List.length_take]; rfl)) ?_; (with_reducible refine (polyglotlaw02_digit.calls (bt a0_1 x3_2) false _ A13.out).mono ?_); rintro e w' ⟨rfl, ⟨nd, rfl⟩⟩; refine ⟨_, rfl, ?_⟩))
                  go_ret
                  exact ⟨by first | rfl | (simp [errW_none, errW_some] <;> rfl) | (simp [*, errW_none, errW_some] <;> rfl), by repeat (first | (with_reducible first | exact HB.out | apply below_alloc | apply pw_below_drewN | apply below_drew1 | refine below_set ?_ GE141.out) | exact HB.out)⟩
              · rw [if_neg c11] at H
                exact absurd H (by simp)
            · rw [if_neg c10] at H
              have c10b0 : decide (x3_2 < (a0_1.size : Int)) = false := decide_eq_false c10
              clear c10
              by_cases c17 : 0 < (a0_1.size : Int)
              · rw [if_pos c17] at H
                have c17b0 : decide (0 < (a0_1.size : Int)) = true := decide_eq_true c17
                have c17b1 : decide (0 < a0_1.size) = true := decide_eq_true (by omega)
                clear c17
                by_cases c19 : (bt a0_1 0) = 48
                · rw [if_pos c19] at H
                  have c19b0 : ((bt a0_1 0) == 48) = true := beq_iff_eq.mpr c19
                  have c19b1 : ((bt a0_1 0) != 48) = false := bne_eq_false_iff_eq.mpr c19
                  clear c19
                  obtain rfl := Option.some.inj H
                  have hcz20_0 : wr.cell? ⟨gb141, 0, none⟩ = some (.bool a0_0) := (blk_cell BK141.out 0).trans rfl
                  have hcz20_1 : wr.cell? ⟨gb141, 1, none⟩ = some (.string a0_1) := (blk_cell BK141.out 1).trans rfl
                  have hcz20_2 : wr.cell? ⟨gb141, 2, none⟩ = some (.int .i64 a0_2) := (blk_cell BK141.out 2).trans rfl
                  have hfz20_0 := blk_frozen BK141.out 0
                  have hfz20_1 := blk_frozen BK141.out 1
                  have hfz20_2 := blk_frozen BK141.out 2
                  have p18 : 0 ≤ (0 : Int) := (by omega)
                  have q18 : 0 < a0_1.size := (by have : (0 : Int) < (a0_1.size : Int) := of_decide_eq_true (by first | (with_reducible assumption) | assumption); omega)
                  have hx18 : ∀ h : 0 < a0_1.size, ((a0_1[0]'h).toNat : Int) = bt a0_1 0 := bt_at a0_1 0
                  clear p18
                  have qi18 : (0 < (a0_1.size : Int)) = True := eq_true (of_decide_eq_true (by first | (with_reducible assumption) | assumption))
                  replace q18 := eq_true q18
                  go_wp2
                  go_ret
                  exact ⟨by first | rfl | (simp [errW_none, errW_some] <;> rfl) | (simp [*, errW_none, errW_some] <;> rfl), by repeat (first | (with_reducible first | exact HB.out | apply below_alloc | apply pw_below_drewN | apply below_drew1 | refine below_set ?_ GE141.out) | exact HB.out)⟩
                · rw [if_neg c19] at H
                  have c19b0 : ((bt a0_1 0) == 48) = false := beq_eq_false_iff_ne.mpr c19
                  have c19b1 : ((bt a0_1 0) != 48) = true := bne_iff_ne.mpr c19
                  obtain rfl := Option.some.inj H
                  have hcz21_0 : wr.cell? ⟨gb141, 0, none⟩ = some (.bool a0_0) := (blk_cell BK141.out 0).trans rfl
                  have hcz21_1 : wr.cell? ⟨gb141, 1, none⟩ = some (.string a0_1) := (blk_cell BK141.out 1).trans rfl
                  have hcz21_2 : wr.cell? ⟨gb141, 2, none⟩ = some (.int .i64 a0_2) := (blk_cell BK141.out 2).trans rfl
                  have hfz21_0 := blk_frozen BK141.out 0
                  have hfz21_1 := blk_frozen BK141.out 1
                  have hfz21_2 := blk_frozen BK141.out 2
                  have p18 : 0 ≤ (0 : Int) := (by omega)
                  have q18 : 0 < a0_1.size := (by have : (0 : Int) < (a0_1.size : Int) := of_decide_eq_true (by first | (with_reducible assumption) | assumption); omega)
                  have hx18 : ∀ h : 0 < a0_1.size, ((a0_1[0]'h).toNat : Int) = bt a0_1 0 := bt_at a0_1 0
                  clear p18
                  have qi18 : (0 < (a0_1.size : Int)) = True := eq_true (of_decide_eq_true (by first | (with_reducible assumption) | assumption))
                  replace q18 := eq_true q18
                  go_wp2
                  go_ret
                  exact ⟨by first | rfl | (simp [errW_none, errW_some] <;> rfl) | (simp [*, errW_none, errW_some] <;> rfl), by repeat (first | (with_reducible first | exact HB.out | apply below_alloc | apply pw_below_drewN | apply below_drew1 | refine below_set ?_ GE141.out) | exact HB.out)⟩
              · rw [if_neg c17] at H
                exact absurd H (by simp)
def dec_Dec_Zero.f (a0_0 : Bool) (a0_1 : ByteArray) (a0_2 : Int) : Option (Bool) := (strings_Trim.f a0_1 (⟨#[48]⟩ : ByteArray)).bind fun t144 => (some (t144.toList == ([] : List UInt8)))
set_option maxHeartbeats 8000000 in
set_option maxRecDepth 100000 in
theorem dec_Dec_Zero.calls (a0_0 : Bool) (a0_1 : ByteArray) (a0_2 : Int) (r : Bool) (w : World) (h : dec_Dec_Zero.f a0_0 a0_1 a0_2 = some r) :
    Calls Tryd.prog 32 #[.agg #[.bool a0_0, .string a0_1, .int .i64 a0_2]] w fun e w' => e = .returned (.bool r) ∧ Below w.heap.size w w' := by
  have hu23 := Tryd.underlying23
  have HB := Aside0.mk (Below.refl w.heap.size w)
  have H : ((strings_Trim.f a0_1 (⟨#[48]⟩ : ByteArray)).bind fun t144 => (some (t144.toList == ([] : List UInt8)))) = some r := h
  clear h
  replace H := Option.bind_eq_some_iff.mp H
  obtain ⟨t144, A20, H⟩ := H
  replace H : (some (t144.toList == ([] : List UInt8))) = some r := H
  have A2 := Aside0.mk A20
  clear A20
  obtain rfl := Option.some.inj H
  go_enter Tryd.func32, Tryd.ntmps32
  go_wp2_with (first | ((with_reducible refine gate_dst (N := 1) rfl ?_); refine box_event ?hg (N := 1) ?hd (cs := #[.bool a0_0, .string a0_1, .int .i64 a0_2]) (t := 23) ?hr ?_; (case hd => rfl); (case hg => rfl); (case hr => first | (go_simp; done) | (go_simp; rfl)); intro gb143 hg w3 hbox hb; have n0_ := Aside0.mk (below_step (by repeat (first | (with_reducible first | exact HB.out | apply below_alloc | apply pw_below_drewN | apply below_drew1) | exact HB.out)) hb); have n1_ := Aside0.mk (hbox); have n2_ := Aside0.mk ((by rw [hg]; exact (below_size (by repeat (first | (with_reducible first | exact HB.out | apply below_alloc | apply pw_below_drewN | apply below_drew1) | exact HB.out))) : w.heap.size ≤ gb143)); have n3_ := Aside0.mk ((by rw [hg]; exact (below_size (by repeat (first | (with_reducible first | exact HB.out | apply below_alloc | apply pw_below_drewN | apply below_drew1) | exact HB.out))) : w.heap.size ≤ gb143)); clear HB; have HB := n0_; have BK143 := n1_; have GW143 := n2_; have GE143 := n3_; clear n0_ n1_ n2_ n3_; clear hb hbox hg; have hcz4_0 : w3.cell? ⟨gb143, 0, none⟩ = some (.bool a0_0) := (blk_cell BK143.out 0).trans rfl; have hcz4_1 : w3.cell? ⟨gb143, 1, none⟩ = some (.string a0_1) := (blk_cell BK143.out 1).trans rfl; have hcz4_2 : w3.cell? ⟨gb143, 2, none⟩ = some (.int .i64 a0_2) := (blk_cell BK143.out 2).trans rfl; have hfz4_0 := blk_frozen BK143.out 0; have hfz4_1 := blk_frozen BK143.out 1; have hfz4_2 := blk_frozen BK143.out 2) | ((with_reducible refine gate_callee (f := 65) rfl ?_); refine goesL_ (some 5) rfl rfl Tryd.func65 (by kernel_rfl) rfl #[.string a0_1, .string (⟨#[48]⟩ : ByteArray)] rfl (by (try simp only [List.map_toArray, List.map_cons, List.map_nil]); first | done | rfl | (simp only [List.length_drop, List.length_take]; rfl)) ?_; (with_reducible refine (strings_Trim.calls a0_1 (⟨#[48]⟩ : ByteArray) t144 _ A2.out).mono ?_); rintro e w5 ⟨rfl, hb⟩; refine ⟨_, rfl, ?_⟩; have n0_ := Aside0.mk (blk_below (g := gb143) (o := .cells #[.bool a0_0, .string a0_1, .int .i64 a0_2] 23 (0, 0)) (by (with_reducible repeat (first | refine blk_drewN ?_ _ | refine blk_drew ?_ | refine blk_alloc ?_ _)); exact BK143.out) hb); have n1_ := Aside0.mk (below_step (by repeat (first | (with_reducible first | exact HB.out | apply below_alloc | apply pw_below_drewN | apply below_drew1 | refine below_set ?_ GE143.out) | exact HB.out)) hb); clear BK143; clear HB; have BK143 := n0_; have HB := n1_; clear n0_ n1_; (try clear hb); (try clear hb2); (try clear hk); (try clear hi)))
  go_ret
  exact ⟨by first | rfl | (simp [errW_none, errW_some] <;> rfl) | (simp [*, errW_none, errW_some] <;> rfl), by repeat (first | (with_reducible first | exact HB.out | apply below_alloc | apply pw_below_drewN | apply below_drew1 | refine below_set ?_ GE143.out) | exact HB.out)⟩
def cmp_Or_int.l0 : Nat → Int → List Int → Int → Int → Option (Int)
  | 0, _, _, _, _ => none
  | k + 1, x3, x6, x7, x8 => if x8 < x7 then (if 0 ≤ x8 then (if x8 < (x6.length : Int) then (if (rd x6 x8) = x3 then (cmp_Or_int.l0 k x3 x6 x7 (wrap64 (x8 + 1))) else (some (rd x6 x8))) else (none)) else (none)) else (some x3)
def cmp_Or_int.f (k : Nat) (l0 : List Int) : Option (Int) := cmp_Or_int.l0 k 0 l0 (l0.length : Int) 0
set_option maxHeartbeats 8000000 in
set_option maxRecDepth 100000 in
theorem cmp_Or_int.calls (k : Nat) (A0 : Option Addr) (c0 : Nat) (l0 : List Int) (r : Int) (w : World) (hr0 : Kd.C (Kd.int .i64) w A0 l0.length l0) (hc0 : l0.length ≤ c0) (h : cmp_Or_int.f k l0 = some r) :
    Calls Tryd.prog 111 #[.slice A0 l0.length c0] w fun e w' => e = .returned (.int .i64 r) ∧ Drawn0 w w' := by
  have HR0 := Aside0.mk hr0
  have HC0 := Aside0.mk hc0
  clear hr0 hc0
  have H : (cmp_Or_int.l0 k 0 l0 (l0.length : Int) 0) = some r := h
  clear h
  have H' := Aside0.mk H
  clear H
  go_enter Tryd.func111, Tryd.ntmps111
  go_wp2
  go_loopg [8] k (fun kq v8 w' => ∃ (x8_1 : Int), v8 = .int .i64 x8_1 ∧ Aside0 (cmp_Or_int.l0 kq 0 l0 (l0.length : Int) x8_1 = some r) ∧ Aside0 (kq ≤ k) ∧ Drawn0 w w')
  case atStart => exact ⟨(0), (by first | rfl | (simp; done) | (simp [*]; done)), H', ⟨Nat.le_refl _⟩, by repeat (first | exact Drawn0.refl _ | apply Drawn0.step)⟩
  case round =>
    clear H'
    try clear c1
    obtain ⟨x8_1, rfl, HA, HK1, ⟨m1, rfl⟩⟩ := hrel
    cases gk with
    | zero => exact absurd HA.out (by simp [cmp_Or_int.l0])
    | succ k1 =>
      have H := HA.out
      clear HA
      simp only [cmp_Or_int.l0] at H
      by_cases c2 : x8_1 < (l0.length : Int)
      · rw [if_pos c2] at H
        have c2b0 : decide (x8_1 < (l0.length : Int)) = true := decide_eq_true c2
        clear c2
        by_cases c3 : 0 ≤ x8_1
        · rw [if_pos c3] at H
          have c3b0 : decide (0 ≤ x8_1) = true := decide_eq_true c3
          clear c3
          by_cases c4 : x8_1 < (l0.length : Int)
          · rw [if_pos c4] at H
            have c4b0 : decide (x8_1 < (l0.length : Int)) = true := decide_eq_true c4
            clear c4
            by_cases c5 : (rd l0 x8_1) = 0
            · rw [if_pos c5] at H
              have c5b0 : ((rd l0 x8_1) == 0) = true := beq_iff_eq.mpr c5
              have c5b1 : ((rd l0 x8_1) != 0) = false := bne_eq_false_iff_eq.mpr c5
              clear c5
              have H' := Aside0.mk H
              clear H
              have p145 : 0 ≤ (x8_1 : Int) := of_decide_eq_true (by first | (with_reducible assumption) | assumption)
              have q145 : x8_1 < (l0.length : Int) := of_decide_eq_true (by first | (with_reducible assumption) | assumption)
              obtain ⟨ad145, e145, hx145_0⟩ := Kd.at_int HR0.out x8_1 p145 q145
              cases e145
              replace p145 := eq_true p145
              replace q145 := eq_true q145
              go_wp2
              go_roundg k1
              case measure => have := HK1.out; omega
              case rel => exact ⟨(wrap64 (x8_1 + 1)), (by first | rfl | (simp; done) | (simp [*]; done)), H', ⟨by have := HK1.out; omega⟩, by repeat (first | exact Drawn0.refl _ | apply Drawn0.step)⟩
            · rw [if_neg c5] at H
              have c5b0 : ((rd l0 x8_1) == 0) = false := beq_eq_false_iff_ne.mpr c5
              have c5b1 : ((rd l0 x8_1) != 0) = true := bne_iff_ne.mpr c5
              obtain rfl := Option.some.inj H
              have p145 : 0 ≤ (x8_1 : Int) := of_decide_eq_true (by first | (with_reducible assumption) | assumption)
              have q145 : x8_1 < (l0.length : Int) := of_decide_eq_true (by first | (with_reducible assumption) | assumption)
              obtain ⟨ad145, e145, hx145_0⟩ := Kd.at_int HR0.out x8_1 p145 q145
              cases e145
              replace p145 := eq_true p145
              replace q145 := eq_true q145
              go_wp2
              go_ret
              exact ⟨by first | rfl | (simp; done) | (simp [*]; done), by repeat (first | exact Drawn0.refl _ | apply Drawn0.step)⟩
          · rw [if_neg c4] at H
            exact absurd H (by simp)
        · rw [if_neg c3] at H
          exact absurd H (by simp)
      · rw [if_neg c2] at H
        have c2b0 : decide (x8_1 < (l0.length : Int)) = false := decide_eq_false c2
        clear c2
        obtain rfl := Option.some.inj H
        go_wp2
        go_ret
        exact ⟨by first | rfl | (simp; done) | (simp [*]; done), by repeat (first | exact Drawn0.refl _ | apply Drawn0.step)⟩
def dec_Dec_size.f (k : Nat) (a0_0 : Bool) (a0_1 : ByteArray) (a0_2 : Int) (a1_0 : Bool) (a1_1 : ByteArray) (a1_2 : Int) : Option (Int) := (strings_Repeat.f (⟨#[48]⟩ : ByteArray) (wrap64 ((mx a0_2 a1_2) - a0_2))).bind fun t148 => (if a0_1.size + t148.size ≤ 9223372036854775807 then ((strings_Repeat.f (⟨#[48]⟩ : ByteArray) (wrap64 ((mx a0_2 a1_2) - a1_2))).bind fun t149 => (if a1_1.size + t149.size ≤ 9223372036854775807 then ((strings_TrimLeft.f (a0_1 ++ t148) (⟨#[48]⟩ : ByteArray)).bind fun t150 => ((strings_TrimLeft.f (a1_1 ++ t149) (⟨#[48]⟩ : ByteArray)).bind fun t151 => ((cmp_Compare_int.f (t150.size : Int) (t151.size : Int)).bind fun t152 => ((cmp_Compare_string.f t150 t151).bind fun t153 => ((cmp_Or_int.f k (([t152, t153] : List Int))).bind fun t157 => (some t157)))))) else (none))) else (none))
def dec_Dec_size.T2 : Bool × List (List Nat × List Nat) := (true, [([], []), ([0], [0]), ([], []), ([], []), ([3], [3]), ([2, 4], [2, 4]), ([5], [5]), ([1, 6], [1, 6]), ([], []), ([8], [8]), ([], []), ([], []), ([11], [11]), ([10, 12], [10, 12]), ([13, 6], [13]), ([9, 14], [9, 14]), ([7, 14, 0, 1, 2, 3, 4, 5, 6, 7], [7]), ([15, 16, 0, 1, 2, 3, 4, 5, 6, 7, 8, 9, 10, 11, 12, 13, 14, 15, 16], [15])])
def dec_Dec_size.B2 : List Nat := [0, 1, 0, 0, 8, 28, 60, 127, 0, 256, 0, 0, 2048, 7168, 15484, 32636, 31999, 131071]
theorem dec_Dec_size.tab2 : rtab .any (opsOf Tryd.f76 2) = dec_Dec_size.T2 := by kernel_rfl
theorem dec_Dec_size.bits2 : waitsOk dec_Dec_size.T2.2 dec_Dec_size.B2 = true := by kernel_rfl
set_option maxHeartbeats 8000000 in
set_option maxRecDepth 100000 in
theorem dec_Dec_size.calls (k : Nat) (a0_0 : Bool) (a0_1 : ByteArray) (a0_2 : Int) (a1_0 : Bool) (a1_1 : ByteArray) (a1_2 : Int) (r : Int) (w : World) (h : dec_Dec_size.f k a0_0 a0_1 a0_2 a1_0 a1_1 a1_2 = some r) :
    Calls Tryd.prog 76 #[.agg #[.bool a0_0, .string a0_1, .int .i64 a0_2], .agg #[.bool a1_0, .string a1_1, .int .i64 a1_2]] w fun e w' => e = .returned (.int .i64 r) ∧ Below w.heap.size w w' := by
  have hu23 := Tryd.underlying23
  have HB := Aside0.mk (Below.refl w.heap.size w)
  have H : ((strings_Repeat.f (⟨#[48]⟩ : ByteArray) (wrap64 ((mx a0_2 a1_2) - a0_2))).bind fun t148 => (if a0_1.size + t148.size ≤ 9223372036854775807 then ((strings_Repeat.f (⟨#[48]⟩ : ByteArray) (wrap64 ((mx a0_2 a1_2) - a1_2))).bind fun t149 => (if a1_1.size + t149.size ≤ 9223372036854775807 then ((strings_TrimLeft.f (a0_1 ++ t148) (⟨#[48]⟩ : ByteArray)).bind fun t150 => ((strings_TrimLeft.f (a1_1 ++ t149) (⟨#[48]⟩ : ByteArray)).bind fun t151 => ((cmp_Compare_int.f (t150.size : Int) (t151.size : Int)).bind fun t152 => ((cmp_Compare_string.f t150 t151).bind fun t153 => ((cmp_Or_int.f k (([t152, t153] : List Int))).bind fun t157 => (some t157)))))) else (none))) else (none))) = some r := h
  clear h
  obtain ⟨ji3, hji3⟩ : ∃ j_ : Int, (mx a0_2 a1_2) = j_ := ⟨_, rfl⟩
  replace H : ((strings_Repeat.f (⟨#[48]⟩ : ByteArray) (wrap64 ((ji3) - a0_2))).bind fun t148 => (if a0_1.size + t148.size ≤ 9223372036854775807 then ((strings_Repeat.f (⟨#[48]⟩ : ByteArray) (wrap64 ((ji3) - a1_2))).bind fun t149 => (if a1_1.size + t149.size ≤ 9223372036854775807 then ((strings_TrimLeft.f (a0_1 ++ t148) (⟨#[48]⟩ : ByteArray)).bind fun t150 => ((strings_TrimLeft.f (a1_1 ++ t149) (⟨#[48]⟩ : ByteArray)).bind fun t151 => ((cmp_Compare_int.f (t150.size : Int) (t151.size : Int)).bind fun t152 => ((cmp_Compare_string.f t150 t151).bind fun t153 => ((cmp_Or_int.f k (([t152, t153] : List Int))).bind fun t157 => (some t157)))))) else (none))) else (none))) = some r := by first | (rw [hji3] at H; exact H) | (simp only [hji3] at H ⊢; exact H)
  have hji3_ : (if a0_2 < a1_2 then a1_2 else a0_2) = ji3 := hji3
  replace H := Option.bind_eq_some_iff.mp H
  obtain ⟨t148, A40, H⟩ := H
  replace H : (if a0_1.size + t148.size ≤ 9223372036854775807 then ((strings_Repeat.f (⟨#[48]⟩ : ByteArray) (wrap64 ((ji3) - a1_2))).bind fun t149 => (if a1_1.size + t149.size ≤ 9223372036854775807 then ((strings_TrimLeft.f (a0_1 ++ t148) (⟨#[48]⟩ : ByteArray)).bind fun t150 => ((strings_TrimLeft.f (a1_1 ++ t149) (⟨#[48]⟩ : ByteArray)).bind fun t151 => ((cmp_Compare_int.f (t150.size : Int) (t151.size : Int)).bind fun t152 => ((cmp_Compare_string.f t150 t151).bind fun t153 => ((cmp_Or_int.f k (([t152, t153] : List Int))).bind fun t157 => (some t157)))))) else (none))) else (none)) = some r := H
  have A4 := Aside0.mk A40
  clear A40
  by_cases c5 : a0_1.size + t148.size ≤ 9223372036854775807
  · rw [if_pos c5] at H
    try simp only [show wrap64 ((a0_1.size : Int) + (t148.size : Int)) = (a0_1.size : Int) + (t148.size : Int) from by unfold wrap64; omega] at *
    have c5b0 := eq_true c5
    have c5b1 : decide (a0_1.size + t148.size ≤ 9223372036854775807) = true := decide_eq_true c5
    try have c5b2 : (9223372036854775807 < a0_1.size + t148.size) = False := eq_false (Nat.not_lt.2 c5)
    replace H := Option.bind_eq_some_iff.mp H
    obtain ⟨t149, A60, H⟩ := H
    replace H : (if a1_1.size + t149.size ≤ 9223372036854775807 then ((strings_TrimLeft.f (a0_1 ++ t148) (⟨#[48]⟩ : ByteArray)).bind fun t150 => ((strings_TrimLeft.f (a1_1 ++ t149) (⟨#[48]⟩ : ByteArray)).bind fun t151 => ((cmp_Compare_int.f (t150.size : Int) (t151.size : Int)).bind fun t152 => ((cmp_Compare_string.f t150 t151).bind fun t153 => ((cmp_Or_int.f k (([t152, t153] : List Int))).bind fun t157 => (some t157)))))) else (none)) = some r := H
    have A6 := Aside0.mk A60
    clear A60
    by_cases c7 : a1_1.size + t149.size ≤ 9223372036854775807
    · rw [if_pos c7] at H
      try simp only [show wrap64 ((a1_1.size : Int) + (t149.size : Int)) = (a1_1.size : Int) + (t149.size : Int) from by unfold wrap64; omega] at *
      have c7b0 := eq_true c7
      have c7b1 : decide (a1_1.size + t149.size ≤ 9223372036854775807) = true := decide_eq_true c7
      try have c7b2 : (9223372036854775807 < a1_1.size + t149.size) = False := eq_false (Nat.not_lt.2 c7)
      replace H := Option.bind_eq_some_iff.mp H
      obtain ⟨t150, A80, H⟩ := H
      replace H : ((strings_TrimLeft.f (a1_1 ++ t149) (⟨#[48]⟩ : ByteArray)).bind fun t151 => ((cmp_Compare_int.f (t150.size : Int) (t151.size : Int)).bind fun t152 => ((cmp_Compare_string.f t150 t151).bind fun t153 => ((cmp_Or_int.f k (([t152, t153] : List Int))).bind fun t157 => (some t157))))) = some r := H
      have A8 := Aside0.mk A80
      clear A80
      replace H := Option.bind_eq_some_iff.mp H
      obtain ⟨t151, A90, H⟩ := H
      replace H : ((cmp_Compare_int.f (t150.size : Int) (t151.size : Int)).bind fun t152 => ((cmp_Compare_string.f t150 t151).bind fun t153 => ((cmp_Or_int.f k (([t152, t153] : List Int))).bind fun t157 => (some t157)))) = some r := H
      have A9 := Aside0.mk A90
      clear A90
      replace H := Option.bind_eq_some_iff.mp H
      obtain ⟨t152, A100, H⟩ := H
      replace H : ((cmp_Compare_string.f t150 t151).bind fun t153 => ((cmp_Or_int.f k (([t152, t153] : List Int))).bind fun t157 => (some t157))) = some r := H
      have A10 := Aside0.mk A100
      clear A100
      replace H := Option.bind_eq_some_iff.mp H
      obtain ⟨t153, A110, H⟩ := H
      replace H : ((cmp_Or_int.f k (([t152, t153] : List Int))).bind fun t157 => (some t157)) = some r := H
      have A11 := Aside0.mk A110
      clear A110
      obtain ⟨y154, hy154⟩ : ∃ y_ : List Int, y_ = (([t152, t153] : List Int)) := ⟨_, rfl⟩
      replace H : ((cmp_Or_int.f k y154).bind fun t157 => (some t157)) = some r := by first | (rw [hy154]; with_reducible exact H) | (have H2_ := (Option.bind_some _ _).symm.trans H; rw [hy154]; with_reducible exact H2_) | (have H2_ := (Option.bind_some _ _).symm.trans H; with_reducible exact H2_) | with_reducible exact H | (rw [hy154]; exact H) | exact H
      have Ny154 := Aside0.mk hy154
      clear hy154
      replace H := Option.bind_eq_some_iff.mp H
      obtain ⟨t157, A120, H⟩ := H
      replace H : (some t157) = some r := H
      have A12 := Aside0.mk A120
      clear A120
      obtain rfl := Option.some.inj H
      go_enter Tryd.func76, Tryd.ntmps76
      try go_wp2_with (first | ((with_reducible refine gate_dst (N := 2) rfl ?_); refine box_event ?hg (N := 2) ?hd (cs := #[.bool a0_0, .string a0_1, .int .i64 a0_2]) (t := 23) ?hr ?_; (case hd => rfl); (case hg => rfl); (case hr => first | (go_simp; done) | (go_simp; rfl)); intro gb146 hg w13 hbox hb; have n0_ := Aside0.mk (below_step (by repeat (first | (with_reducible first | exact HB.out | apply below_alloc | apply pw_below_drewN | apply below_drew1) | exact HB.out)) hb); have n1_ := Aside0.mk (hbox); have n2_ := Aside0.mk ((by rw [hg]; exact (below_size (by repeat (first | (with_reducible first | exact HB.out | apply below_alloc | apply pw_below_drewN | apply below_drew1) | exact HB.out))) : w.heap.size ≤ gb146)); have n3_ := Aside0.mk ((by rw [hg]; exact (below_size (by repeat (first | (with_reducible first | exact HB.out | apply below_alloc | apply pw_below_drewN | apply below_drew1) | exact HB.out))) : w.heap.size ≤ gb146)); clear HB; have HB := n0_; have BK146 := n1_; have GW146 := n2_; have GE146 := n3_; clear n0_ n1_ n2_ n3_; clear hb hbox hg) | ((with_reducible refine gate_dst (N := 3) rfl ?_); refine box_event ?hg (N := 3) ?hd (cs := #[.bool a1_0, .string a1_1, .int .i64 a1_2]) (t := 23) ?hr ?_; (case hd => rfl); (case hg => rfl); (case hr => first | (go_simp; done) | (go_simp; rfl)); intro gb147 hg w14 hbox hb; have n0_ := Aside0.mk (blk_below (g := gb146) (o := .cells #[.bool a0_0, .string a0_1, .int .i64 a0_2] 23 (0, 0)) (by (with_reducible repeat (first | refine blk_drewN ?_ _ | refine blk_drew ?_ | refine blk_alloc ?_ _)); exact BK146.out) hb); have n1_ := Aside0.mk (below_step (by repeat (first | (with_reducible first | exact HB.out | apply below_alloc | apply pw_below_drewN | apply below_drew1 | refine below_set ?_ GE146.out) | exact HB.out)) hb); have n2_ := Aside0.mk (hbox); have n3_ := Aside0.mk ((by rw [hg]; exact (below_size (by repeat (first | (with_reducible first | exact HB.out | apply below_alloc | apply pw_below_drewN | apply below_drew1 | refine below_set ?_ GE146.out) | exact HB.out))) : w.heap.size ≤ gb147)); have n4_ := Aside0.mk ((by rw [hg]; exact (below_size (by repeat (first | (with_reducible first | exact HB.out | apply below_alloc | apply pw_below_drewN | apply below_drew1 | refine below_set ?_ GE146.out) | exact HB.out))) : w.heap.size ≤ gb147)); have n5_ := Aside0.mk ((by rw [hg]; exact Nat.ne_of_lt (blk_lt (g := gb146) (o := .cells #[.bool a0_0, .string a0_1, .int .i64 a0_2] 23 (0, 0)) (by (with_reducible repeat (first | refine blk_drewN ?_ _ | refine blk_drew ?_ | refine blk_alloc ?_ _)); exact BK146.out)) : gb146 ≠ gb147)); have n6_ := Aside0.mk ((by rw [hg]; exact Nat.ne_of_gt (blk_lt (g := gb146) (o := .cells #[.bool a0_0, .string a0_1, .int .i64 a0_2] 23 (0, 0)) (by (with_reducible repeat (first | refine blk_drewN ?_ _ | refine blk_drew ?_ | refine blk_alloc ?_ _)); exact BK146.out)) : gb147 ≠ gb146)); clear BK146; clear HB; have BK146 := n0_; have HB := n1_; have BK147 := n2_; have GW147 := n3_; have GE147 := n4_; have NB146_147 := n5_; have NB147_146 := n6_; clear n0_ n1_ n2_ n3_ n4_ n5_ n6_; clear hb hbox hg; have hnb15 := NB146_147.out; have hnc15 := NB147_146.out; have hcz16_0 : w14.cell? ⟨gb146, 0, none⟩ = some (.bool a0_0) := (blk_cell BK146.out 0).trans rfl; have hcz16_1 : w14.cell? ⟨gb146, 1, none⟩ = some (.string a0_1) := (blk_cell BK146.out 1).trans rfl; have hcz16_2 : w14.cell? ⟨gb146, 2, none⟩ = some (.int .i64 a0_2) := (blk_cell BK146.out 2).trans rfl; have hfz16_0 := blk_frozen BK146.out 0; have hfz16_1 := blk_frozen BK146.out 1; have hfz16_2 := blk_frozen BK146.out 2; have hcz17_0 : w14.cell? ⟨gb147, 0, none⟩ = some (.bool a1_0) := (blk_cell BK147.out 0).trans rfl; have hcz17_1 : w14.cell? ⟨gb147, 1, none⟩ = some (.string a1_1) := (blk_cell BK147.out 1).trans rfl; have hcz17_2 : w14.cell? ⟨gb147, 2, none⟩ = some (.int .i64 a1_2) := (blk_cell BK147.out 2).trans rfl; have hfz17_0 := blk_frozen BK147.out 0; have hfz17_1 := blk_frozen BK147.out 1; have hfz17_2 := blk_frozen BK147.out 2))
      have n0_ := Aside0.mk (blk_drew BK146.out)
      have n1_ := Aside0.mk (blk_drew BK147.out)
      have n2_ := Aside0.mk (below_drew1 HB.out)
      clear BK146
      clear BK147
      clear HB
      have BK146 := n0_
      have BK147 := n1_
      have HB := n2_
      clear n0_ n1_ n2_
      refine start_ (n := 18) (S := fun w' => w'.cell? ⟨gb146, 0, none⟩ = some (.bool a0_0) ∧ w'.cell? ⟨gb146, 1, none⟩ = some (.string a0_1) ∧ w'.cell? ⟨gb146, 2, none⟩ = some (.int .i64 a0_2) ∧ w'.cell? ⟨gb147, 0, none⟩ = some (.bool a1_0) ∧ w'.cell? ⟨gb147, 1, none⟩ = some (.string a1_1) ∧ w'.cell? ⟨gb147, 2, none⟩ = some (.int .i64 a1_2)) (ds := []) #[false, false, false, false, false, false, false, false, false, false, false, false, false, false, false, false, false, false] (by kernel_rfl) rfl rfl ⟨(blk_cell BK146.out 0).trans rfl, (blk_cell BK146.out 1).trans rfl, (blk_cell BK146.out 2).trans rfl, (blk_cell BK147.out 0).trans rfl, (blk_cell BK147.out 1).trans rfl, (blk_cell BK147.out 2).trans rfl⟩ (fun hHeld => ?_); refine with_tabW dec_Dec_size.tab2 dec_Dec_size.bits2 (fun HT_ HW_ => ?_)
      generalize w14.drew = w18 at BK146 BK147 HB hHeld ⊢
      refine pure_ (i := 0) (N := some 13) (v := ?_) (a' := ?_) #[true, false, false, false, false, false, false, false, false, false, false, false, false, false, false, false, false, false] rfl rfl (any_of HT_.out (by kernel_rfl)) (fun _ _ _ h => h) (Or.inl ⟨by rfl, ?_⟩) ?_ ?_
      rotate_left
      · intro w'
        go_simp
        with_reducible rfl
      rotate_left
      · simp only [Act.put, List.setIfInBounds_toArray, List.set_cons_zero, List.set_cons_succ, i64_w, i32_w]
        rfl
      refine pure_ (i := 2) (N := some 15) (v := ?_) (a' := ?_) #[true, false, true, false, false, false, false, false, false, false, false, false, false, false, false, false, false, false] rfl rfl (any_of HT_.out (by kernel_rfl)) (fun _ _ _ h => h) (Or.inl ⟨by rfl, ?_⟩) ?_ ?_
      rotate_left
      · intro w'
        go_simp
        with_reducible rfl
      rotate_left
      · simp only [Act.put, List.setIfInBounds_toArray, List.set_cons_zero, List.set_cons_succ, i64_w, i32_w]
        rfl
      refine pure_ (i := 3) (N := some 16) (v := ?_) (a' := ?_) #[true, false, true, true, false, false, false, false, false, false, false, false, false, false, false, false, false, false] rfl rfl (any_of HT_.out (by kernel_rfl)) (fun _ _ _ h => h) (Or.inl ⟨by rfl, ?_⟩) ?_ ?_
      rotate_left
      · intro w'
        go_simp
        with_reducible rfl
      rotate_left
      · simp only [Act.put, List.setIfInBounds_toArray, List.set_cons_zero, List.set_cons_succ, i64_w, i32_w]
        rfl
      refine pure_ (i := 8) (N := some 21) (v := ?_) (a' := ?_) #[true, false, true, true, false, false, false, false, true, false, false, false, false, false, false, false, false, false] rfl rfl (any_of HT_.out (by kernel_rfl)) (fun _ _ _ h => h) (Or.inl ⟨by rfl, ?_⟩) ?_ ?_
      rotate_left
      · intro w'
        go_simp
        with_reducible rfl
      rotate_left
      · simp only [Act.put, List.setIfInBounds_toArray, List.set_cons_zero, List.set_cons_succ, i64_w, i32_w]
        rfl
      refine pure_ (i := 10) (N := some 23) (v := ?_) (a' := ?_) #[true, false, true, true, false, false, false, false, true, false, true, false, false, false, false, false, false, false] rfl rfl (any_of HT_.out (by kernel_rfl)) (fun _ _ _ h => h) (Or.inl ⟨by rfl, ?_⟩) ?_ ?_
      rotate_left
      · intro w'
        go_simp
        with_reducible rfl
      rotate_left
      · simp only [Act.put, List.setIfInBounds_toArray, List.set_cons_zero, List.set_cons_succ, i64_w, i32_w]
        rfl
      refine pure_ (i := 11) (N := some 24) (v := ?_) (a' := ?_) #[true, false, true, true, false, false, false, false, true, false, true, true, false, false, false, false, false, false] rfl rfl (any_of HT_.out (by kernel_rfl)) (fun _ _ _ h => h) (Or.inl ⟨by rfl, ?_⟩) ?_ ?_
      rotate_left
      · intro w'
        go_simp
        with_reducible rfl
      rotate_left
      · simp only [Act.put, List.setIfInBounds_toArray, List.set_cons_zero, List.set_cons_succ, i64_w, i32_w]
        rfl
      refine take_ (i := 1) (N := some 14) (v := ?_) (a' := ?_) #[true, true, true, true, false, false, false, false, true, false, true, true, false, false, false, false, false, false] rfl rfl (take_ofW HT_.out HW_.out (by kernel_rfl)) (fun _ _ _ h => h) (Or.inl ⟨by rfl, ?_⟩) hHeld ?_ ?_
      rotate_left
      · rintro w' ⟨s0, s1, s2, s3, s4, s5⟩
        go_simp
        with_reducible rfl
      rotate_left
      · simp only [Act.put, List.setIfInBounds_toArray, List.set_cons_zero, List.set_cons_succ, i64_w, i32_w]
        rfl
      refine take_ (i := 4) (N := some 17) (v := ?_) (a' := ?_) #[true, true, true, true, true, false, false, false, true, false, true, true, false, false, false, false, false, false] rfl rfl (take_ofW HT_.out HW_.out (by kernel_rfl)) (fun _ _ _ h => h) (Or.inl ⟨by rfl, ?_⟩) hHeld ?_ ?_
      rotate_left
      · rintro w' ⟨s0, s1, s2, s3, s4, s5⟩
        go_simp
        with_reducible rfl
      rotate_left
      · simp only [Act.put, List.setIfInBounds_toArray, List.set_cons_zero, List.set_cons_succ, i64_w, i32_w]
        rfl
      refine pure_ (i := 5) (N := some 18) (v := ?_) (a' := ?_) #[true, true, true, true, true, true, false, false, true, false, true, true, false, false, false, false, false, false] rfl rfl (any_of HT_.out (by kernel_rfl)) (fun _ _ _ h => h) (Or.inl ⟨by rfl, ?_⟩) ?_ ?_
      rotate_left
      · intro w'
        go_simp
        with_reducible rfl
      rotate_left
      · simp only [Act.put, List.setIfInBounds_toArray, List.set_cons_zero, List.set_cons_succ, i64_w, i32_w]
        rfl
      refine take_ (i := 9) (N := some 22) (v := ?_) (a' := ?_) #[true, true, true, true, true, true, false, false, true, true, true, true, false, false, false, false, false, false] rfl rfl (take_ofW HT_.out HW_.out (by kernel_rfl)) (fun _ _ _ h => h) (Or.inl ⟨by rfl, ?_⟩) hHeld ?_ ?_
      rotate_left
      · rintro w' ⟨s0, s1, s2, s3, s4, s5⟩
        go_simp
        with_reducible rfl
      rotate_left
      · simp only [Act.put, List.setIfInBounds_toArray, List.set_cons_zero, List.set_cons_succ, i64_w, i32_w]
        rfl
      refine take_ (i := 12) (N := some 25) (v := ?_) (a' := ?_) #[true, true, true, true, true, true, false, false, true, true, true, true, true, false, false, false, false, false] rfl rfl (take_ofW HT_.out HW_.out (by kernel_rfl)) (fun _ _ _ h => h) (Or.inl ⟨by rfl, ?_⟩) hHeld ?_ ?_
      rotate_left
      · rintro w' ⟨s0, s1, s2, s3, s4, s5⟩
        go_simp
        with_reducible rfl
      rotate_left
      · simp only [Act.put, List.setIfInBounds_toArray, List.set_cons_zero, List.set_cons_succ, i64_w, i32_w]
        rfl
      refine pure_ (i := 13) (N := some 26) (v := ?_) (a' := ?_) #[true, true, true, true, true, true, false, false, true, true, true, true, true, true, false, false, false, false] rfl rfl (any_of HT_.out (by kernel_rfl)) (fun _ _ _ h => h) (Or.inl ⟨by rfl, ?_⟩) ?_ ?_
      rotate_left
      · intro w'
        go_simp
        with_reducible rfl
      rotate_left
      · simp only [Act.put, List.setIfInBounds_toArray, List.set_cons_zero, List.set_cons_succ, i64_w, i32_w]
        rfl
      refine one_ (i := 6) (N := some 19) #[true, true, true, true, true, true, true, false, true, true, true, true, true, true, false, false, false, false] rfl rfl (one_of HT_.out (by kernel_rfl)) (by decide) (fun K hK => ?_)
      refine goes_ Tryd.func64 (by kernel_rfl) rfl #[.string (⟨#[48]⟩ : ByteArray), .int .i64 (wrap64 ((ji3) - a0_2))] (by rfl) rfl rfl (by (try simp only [List.map_toArray, List.map_cons, List.map_nil]); first | done | (simp only [hji3]; rfl) | rfl | (simp only [List.length_drop, List.length_take]; rfl)) ?_
      with_reducible refine (strings_Repeat.calls (⟨#[48]⟩ : ByteArray) (wrap64 ((ji3) - a0_2)) t148 _ A4.out).mono ?_
      rintro e w19 ⟨rfl, hb⟩
      refine ⟨_, rfl, ?_⟩
      have n0_ := Aside0.mk (blk_below (g := gb146) (o := .cells #[.bool a0_0, .string a0_1, .int .i64 a0_2] 23 (0, 0)) (by (with_reducible repeat (first | refine blk_drewN ?_ _ | refine blk_drew ?_ | refine blk_alloc ?_ _)); exact BK146.out) hb)
      have n1_ := Aside0.mk (blk_below (g := gb147) (o := .cells #[.bool a1_0, .string a1_1, .int .i64 a1_2] 23 (0, 0)) (by (with_reducible repeat (first | refine blk_drewN ?_ _ | refine blk_drew ?_ | refine blk_alloc ?_ _)); exact BK147.out) hb)
      have n2_ := Aside0.mk (below_step (by repeat (first | (with_reducible first | exact HB.out | apply below_alloc | apply pw_below_drewN | apply below_drew1 | refine below_set ?_ GE146.out | refine below_set ?_ GE147.out) | exact HB.out)) hb)
      clear BK146
      clear BK147
      clear HB
      have BK146 := n0_
      have BK147 := n1_
      have HB := n2_
      clear n0_ n1_ n2_
      (try clear hb)
      (try clear hb2)
      (try clear hk)
      (try clear hi)
      refine hK.out _ _ ⟨(blk_cell BK146.out 0).trans rfl, (blk_cell BK146.out 1).trans rfl, (blk_cell BK146.out 2).trans rfl, (blk_cell BK147.out 0).trans rfl, (blk_cell BK147.out 1).trans rfl, (blk_cell BK147.out 2).trans rfl⟩ (fun hHeld => ?_)
      clear hK K
      refine norm_ (a' := ?_) ?_ ?_
      rotate_left
      · show Act.put _ (some 19) _ = _
        simp only [Act.put, List.setIfInBounds_toArray, List.set_cons_zero, List.set_cons_succ, i64_w, i32_w]
        rfl
      refine pure_ (i := 7) (N := some 20) (v := ?_) (a' := ?_) #[true, true, true, true, true, true, true, true, true, true, true, true, true, true, false, false, false, false] rfl rfl (any_of HT_.out (by kernel_rfl)) (fun _ _ _ h => h) (Or.inl ⟨by rfl, ?_⟩) ?_ ?_
      rotate_left
      · intro w'
        go_simp
        with_reducible rfl
      rotate_left
      · simp only [Act.put, List.setIfInBounds_toArray, List.set_cons_zero, List.set_cons_succ, i64_w, i32_w]
        rfl
      refine one_ (i := 14) (N := some 27) #[true, true, true, true, true, true, true, true, true, true, true, true, true, true, true, false, false, false] rfl rfl (one_of HT_.out (by kernel_rfl)) (by decide) (fun K hK => ?_)
      refine goes_ Tryd.func64 (by kernel_rfl) rfl #[.string (⟨#[48]⟩ : ByteArray), .int .i64 (wrap64 ((ji3) - a1_2))] (by rfl) rfl rfl (by (try simp only [List.map_toArray, List.map_cons, List.map_nil]); first | done | (simp only [hji3]; rfl) | rfl | (simp only [List.length_drop, List.length_take]; rfl)) ?_
      with_reducible refine (strings_Repeat.calls (⟨#[48]⟩ : ByteArray) (wrap64 ((ji3) - a1_2)) t149 _ A6.out).mono ?_
      rintro e w20 ⟨rfl, hb⟩
      refine ⟨_, rfl, ?_⟩
      have n0_ := Aside0.mk (blk_below (g := gb146) (o := .cells #[.bool a0_0, .string a0_1, .int .i64 a0_2] 23 (0, 0)) (by (with_reducible repeat (first | refine blk_drewN ?_ _ | refine blk_drew ?_ | refine blk_alloc ?_ _)); exact BK146.out) hb)
      have n1_ := Aside0.mk (blk_below (g := gb147) (o := .cells #[.bool a1_0, .string a1_1, .int .i64 a1_2] 23 (0, 0)) (by (with_reducible repeat (first | refine blk_drewN ?_ _ | refine blk_drew ?_ | refine blk_alloc ?_ _)); exact BK147.out) hb)
      have n2_ := Aside0.mk (below_step (by repeat (first | (with_reducible first | exact HB.out | apply below_alloc | apply pw_below_drewN | apply below_drew1 | refine below_set ?_ GE146.out | refine below_set ?_ GE147.out) | exact HB.out)) hb)
      clear BK146
      clear BK147
      clear HB
      have BK146 := n0_
      have BK147 := n1_
      have HB := n2_
      clear n0_ n1_ n2_
      (try clear hb)
      (try clear hb2)
      (try clear hk)
      (try clear hi)
      refine hK.out _ _ ⟨(blk_cell BK146.out 0).trans rfl, (blk_cell BK146.out 1).trans rfl, (blk_cell BK146.out 2).trans rfl, (blk_cell BK147.out 0).trans rfl, (blk_cell BK147.out 1).trans rfl, (blk_cell BK147.out 2).trans rfl⟩ (fun hHeld => ?_)
      clear hK K
      refine norm_ (a' := ?_) ?_ ?_
      rotate_left
      · show Act.put _ (some 27) _ = _
        simp only [Act.put, List.setIfInBounds_toArray, List.set_cons_zero, List.set_cons_succ, i64_w, i32_w]
        rfl
      refine pure_ (i := 15) (N := some 28) (v := ?_) (a' := ?_) #[true, true, true, true, true, true, true, true, true, true, true, true, true, true, true, true, false, false] rfl rfl (any_of HT_.out (by kernel_rfl)) (fun _ _ _ h => h) (Or.inl ⟨by rfl, ?_⟩) ?_ ?_
      rotate_left
      · intro w'
        go_simp
        with_reducible rfl
      rotate_left
      · simp only [Act.put, List.setIfInBounds_toArray, List.set_cons_zero, List.set_cons_succ, i64_w, i32_w]
        rfl
      refine pure_ (i := 16) (N := some 6) (v := ?_) (a' := ?_) #[true, true, true, true, true, true, true, true, true, true, true, true, true, true, true, true, true, false] rfl rfl (any_of HT_.out (by kernel_rfl)) (fun _ _ _ h => h) (Or.inl ⟨by rfl, ?_⟩) ?_ ?_
      rotate_left
      · intro w'
        go_simp
        with_reducible rfl
      rotate_left
      · simp only [Act.put, List.setIfInBounds_toArray, List.set_cons_zero, List.set_cons_succ, i64_w, i32_w]
        rfl
      refine pure_ (i := 17) (N := some 7) (v := ?_) (a' := ?_) #[true, true, true, true, true, true, true, true, true, true, true, true, true, true, true, true, true, true] rfl rfl (any_of HT_.out (by kernel_rfl)) (fun _ _ _ h => h) (Or.inl ⟨by rfl, ?_⟩) ?_ ?_
      rotate_left
      · intro w'
        go_simp
        with_reducible rfl
      rotate_left
      · simp only [Act.put, List.setIfInBounds_toArray, List.set_cons_zero, List.set_cons_succ, i64_w, i32_w]
        rfl
      refine done_ (done_of HT_.out (by kernel_rfl)) ?_
      try go_wp2_with (first | ((with_reducible refine gate_callee (f := 88) rfl ?_); refine goesL_ (some 30) rfl rfl Tryd.func88 (by kernel_rfl) rfl #[.string (a0_1 ++ t148), .string (⟨#[48]⟩ : ByteArray)] rfl (by (try simp only [List.map_toArray, List.map_cons, List.map_nil]); first | done | rfl | (simp only [List.length_drop, List.length_take]; rfl)) ?_; (with_reducible refine (strings_TrimLeft.calls (a0_1 ++ t148) (⟨#[48]⟩ : ByteArray) t150 _ A8.out).mono ?_); rintro e w21 ⟨rfl, hb⟩; refine ⟨_, rfl, ?_⟩; have n0_ := Aside0.mk (blk_below (g := gb146) (o := .cells #[.bool a0_0, .string a0_1, .int .i64 a0_2] 23 (0, 0)) (by (with_reducible repeat (first | refine blk_drewN ?_ _ | refine blk_drew ?_ | refine blk_alloc ?_ _)); exact BK146.out) hb); have n1_ := Aside0.mk (blk_below (g := gb147) (o := .cells #[.bool a1_0, .string a1_1, .int .i64 a1_2] 23 (0, 0)) (by (with_reducible repeat (first | refine blk_drewN ?_ _ | refine blk_drew ?_ | refine blk_alloc ?_ _)); exact BK147.out) hb); have n2_ := Aside0.mk (below_step (by repeat (first | (with_reducible first | exact HB.out | apply below_alloc | apply pw_below_drewN | apply below_drew1 | refine below_set ?_ GE146.out | refine below_set ?_ GE147.out) | exact HB.out)) hb); clear BK146; clear BK147; clear HB; have BK146 := n0_; have BK147 := n1_; have HB := n2_; clear n0_ n1_ n2_; (try clear hb); (try clear hb2); (try clear hk); (try clear hi)) | ((with_reducible refine gate_callee (f := 88) rfl ?_); refine goesL_ (some 32) rfl rfl Tryd.func88 (by kernel_rfl) rfl #[.string (a1_1 ++ t149), .string (⟨#[48]⟩ : ByteArray)] rfl (by (try simp only [List.map_toArray, List.map_cons, List.map_nil]); first | done | rfl | (simp only [List.length_drop, List.length_take]; rfl)) ?_; (with_reducible refine (strings_TrimLeft.calls (a1_1 ++ t149) (⟨#[48]⟩ : ByteArray) t151 _ A9.out).mono ?_); rintro e w22 ⟨rfl, hb⟩; refine ⟨_, rfl, ?_⟩; have n0_ := Aside0.mk (blk_below (g := gb146) (o := .cells #[.bool a0_0, .string a0_1, .int .i64 a0_2] 23 (0, 0)) (by (with_reducible repeat (first | refine blk_drewN ?_ _ | refine blk_drew ?_ | refine blk_alloc ?_ _)); exact BK146.out) hb); have n1_ := Aside0.mk (blk_below (g := gb147) (o := .cells #[.bool a1_0, .string a1_1, .int .i64 a1_2] 23 (0, 0)) (by (with_reducible repeat (first | refine blk_drewN ?_ _ | refine blk_drew ?_ | refine blk_alloc ?_ _)); exact BK147.out) hb); have n2_ := Aside0.mk (below_step (by repeat (first | (with_reducible first | exact HB.out | apply below_alloc | apply pw_below_drewN | apply below_drew1 | refine below_set ?_ GE146.out | refine below_set ?_ GE147.out) | exact HB.out)) hb); clear BK146; clear BK147; clear HB; have BK146 := n0_; have BK147 := n1_; have HB := n2_; clear n0_ n1_ n2_; (try clear hb); (try clear hb2); (try clear hk); (try clear hi)) | ((with_reducible refine gate_callee (f := 112) rfl ?_); refine goesL_ (some 37) rfl rfl Tryd.func112 (by kernel_rfl) rfl #[.int .i64 (t150.size : Int), .int .i64 (t151.size : Int)] rfl (by (try simp only [List.map_toArray, List.map_cons, List.map_nil]); first | done | rfl | (simp only [List.length_drop, List.length_take]; rfl)) ?_; (with_reducible refine (cmp_Compare_int.calls (t150.size : Int) (t151.size : Int) t152 _ A10.out).mono ?_); rintro e w' ⟨rfl, ⟨nd, rfl⟩⟩; refine ⟨_, rfl, ?_⟩) | ((with_reducible refine gate_callee (f := 73) rfl ?_); refine goesL_ (some 40) rfl rfl Tryd.func73 (by kernel_rfl) rfl #[.string t150, .string t151] rfl (by (try simp only [List.map_toArray, List.map_cons, List.map_nil]); first | done | rfl | (simp only [List.length_drop, List.length_take]; rfl)) ?_; (with_reducible refine (cmp_Compare_string.calls t150 t151 t153 _ A11.out).mono ?_); rintro e w' ⟨rfl, ⟨nd, rfl⟩⟩; refine ⟨_, rfl, ?_⟩) | ((with_reducible refine gate_dst (N := 41) rfl ?_); refine Kd.R_lit (Kd.int .i64) _ 3 ?hg (N := 41) ?hd (xs := ([t152, t153] : List Int)) (inner := [.int .i64 t152, .int .i64 t153]) (ok := fun _ => True) (okp := fun _ => True) ?hr ?hp (fun _ hk => hk) trivial (Below.refl _ _) (Nat.le_refl _) (by simp) ?_; (case hd => rfl); (case hg => rfl); (case hr => first | (go_simp; done) | (go_simp; rfl)); (case hp => exact (Reps.one (show Kd.M (Kd.int .i64) _ _ _ t152 [.int .i64 t152] from rfl) (Reps.one (show Kd.M (Kd.int .i64) _ _ _ t153 [.int .i64 t153] from rfl) (Reps.none _ _)))); intro v155 w23 ho24 hb hg_ hnew_; clear hg_ hnew_; (first | rw [← Ny154.out] at ho24 | (simp only [Int.reduceToNat] at ho24; rw [← Ny154.out] at ho24)); have n0_ := Aside0.mk (Kd.R_lower ho24 (below_size (by repeat (first | (with_reducible first | exact HB.out | apply below_alloc | apply pw_below_drewN | apply below_drew1 | refine below_set ?_ GE146.out | refine below_set ?_ GE147.out) | exact HB.out)))); have n1_ := Aside0.mk (blk_below (g := gb146) (o := .cells #[.bool a0_0, .string a0_1, .int .i64 a0_2] 23 (0, 0)) (by (with_reducible repeat (first | refine blk_drewN ?_ _ | refine blk_drew ?_ | refine blk_alloc ?_ _)); exact BK146.out) hb); have n2_ := Aside0.mk (blk_below (g := gb147) (o := .cells #[.bool a1_0, .string a1_1, .int .i64 a1_2] 23 (0, 0)) (by (with_reducible repeat (first | refine blk_drewN ?_ _ | refine blk_drew ?_ | refine blk_alloc ?_ _)); exact BK147.out) hb); have n3_ := Aside0.mk (below_step (by repeat (first | (with_reducible first | exact HB.out | apply below_alloc | apply pw_below_drewN | apply below_drew1 | refine below_set ?_ GE146.out | refine below_set ?_ GE147.out) | exact HB.out)) hb); clear BK146; clear BK147; clear HB; have HO156 := n0_; have BK146 := n1_; have BK147 := n2_; have HB := n3_; clear n0_ n1_ n2_ n3_; clear hb ho24; obtain ⟨Ao25, co25, eo25⟩ := Kd.R_slice HO156.out; subst eo25) | ((with_reducible refine gate_callee (f := 111) rfl ?_); refine goesL_ (some 42) rfl rfl Tryd.func111 (by kernel_rfl) rfl #[.slice Ao25 y154.length co25] rfl (by (try simp only [List.map_toArray, List.map_cons, List.map_nil]); first | done | rfl | (simp only [List.length_drop, List.length_take]; rfl)) ?_; (with_reducible refine (cmp_Or_int.calls k _ _ y154 t157 _ ?side1 ?side2 A12.out).mono ?_); (case side1 => repeat (first | exact (Kd.R_reads' HO156.out).2.2 | (with_reducible refine Kd.C_alloc ?_ _) | (with_reducible refine Kd.C_drewN ?_ _) | (with_reducible refine Kd.C_drew ?_))); (case side2 => exact (Kd.R_reads' HO156.out).2.1); rintro e w' ⟨rfl, ⟨nd, rfl⟩⟩; refine ⟨_, rfl, ?_⟩))
      go_ret
      exact ⟨by first | rfl | (simp [errW_none, errW_some] <;> rfl) | (simp only [← hji3]; first | rfl | (simp [errW_none, errW_some] <;> rfl)) | (simp [*, errW_none, errW_some] <;> rfl), by repeat (first | (with_reducible first | exact HB.out | apply below_alloc | apply pw_below_drewN | apply below_drew1 | refine below_set ?_ GE146.out | refine below_set ?_ GE147.out) | exact HB.out)⟩
    · rw [if_neg c7] at H
      exact absurd H (by simp)
  · rw [if_neg c5] at H
    exact absurd H (by simp)
end Go.Proofs.YtonjkoeacedaiaaDoor.R
namespace Go.Proofs.YtonjkoeacedaiaaDoor.R
open Go.RowKit Go.Proofs.YtonjkoeacedaiaaDoor.G Go.Proofs.YtonjkoeacedaiaaDoor.U Go.Proofs.YtonjkoeacedaiaaDoorW.PrintWords Go.Proofs.YtonjkoeacedaiaaDoorW.PrintLast Go.Proofs.YtonjkoeacedaiaaDoorW.PrintMore
attribute [local go_sem] max2_int min2_int max_two min_two max_three min_three max_four min_four
set_option linter.unusedVariables false
set_option linter.unusedSimpArgs false
mutual
def dec_Dec_Compare.j0 : Nat → Bool → Bool → Bool → ByteArray → Int → Bool → ByteArray → Int → Option (Int)
  | 0, _, _, _, _, _, _, _, _ => none
  | k + 1, x5, x6, x159000, x159001, x159002, x160000, x160001, x160002 => if x5 = true then (dec_Dec_Compare.j1 k x5 x6 (!x6) x159000 x159001 x159002 x160000 x160001 x160002) else (dec_Dec_Compare.j1 k x5 x6 false x159000 x159001 x159002 x160000 x160001 x160002)
def dec_Dec_Compare.j1 : Nat → Bool → Bool → Bool → Bool → ByteArray → Int → Bool → ByteArray → Int → Option (Int)
  | 0, _, _, _, _, _, _, _, _, _ => none
  | k + 1, x5, x6, x21, x159000, x159001, x159002, x160000, x160001, x160002 => if x21 = true then (some (-1)) else (if x6 = true then (dec_Dec_Compare.j2 k x5 (!x5) x159000 x159001 x159002 x160000 x160001 x160002) else (dec_Dec_Compare.j2 k x5 false x159000 x159001 x159002 x160000 x160001 x160002))
def dec_Dec_Compare.j2 : Nat → Bool → Bool → Bool → ByteArray → Int → Bool → ByteArray → Int → Option (Int)
  | 0, _, _, _, _, _, _, _, _ => none
  | k + 1, x5, x27, x159000, x159001, x159002, x160000, x160001, x160002 => if x27 = true then (some 1) else (if x5 = true then ((dec_Dec_size.f k x159000 x159001 x159002 x160000 x160001 x160002).bind fun t163 => (some (wrap64 (-t163)))) else ((dec_Dec_size.f k x159000 x159001 x159002 x160000 x160001 x160002).bind fun t164 => (some t164)))
end
def dec_Dec_Compare.f (k : Nat) (a0_0 : Bool) (a0_1 : ByteArray) (a0_2 : Int) (a1_0 : Bool) (a1_1 : ByteArray) (a1_2 : Int) : Option (Int) := if a0_0 = true then ((dec_Dec_Zero.f a0_0 a0_1 a0_2).bind fun t160 => (if a1_0 = true then ((dec_Dec_Zero.f a1_0 a1_1 a1_2).bind fun t161 => (dec_Dec_Compare.j0 k (!t160) (!t161) a0_0 a0_1 a0_2 a1_0 a1_1 a1_2)) else (dec_Dec_Compare.j0 k (!t160) false a0_0 a0_1 a0_2 a1_0 a1_1 a1_2))) else (if a1_0 = true then ((dec_Dec_Zero.f a1_0 a1_1 a1_2).bind fun t162 => (dec_Dec_Compare.j0 k false (!t162) a0_0 a0_1 a0_2 a1_0 a1_1 a1_2)) else (dec_Dec_Compare.j0 k false false a0_0 a0_1 a0_2 a1_0 a1_1 a1_2))
def dec_Dec_Compare.T1 : Bool × List (List Nat × List Nat) := (true, [([], []), ([0], [0]), ([1], [1]), ([2], [2]), ([3, 2, 2], [2, 3]), ([4, 2], [2, 4]), ([2, 5], [2, 5]), ([], []), ([7], [7]), ([8, 4], [8]), ([9], [9]), ([10, 9, 9], [9, 10]), ([11, 9], [9, 11]), ([9, 12], [9, 12]), ([6, 11, 0, 1, 2, 3, 4, 5, 6], [6]), ([13, 14, 0, 1, 2, 3, 4, 5, 6, 7, 8, 9, 10, 11, 12, 13, 14], [13])])
def dec_Dec_Compare.B1 : List Nat := [0, 1, 3, 7, 15, 31, 63, 0, 128, 415, 927, 1951, 3999, 8095, 4095, 32767]
theorem dec_Dec_Compare.tab1 : rtab .any (opsOf Tryd.f48 1) = dec_Dec_Compare.T1 := by kernel_rfl
theorem dec_Dec_Compare.bits1 : waitsOk dec_Dec_Compare.T1.2 dec_Dec_Compare.B1 = true := by kernel_rfl
set_option maxHeartbeats 8000000 in
set_option maxRecDepth 100000 in
theorem dec_Dec_Compare.calls (k : Nat) (a0_0 : Bool) (a0_1 : ByteArray) (a0_2 : Int) (a1_0 : Bool) (a1_1 : ByteArray) (a1_2 : Int) (r : Int) (w : World) (h : dec_Dec_Compare.f k a0_0 a0_1 a0_2 a1_0 a1_1 a1_2 = some r) :
    Calls Tryd.prog 48 #[.agg #[.bool a0_0, .string a0_1, .int .i64 a0_2], .agg #[.bool a1_0, .string a1_1, .int .i64 a1_2]] w fun e w' => e = .returned (.int .i64 r) ∧ Below w.heap.size w w' := by
  have hu23 := Tryd.underlying23
  have HB := Aside0.mk (Below.refl w.heap.size w)
  have H : (if a0_0 = true then ((dec_Dec_Zero.f a0_0 a0_1 a0_2).bind fun t160 => (if a1_0 = true then ((dec_Dec_Zero.f a1_0 a1_1 a1_2).bind fun t161 => (dec_Dec_Compare.j0 k (!t160) (!t161) a0_0 a0_1 a0_2 a1_0 a1_1 a1_2)) else (dec_Dec_Compare.j0 k (!t160) false a0_0 a0_1 a0_2 a1_0 a1_1 a1_2))) else (if a1_0 = true then ((dec_Dec_Zero.f a1_0 a1_1 a1_2).bind fun t162 => (dec_Dec_Compare.j0 k false (!t162) a0_0 a0_1 a0_2 a1_0 a1_1 a1_2)) else (dec_Dec_Compare.j0 k false false a0_0 a0_1 a0_2 a1_0 a1_1 a1_2))) = some r := h
  clear h
  have HC3 := Aside0.mk H
  clear H
  go_enter Tryd.func48, Tryd.ntmps48
  go_upto_region 1 with (first | ((with_reducible refine gate_dst (N := 2) rfl ?_); refine box_event ?hg (N := 2) ?hd (cs := #[.bool a0_0, .string a0_1, .int .i64 a0_2]) (t := 23) ?hr ?_; (case hd => rfl); (case hg => rfl); (case hr => first | (go_simp; done) | (go_simp; rfl)); intro gb158 hg w4 hbox hb; have n0_ := Aside0.mk (below_step (by repeat (first | (with_reducible first | exact HB.out | apply below_alloc | apply pw_below_drewN | apply below_drew1) | exact HB.out)) hb); have n1_ := Aside0.mk (hbox); have n2_ := Aside0.mk ((by rw [hg]; exact (below_size (by repeat (first | (with_reducible first | exact HB.out | apply below_alloc | apply pw_below_drewN | apply below_drew1) | exact HB.out))) : w.heap.size ≤ gb158)); have n3_ := Aside0.mk ((by rw [hg]; exact (below_size (by repeat (first | (with_reducible first | exact HB.out | apply below_alloc | apply pw_below_drewN | apply below_drew1) | exact HB.out))) : w.heap.size ≤ gb158)); clear HB; have HB := n0_; have BK158 := n1_; have GW158 := n2_; have GE158 := n3_; clear n0_ n1_ n2_ n3_; clear hb hbox hg) | ((with_reducible refine gate_dst (N := 3) rfl ?_); refine box_event ?hg (N := 3) ?hd (cs := #[.bool a1_0, .string a1_1, .int .i64 a1_2]) (t := 23) ?hr ?_; (case hd => rfl); (case hg => rfl); (case hr => first | (go_simp; done) | (go_simp; rfl)); intro gb159 hg w5 hbox hb; have n0_ := Aside0.mk (blk_below (g := gb158) (o := .cells #[.bool a0_0, .string a0_1, .int .i64 a0_2] 23 (0, 0)) (by (with_reducible repeat (first | refine blk_drewN ?_ _ | refine blk_drew ?_ | refine blk_alloc ?_ _)); exact BK158.out) hb); have n1_ := Aside0.mk (below_step (by repeat (first | (with_reducible first | exact HB.out | apply below_alloc | apply pw_below_drewN | apply below_drew1 | refine below_set ?_ GE158.out) | exact HB.out)) hb); have n2_ := Aside0.mk (hbox); have n3_ := Aside0.mk ((by rw [hg]; exact (below_size (by repeat (first | (with_reducible first | exact HB.out | apply below_alloc | apply pw_below_drewN | apply below_drew1 | refine below_set ?_ GE158.out) | exact HB.out))) : w.heap.size ≤ gb159)); have n4_ := Aside0.mk ((by rw [hg]; exact (below_size (by repeat (first | (with_reducible first | exact HB.out | apply below_alloc | apply pw_below_drewN | apply below_drew1 | refine below_set ?_ GE158.out) | exact HB.out))) : w.heap.size ≤ gb159)); have n5_ := Aside0.mk ((by rw [hg]; exact Nat.ne_of_lt (blk_lt (g := gb158) (o := .cells #[.bool a0_0, .string a0_1, .int .i64 a0_2] 23 (0, 0)) (by (with_reducible repeat (first | refine blk_drewN ?_ _ | refine blk_drew ?_ | refine blk_alloc ?_ _)); exact BK158.out)) : gb158 ≠ gb159)); have n6_ := Aside0.mk ((by rw [hg]; exact Nat.ne_of_gt (blk_lt (g := gb158) (o := .cells #[.bool a0_0, .string a0_1, .int .i64 a0_2] 23 (0, 0)) (by (with_reducible repeat (first | refine blk_drewN ?_ _ | refine blk_drew ?_ | refine blk_alloc ?_ _)); exact BK158.out)) : gb159 ≠ gb158)); clear BK158; clear HB; have BK158 := n0_; have HB := n1_; have BK159 := n2_; have GW159 := n3_; have GE159 := n4_; have NB158_159 := n5_; have NB159_158 := n6_; clear n0_ n1_ n2_ n3_ n4_ n5_ n6_; clear hb hbox hg))
  (try simp only [Act.put, List.setIfInBounds_toArray, List.set_cons_zero, List.set_cons_succ])
  go_cut [5, 6] (fun v5 v6 wc => ∃ (kq : Nat) (x5_2 : Bool) (x6_2 : Bool), v5 = .bool x5_2 ∧ v6 = .bool x6_2 ∧ Aside0 (dec_Dec_Compare.j0 kq x5_2 x6_2 a0_0 a0_1 a0_2 a1_0 a1_1 a1_2 = some r) ∧ Aside0 (kq ≤ k) ∧ Aside0 (wc.heap[gb158]? = some (.cells #[.bool a0_0, .string a0_1, .int .i64 a0_2] 23 (0, 0))) ∧ Aside0 (wc.heap[gb159]? = some (.cells #[.bool a1_0, .string a1_1, .int .i64 a1_2] 23 (0, 0))) ∧ Aside0 (Below w.heap.size w wc))
  case first =>
    have H := HC3.out
    clear HC3
    by_cases c6 : a0_0 = true
    · subst c6
      have H1 : ((dec_Dec_Zero.f true a0_1 a0_2).bind fun t160 => (if a1_0 = true then ((dec_Dec_Zero.f a1_0 a1_1 a1_2).bind fun t161 => (dec_Dec_Compare.j0 k (!t160) (!t161) true a0_1 a0_2 a1_0 a1_1 a1_2)) else (dec_Dec_Compare.j0 k (!t160) false true a0_1 a0_2 a1_0 a1_1 a1_2))) = some r := by rw [if_pos rfl] at H; exact H
      clear H
      have H := H1
      clear H1
      replace H := Option.bind_eq_some_iff.mp H
      obtain ⟨t160, A70, H⟩ := H
      replace H : (if a1_0 = true then ((dec_Dec_Zero.f a1_0 a1_1 a1_2).bind fun t161 => (dec_Dec_Compare.j0 k (!t160) (!t161) true a0_1 a0_2 a1_0 a1_1 a1_2)) else (dec_Dec_Compare.j0 k (!t160) false true a0_1 a0_2 a1_0 a1_1 a1_2)) = some r := H
      have A7 := Aside0.mk A70
      clear A70
      by_cases c8 : a1_0 = true
      · subst c8
        have H1 : ((dec_Dec_Zero.f true a1_1 a1_2).bind fun t161 => (dec_Dec_Compare.j0 k (!t160) (!t161) true a0_1 a0_2 true a1_1 a1_2)) = some r := by rw [if_pos rfl] at H; exact H
        clear H
        have H := H1
        clear H1
        replace H := Option.bind_eq_some_iff.mp H
        obtain ⟨t161, A90, H⟩ := H
        replace H : (dec_Dec_Compare.j0 k (!t160) (!t161) true a0_1 a0_2 true a1_1 a1_2) = some r := H
        have A9 := Aside0.mk A90
        clear A90
        have H' := Aside0.mk H
        clear H
        try go_wp2
        have n0_ := Aside0.mk (blk_drew BK158.out)
        have n1_ := Aside0.mk (blk_drew BK159.out)
        have n2_ := Aside0.mk (below_drew1 HB.out)
        clear BK158
        clear BK159
        clear HB
        have BK158 := n0_
        have BK159 := n1_
        have HB := n2_
        clear n0_ n1_ n2_
        refine start_ (n := 16) (S := fun w' => w'.cell? ⟨gb158, 0, none⟩ = some (.bool true) ∧ w'.cell? ⟨gb158, 1, none⟩ = some (.string a0_1) ∧ w'.cell? ⟨gb158, 2, none⟩ = some (.int .i64 a0_2) ∧ w'.cell? ⟨gb159, 0, none⟩ = some (.bool true) ∧ w'.cell? ⟨gb159, 1, none⟩ = some (.string a1_1) ∧ w'.cell? ⟨gb159, 2, none⟩ = some (.int .i64 a1_2)) (ds := []) #[false, false, false, false, false, false, false, false, false, false, false, false, false, false, false, false] (by kernel_rfl) rfl rfl ⟨(blk_cell BK158.out 0).trans rfl, (blk_cell BK158.out 1).trans rfl, (blk_cell BK158.out 2).trans rfl, (blk_cell BK159.out 0).trans rfl, (blk_cell BK159.out 1).trans rfl, (blk_cell BK159.out 2).trans rfl⟩ (fun hHeld => ?_); refine with_tabW dec_Dec_Compare.tab1 dec_Dec_Compare.bits1 (fun HT_ HW_ => ?_)
        generalize w5.drew = w10 at BK158 BK159 HB hHeld ⊢
        refine pure_ (i := 0) (N := some 7) (v := ?_) (a' := ?_) #[true, false, false, false, false, false, false, false, false, false, false, false, false, false, false, false] rfl rfl (any_of HT_.out (by kernel_rfl)) (fun _ _ _ h => h) (Or.inl ⟨by rfl, ?_⟩) ?_ ?_
        rotate_left
        · intro w'
          go_simp
          with_reducible rfl
        rotate_left
        · simp only [Act.put, List.setIfInBounds_toArray, List.set_cons_zero, List.set_cons_succ, i64_w, i32_w]
          rfl
        refine pure_ (i := 7) (N := some 14) (v := ?_) (a' := ?_) #[true, false, false, false, false, false, false, true, false, false, false, false, false, false, false, false] rfl rfl (any_of HT_.out (by kernel_rfl)) (fun _ _ _ h => h) (Or.inl ⟨by rfl, ?_⟩) ?_ ?_
        rotate_left
        · intro w'
          go_simp
          with_reducible rfl
        rotate_left
        · simp only [Act.put, List.setIfInBounds_toArray, List.set_cons_zero, List.set_cons_succ, i64_w, i32_w]
          rfl
        refine take_ (i := 1) (N := some 8) (v := ?_) (a' := ?_) #[true, true, false, false, false, false, false, true, false, false, false, false, false, false, false, false] rfl rfl (take_ofW HT_.out HW_.out (by kernel_rfl)) (fun _ _ _ h => h) (Or.inl ⟨by rfl, ?_⟩) hHeld ?_ ?_
        rotate_left
        · rintro w' ⟨s0, s1, s2, s3, s4, s5⟩
          go_simp
          with_reducible rfl
        rotate_left
        · simp only [Act.put, List.setIfInBounds_toArray, List.set_cons_zero, List.set_cons_succ, i64_w, i32_w]
          rfl
        refine pure_ (i := 2) (N := some 9) (v := ?_) (a' := ?_) #[true, true, true, false, false, false, false, true, false, false, false, false, false, false, false, false] rfl rfl (any_of HT_.out (by kernel_rfl)) (fun _ _ _ h => h) (Or.inl ⟨by rfl, ?_⟩) ?_ ?_
        rotate_left
        · intro w'
          go_simp
          with_reducible rfl
        rotate_left
        · simp only [Act.put, List.setIfInBounds_toArray, List.set_cons_zero, List.set_cons_succ, i64_w, i32_w]
          rfl
        refine take_ (i := 3) (N := some 10) (v := ?_) (a' := ?_) #[true, true, true, true, false, false, false, true, false, false, false, false, false, false, false, false] rfl rfl (take_ofW HT_.out HW_.out (by kernel_rfl)) (fun _ _ _ h => h) (Or.inl ⟨by rfl, ?_⟩) hHeld ?_ ?_
        rotate_left
        · rintro w' ⟨s0, s1, s2, s3, s4, s5⟩
          go_simp
          with_reducible rfl
        rotate_left
        · simp only [Act.put, List.setIfInBounds_toArray, List.set_cons_zero, List.set_cons_succ, i64_w, i32_w]
          rfl
        refine take_ (i := 8) (N := some 15) (v := ?_) (a' := ?_) #[true, true, true, true, false, false, false, true, true, false, false, false, false, false, false, false] rfl rfl (take_ofW HT_.out HW_.out (by kernel_rfl)) (fun _ _ _ h => h) (Or.inl ⟨by rfl, ?_⟩) hHeld ?_ ?_
        rotate_left
        · rintro w' ⟨s0, s1, s2, s3, s4, s5⟩
          go_simp
          with_reducible rfl
        rotate_left
        · simp only [Act.put, List.setIfInBounds_toArray, List.set_cons_zero, List.set_cons_succ, i64_w, i32_w]
          rfl
        refine one_ (i := 4) (N := some 11) #[true, true, true, true, true, false, false, true, true, false, false, false, false, false, false, false] rfl rfl (one_of HT_.out (by kernel_rfl)) (by decide) (fun K hK => ?_)
        refine goes_ Tryd.func32 (by kernel_rfl) rfl #[.agg #[.bool true, .string a0_1, .int .i64 a0_2]] (by rfl) rfl rfl (by (try simp only [List.map_toArray, List.map_cons, List.map_nil]); first | done | rfl | (simp only [List.length_drop, List.length_take]; rfl)) ?_
        with_reducible refine (dec_Dec_Zero.calls true a0_1 a0_2 t160 _ A7.out).mono ?_
        rintro e w11 ⟨rfl, hb⟩
        refine ⟨_, rfl, ?_⟩
        have n0_ := Aside0.mk (blk_below (g := gb158) (o := .cells #[.bool true, .string a0_1, .int .i64 a0_2] 23 (0, 0)) (by (with_reducible repeat (first | refine blk_drewN ?_ _ | refine blk_drew ?_ | refine blk_alloc ?_ _)); exact BK158.out) hb)
        have n1_ := Aside0.mk (blk_below (g := gb159) (o := .cells #[.bool true, .string a1_1, .int .i64 a1_2] 23 (0, 0)) (by (with_reducible repeat (first | refine blk_drewN ?_ _ | refine blk_drew ?_ | refine blk_alloc ?_ _)); exact BK159.out) hb)
        have n2_ := Aside0.mk (below_step (by repeat (first | (with_reducible first | exact HB.out | apply below_alloc | apply pw_below_drewN | apply below_drew1 | refine below_set ?_ GE158.out | refine below_set ?_ GE159.out) | exact HB.out)) hb)
        clear BK158
        clear BK159
        clear HB
        have BK158 := n0_
        have BK159 := n1_
        have HB := n2_
        clear n0_ n1_ n2_
        (try clear hb)
        (try clear hb2)
        (try clear hk)
        (try clear hi)
        refine hK.out _ _ ⟨(blk_cell BK158.out 0).trans rfl, (blk_cell BK158.out 1).trans rfl, (blk_cell BK158.out 2).trans rfl, (blk_cell BK159.out 0).trans rfl, (blk_cell BK159.out 1).trans rfl, (blk_cell BK159.out 2).trans rfl⟩ (fun hHeld => ?_)
        clear hK K
        refine norm_ (a' := ?_) ?_ ?_
        rotate_left
        · show Act.put _ (some 11) _ = _
          simp only [Act.put, List.setIfInBounds_toArray, List.set_cons_zero, List.set_cons_succ, i64_w, i32_w]
          rfl
        refine pure_ (i := 5) (N := some 12) (v := ?_) (a' := ?_) #[true, true, true, true, true, true, false, true, true, false, false, false, false, false, false, false] rfl rfl (any_of HT_.out (by kernel_rfl)) (fun _ _ _ h => h) (Or.inl ⟨by rfl, ?_⟩) ?_ ?_
        rotate_left
        · intro w'
          go_simp
          with_reducible rfl
        rotate_left
        · simp only [Act.put, List.setIfInBounds_toArray, List.set_cons_zero, List.set_cons_succ, i64_w, i32_w]
          rfl
        refine pure_ (i := 6) (N := some 13) (v := ?_) (a' := ?_) #[true, true, true, true, true, true, true, true, true, false, false, false, false, false, false, false] rfl rfl (any_of HT_.out (by kernel_rfl)) (fun _ _ _ h => h) (Or.inl ⟨by rfl, ?_⟩) ?_ ?_
        rotate_left
        · intro w'
          go_simp
          with_reducible rfl
        rotate_left
        · simp only [Act.put, List.setIfInBounds_toArray, List.set_cons_zero, List.set_cons_succ, i64_w, i32_w]
          rfl
        refine pure_ (i := 9) (N := some 16) (v := ?_) (a' := ?_) #[true, true, true, true, true, true, true, true, true, true, false, false, false, false, false, false] rfl rfl (any_of HT_.out (by kernel_rfl)) (fun _ _ _ h => h) (Or.inl ⟨by rfl, ?_⟩) ?_ ?_
        rotate_left
        · intro w'
          go_simp
          with_reducible rfl
        rotate_left
        · simp only [Act.put, List.setIfInBounds_toArray, List.set_cons_zero, List.set_cons_succ, i64_w, i32_w]
          rfl
        refine take_ (i := 10) (N := some 17) (v := ?_) (a' := ?_) #[true, true, true, true, true, true, true, true, true, true, true, false, false, false, false, false] rfl rfl (take_ofW HT_.out HW_.out (by kernel_rfl)) (fun _ _ _ h => h) (Or.inl ⟨by rfl, ?_⟩) hHeld ?_ ?_
        rotate_left
        · rintro w' ⟨s0, s1, s2, s3, s4, s5⟩
          go_simp
          with_reducible rfl
        rotate_left
        · simp only [Act.put, List.setIfInBounds_toArray, List.set_cons_zero, List.set_cons_succ, i64_w, i32_w]
          rfl
        refine one_ (i := 11) (N := some 18) #[true, true, true, true, true, true, true, true, true, true, true, true, false, false, false, false] rfl rfl (one_of HT_.out (by kernel_rfl)) (by decide) (fun K hK => ?_)
        refine goes_ Tryd.func32 (by kernel_rfl) rfl #[.agg #[.bool true, .string a1_1, .int .i64 a1_2]] (by rfl) rfl rfl (by (try simp only [List.map_toArray, List.map_cons, List.map_nil]); first | done | rfl | (simp only [List.length_drop, List.length_take]; rfl)) ?_
        with_reducible refine (dec_Dec_Zero.calls true a1_1 a1_2 t161 _ A9.out).mono ?_
        rintro e w12 ⟨rfl, hb⟩
        refine ⟨_, rfl, ?_⟩
        have n0_ := Aside0.mk (blk_below (g := gb158) (o := .cells #[.bool true, .string a0_1, .int .i64 a0_2] 23 (0, 0)) (by (with_reducible repeat (first | refine blk_drewN ?_ _ | refine blk_drew ?_ | refine blk_alloc ?_ _)); exact BK158.out) hb)
        have n1_ := Aside0.mk (blk_below (g := gb159) (o := .cells #[.bool true, .string a1_1, .int .i64 a1_2] 23 (0, 0)) (by (with_reducible repeat (first | refine blk_drewN ?_ _ | refine blk_drew ?_ | refine blk_alloc ?_ _)); exact BK159.out) hb)
        have n2_ := Aside0.mk (below_step (by repeat (first | (with_reducible first | exact HB.out | apply below_alloc | apply pw_below_drewN | apply below_drew1 | refine below_set ?_ GE158.out | refine below_set ?_ GE159.out) | exact HB.out)) hb)
        clear BK158
        clear BK159
        clear HB
        have BK158 := n0_
        have BK159 := n1_
        have HB := n2_
        clear n0_ n1_ n2_
        (try clear hb)
        (try clear hb2)
        (try clear hk)
        (try clear hi)
        refine hK.out _ _ ⟨(blk_cell BK158.out 0).trans rfl, (blk_cell BK158.out 1).trans rfl, (blk_cell BK158.out 2).trans rfl, (blk_cell BK159.out 0).trans rfl, (blk_cell BK159.out 1).trans rfl, (blk_cell BK159.out 2).trans rfl⟩ (fun hHeld => ?_)
        clear hK K
        refine norm_ (a' := ?_) ?_ ?_
        rotate_left
        · show Act.put _ (some 18) _ = _
          simp only [Act.put, List.setIfInBounds_toArray, List.set_cons_zero, List.set_cons_succ, i64_w, i32_w]
          rfl
        refine pure_ (i := 12) (N := some 19) (v := ?_) (a' := ?_) #[true, true, true, true, true, true, true, true, true, true, true, true, true, false, false, false] rfl rfl (any_of HT_.out (by kernel_rfl)) (fun _ _ _ h => h) (Or.inl ⟨by rfl, ?_⟩) ?_ ?_
        rotate_left
        · intro w'
          go_simp
          with_reducible rfl
        rotate_left
        · simp only [Act.put, List.setIfInBounds_toArray, List.set_cons_zero, List.set_cons_succ, i64_w, i32_w]
          rfl
        refine pure_ (i := 13) (N := some 20) (v := ?_) (a' := ?_) #[true, true, true, true, true, true, true, true, true, true, true, true, true, true, false, false] rfl rfl (any_of HT_.out (by kernel_rfl)) (fun _ _ _ h => h) (Or.inl ⟨by rfl, ?_⟩) ?_ ?_
        rotate_left
        · intro w'
          go_simp
          with_reducible rfl
        rotate_left
        · simp only [Act.put, List.setIfInBounds_toArray, List.set_cons_zero, List.set_cons_succ, i64_w, i32_w]
          rfl
        refine pure_ (i := 14) (N := some 5) (v := ?_) (a' := ?_) #[true, true, true, true, true, true, true, true, true, true, true, true, true, true, true, false] rfl rfl (any_of HT_.out (by kernel_rfl)) (fun _ _ _ h => h) (Or.inl ⟨by rfl, ?_⟩) ?_ ?_
        rotate_left
        · intro w'
          go_simp
          with_reducible rfl
        rotate_left
        · simp only [Act.put, List.setIfInBounds_toArray, List.set_cons_zero, List.set_cons_succ, i64_w, i32_w]
          rfl
        refine pure_ (i := 15) (N := some 6) (v := ?_) (a' := ?_) #[true, true, true, true, true, true, true, true, true, true, true, true, true, true, true, true] rfl rfl (any_of HT_.out (by kernel_rfl)) (fun _ _ _ h => h) (Or.inl ⟨by rfl, ?_⟩) ?_ ?_
        rotate_left
        · intro w'
          go_simp
          with_reducible rfl
        rotate_left
        · simp only [Act.put, List.setIfInBounds_toArray, List.set_cons_zero, List.set_cons_succ, i64_w, i32_w]
          rfl
        refine done_ (done_of HT_.out (by kernel_rfl)) ?_
        try go_wp2
        go_meet
        case rel => exact ⟨_, (!t160), (!t161), (by first | rfl | (simp; done) | (simp [*]; done)), (by first | rfl | (simp; done) | (simp [*]; done)), H', ⟨by first | omega | exact Nat.le_refl _⟩, ⟨by (with_reducible repeat (first | refine blk_drewN ?_ _ | refine blk_drew ?_ | refine blk_alloc ?_ _)); exact BK158.out⟩, ⟨by (with_reducible repeat (first | refine blk_drewN ?_ _ | refine blk_drew ?_ | refine blk_alloc ?_ _)); exact BK159.out⟩, ⟨by repeat (first | (with_reducible first | exact HB.out | apply below_alloc | apply pw_below_drewN | apply below_drew1 | refine below_set ?_ GE158.out | refine below_set ?_ GE159.out) | exact HB.out)⟩⟩
      · replace c8 := Bool.eq_false_iff.mpr c8
        subst c8
        have H1 : (dec_Dec_Compare.j0 k (!t160) false true a0_1 a0_2 false a1_1 a1_2) = some r := by rw [if_neg (show ¬ (false = true) by decide)] at H; exact H
        clear H
        have H := H1
        clear H1
        have H' := Aside0.mk H
        clear H
        try go_wp2
        have n0_ := Aside0.mk (blk_drew BK158.out)
        have n1_ := Aside0.mk (blk_drew BK159.out)
        have n2_ := Aside0.mk (below_drew1 HB.out)
        clear BK158
        clear BK159
        clear HB
        have BK158 := n0_
        have BK159 := n1_
        have HB := n2_
        clear n0_ n1_ n2_
        refine start_ (n := 16) (S := fun w' => w'.cell? ⟨gb158, 0, none⟩ = some (.bool true) ∧ w'.cell? ⟨gb158, 1, none⟩ = some (.string a0_1) ∧ w'.cell? ⟨gb158, 2, none⟩ = some (.int .i64 a0_2) ∧ w'.cell? ⟨gb159, 0, none⟩ = some (.bool false) ∧ w'.cell? ⟨gb159, 1, none⟩ = some (.string a1_1) ∧ w'.cell? ⟨gb159, 2, none⟩ = some (.int .i64 a1_2)) (ds := []) #[false, false, false, false, false, false, false, false, false, false, false, false, false, false, false, false] (by kernel_rfl) rfl rfl ⟨(blk_cell BK158.out 0).trans rfl, (blk_cell BK158.out 1).trans rfl, (blk_cell BK158.out 2).trans rfl, (blk_cell BK159.out 0).trans rfl, (blk_cell BK159.out 1).trans rfl, (blk_cell BK159.out 2).trans rfl⟩ (fun hHeld => ?_); refine with_tabW dec_Dec_Compare.tab1 dec_Dec_Compare.bits1 (fun HT_ HW_ => ?_)
        generalize w5.drew = w13 at BK158 BK159 HB hHeld ⊢
        refine pure_ (i := 0) (N := some 7) (v := ?_) (a' := ?_) #[true, false, false, false, false, false, false, false, false, false, false, false, false, false, false, false] rfl rfl (any_of HT_.out (by kernel_rfl)) (fun _ _ _ h => h) (Or.inl ⟨by rfl, ?_⟩) ?_ ?_
        rotate_left
        · intro w'
          go_simp
          with_reducible rfl
        rotate_left
        · simp only [Act.put, List.setIfInBounds_toArray, List.set_cons_zero, List.set_cons_succ, i64_w, i32_w]
          rfl
        refine pure_ (i := 7) (N := some 14) (v := ?_) (a' := ?_) #[true, false, false, false, false, false, false, true, false, false, false, false, false, false, false, false] rfl rfl (any_of HT_.out (by kernel_rfl)) (fun _ _ _ h => h) (Or.inl ⟨by rfl, ?_⟩) ?_ ?_
        rotate_left
        · intro w'
          go_simp
          with_reducible rfl
        rotate_left
        · simp only [Act.put, List.setIfInBounds_toArray, List.set_cons_zero, List.set_cons_succ, i64_w, i32_w]
          rfl
        refine take_ (i := 1) (N := some 8) (v := ?_) (a' := ?_) #[true, true, false, false, false, false, false, true, false, false, false, false, false, false, false, false] rfl rfl (take_ofW HT_.out HW_.out (by kernel_rfl)) (fun _ _ _ h => h) (Or.inl ⟨by rfl, ?_⟩) hHeld ?_ ?_
        rotate_left
        · rintro w' ⟨s0, s1, s2, s3, s4, s5⟩
          go_simp
          with_reducible rfl
        rotate_left
        · simp only [Act.put, List.setIfInBounds_toArray, List.set_cons_zero, List.set_cons_succ, i64_w, i32_w]
          rfl
        refine pure_ (i := 2) (N := some 9) (v := ?_) (a' := ?_) #[true, true, true, false, false, false, false, true, false, false, false, false, false, false, false, false] rfl rfl (any_of HT_.out (by kernel_rfl)) (fun _ _ _ h => h) (Or.inl ⟨by rfl, ?_⟩) ?_ ?_
        rotate_left
        · intro w'
          go_simp
          with_reducible rfl
        rotate_left
        · simp only [Act.put, List.setIfInBounds_toArray, List.set_cons_zero, List.set_cons_succ, i64_w, i32_w]
          rfl
        refine take_ (i := 3) (N := some 10) (v := ?_) (a' := ?_) #[true, true, true, true, false, false, false, true, false, false, false, false, false, false, false, false] rfl rfl (take_ofW HT_.out HW_.out (by kernel_rfl)) (fun _ _ _ h => h) (Or.inl ⟨by rfl, ?_⟩) hHeld ?_ ?_
        rotate_left
        · rintro w' ⟨s0, s1, s2, s3, s4, s5⟩
          go_simp
          with_reducible rfl
        rotate_left
        · simp only [Act.put, List.setIfInBounds_toArray, List.set_cons_zero, List.set_cons_succ, i64_w, i32_w]
          rfl
        refine take_ (i := 8) (N := some 15) (v := ?_) (a' := ?_) #[true, true, true, true, false, false, false, true, true, false, false, false, false, false, false, false] rfl rfl (take_ofW HT_.out HW_.out (by kernel_rfl)) (fun _ _ _ h => h) (Or.inl ⟨by rfl, ?_⟩) hHeld ?_ ?_
        rotate_left
        · rintro w' ⟨s0, s1, s2, s3, s4, s5⟩
          go_simp
          with_reducible rfl
        rotate_left
        · simp only [Act.put, List.setIfInBounds_toArray, List.set_cons_zero, List.set_cons_succ, i64_w, i32_w]
          rfl
        refine one_ (i := 4) (N := some 11) #[true, true, true, true, true, false, false, true, true, false, false, false, false, false, false, false] rfl rfl (one_of HT_.out (by kernel_rfl)) (by decide) (fun K hK => ?_)
        refine goes_ Tryd.func32 (by kernel_rfl) rfl #[.agg #[.bool true, .string a0_1, .int .i64 a0_2]] (by rfl) rfl rfl (by (try simp only [List.map_toArray, List.map_cons, List.map_nil]); first | done | rfl | (simp only [List.length_drop, List.length_take]; rfl)) ?_
        with_reducible refine (dec_Dec_Zero.calls true a0_1 a0_2 t160 _ A7.out).mono ?_
        rintro e w14 ⟨rfl, hb⟩
        refine ⟨_, rfl, ?_⟩
        have n0_ := Aside0.mk (blk_below (g := gb158) (o := .cells #[.bool true, .string a0_1, .int .i64 a0_2] 23 (0, 0)) (by (with_reducible repeat (first | refine blk_drewN ?_ _ | refine blk_drew ?_ | refine blk_alloc ?_ _)); exact BK158.out) hb)
        have n1_ := Aside0.mk (blk_below (g := gb159) (o := .cells #[.bool false, .string a1_1, .int .i64 a1_2] 23 (0, 0)) (by (with_reducible repeat (first | refine blk_drewN ?_ _ | refine blk_drew ?_ | refine blk_alloc ?_ _)); exact BK159.out) hb)
        have n2_ := Aside0.mk (below_step (by repeat (first | (with_reducible first | exact HB.out | apply below_alloc | apply pw_below_drewN | apply below_drew1 | refine below_set ?_ GE158.out | refine below_set ?_ GE159.out) | exact HB.out)) hb)
        clear BK158
        clear BK159
        clear HB
        have BK158 := n0_
        have BK159 := n1_
        have HB := n2_
        clear n0_ n1_ n2_
        (try clear hb)
        (try clear hb2)
        (try clear hk)
        (try clear hi)
        refine hK.out _ _ ⟨(blk_cell BK158.out 0).trans rfl, (blk_cell BK158.out 1).trans rfl, (blk_cell BK158.out 2).trans rfl, (blk_cell BK159.out 0).trans rfl, (blk_cell BK159.out 1).trans rfl, (blk_cell BK159.out 2).trans rfl⟩ (fun hHeld => ?_)
        clear hK K
        refine norm_ (a' := ?_) ?_ ?_
        rotate_left
        · show Act.put _ (some 11) _ = _
          simp only [Act.put, List.setIfInBounds_toArray, List.set_cons_zero, List.set_cons_succ, i64_w, i32_w]
          rfl
        refine pure_ (i := 5) (N := some 12) (v := ?_) (a' := ?_) #[true, true, true, true, true, true, false, true, true, false, false, false, false, false, false, false] rfl rfl (any_of HT_.out (by kernel_rfl)) (fun _ _ _ h => h) (Or.inl ⟨by rfl, ?_⟩) ?_ ?_
        rotate_left
        · intro w'
          go_simp
          with_reducible rfl
        rotate_left
        · simp only [Act.put, List.setIfInBounds_toArray, List.set_cons_zero, List.set_cons_succ, i64_w, i32_w]
          rfl
        refine pure_ (i := 6) (N := some 13) (v := ?_) (a' := ?_) #[true, true, true, true, true, true, true, true, true, false, false, false, false, false, false, false] rfl rfl (any_of HT_.out (by kernel_rfl)) (fun _ _ _ h => h) (Or.inl ⟨by rfl, ?_⟩) ?_ ?_
        rotate_left
        · intro w'
          go_simp
          with_reducible rfl
        rotate_left
        · simp only [Act.put, List.setIfInBounds_toArray, List.set_cons_zero, List.set_cons_succ, i64_w, i32_w]
          rfl
        refine pure_ (i := 9) (N := some 16) (v := ?_) (a' := ?_) #[true, true, true, true, true, true, true, true, true, true, false, false, false, false, false, false] rfl rfl (any_of HT_.out (by kernel_rfl)) (fun _ _ _ h => h) (Or.inl ⟨by rfl, ?_⟩) ?_ ?_
        rotate_left
        · intro w'
          go_simp
          with_reducible rfl
        rotate_left
        · simp only [Act.put, List.setIfInBounds_toArray, List.set_cons_zero, List.set_cons_succ, i64_w, i32_w]
          rfl
        refine pure_ (i := 10) (N := some 17) (v := undef) (a' := ?_) #[true, true, true, true, true, true, true, true, true, true, true, false, false, false, false, false] rfl rfl (any_of HT_.out (by kernel_rfl)) (fun _ _ _ h => h) (Or.inr ⟨by rfl, rfl⟩) ?_ ?_
        rotate_left
        · simp only [Act.put, List.setIfInBounds_toArray, List.set_cons_zero, List.set_cons_succ, i64_w, i32_w]
          rfl
        refine pure_ (i := 11) (N := some 18) (v := undef) (a' := ?_) #[true, true, true, true, true, true, true, true, true, true, true, true, false, false, false, false] rfl rfl (any_of HT_.out (by kernel_rfl)) (fun _ _ _ h => h) (Or.inr ⟨by rfl, rfl⟩) ?_ ?_
        rotate_left
        · simp only [Act.put, List.setIfInBounds_toArray, List.set_cons_zero, List.set_cons_succ, i64_w, i32_w]
          rfl
        refine pure_ (i := 12) (N := some 19) (v := undef) (a' := ?_) #[true, true, true, true, true, true, true, true, true, true, true, true, true, false, false, false] rfl rfl (any_of HT_.out (by kernel_rfl)) (fun _ _ _ h => h) (Or.inr ⟨by rfl, rfl⟩) ?_ ?_
        rotate_left
        · simp only [Act.put, List.setIfInBounds_toArray, List.set_cons_zero, List.set_cons_succ, i64_w, i32_w]
          rfl
        refine pure_ (i := 13) (N := some 20) (v := ?_) (a' := ?_) #[true, true, true, true, true, true, true, true, true, true, true, true, true, true, false, false] rfl rfl (any_of HT_.out (by kernel_rfl)) (fun _ _ _ h => h) (Or.inl ⟨by rfl, ?_⟩) ?_ ?_
        rotate_left
        · intro w'
          go_simp
          with_reducible rfl
        rotate_left
        · simp only [Act.put, List.setIfInBounds_toArray, List.set_cons_zero, List.set_cons_succ, i64_w, i32_w]
          rfl
        refine pure_ (i := 14) (N := some 5) (v := ?_) (a' := ?_) #[true, true, true, true, true, true, true, true, true, true, true, true, true, true, true, false] rfl rfl (any_of HT_.out (by kernel_rfl)) (fun _ _ _ h => h) (Or.inl ⟨by rfl, ?_⟩) ?_ ?_
        rotate_left
        · intro w'
          go_simp
          with_reducible rfl
        rotate_left
        · simp only [Act.put, List.setIfInBounds_toArray, List.set_cons_zero, List.set_cons_succ, i64_w, i32_w]
          rfl
        refine pure_ (i := 15) (N := some 6) (v := ?_) (a' := ?_) #[true, true, true, true, true, true, true, true, true, true, true, true, true, true, true, true] rfl rfl (any_of HT_.out (by kernel_rfl)) (fun _ _ _ h => h) (Or.inl ⟨by rfl, ?_⟩) ?_ ?_
        rotate_left
        · intro w'
          go_simp
          with_reducible rfl
        rotate_left
        · simp only [Act.put, List.setIfInBounds_toArray, List.set_cons_zero, List.set_cons_succ, i64_w, i32_w]
          rfl
        refine done_ (done_of HT_.out (by kernel_rfl)) ?_
        try go_wp2
        go_meet
        case rel => exact ⟨_, (!t160), (false), (by first | rfl | (simp; done) | (simp [*]; done)), (by first | rfl | (simp; done) | (simp [*]; done)), H', ⟨by first | omega | exact Nat.le_refl _⟩, ⟨by (with_reducible repeat (first | refine blk_drewN ?_ _ | refine blk_drew ?_ | refine blk_alloc ?_ _)); exact BK158.out⟩, ⟨by (with_reducible repeat (first | refine blk_drewN ?_ _ | refine blk_drew ?_ | refine blk_alloc ?_ _)); exact BK159.out⟩, ⟨by repeat (first | (with_reducible first | exact HB.out | apply below_alloc | apply pw_below_drewN | apply below_drew1 | refine below_set ?_ GE158.out | refine below_set ?_ GE159.out) | exact HB.out)⟩⟩
    · replace c6 := Bool.eq_false_iff.mpr c6
      subst c6
      have H1 : (if a1_0 = true then ((dec_Dec_Zero.f a1_0 a1_1 a1_2).bind fun t162 => (dec_Dec_Compare.j0 k false (!t162) false a0_1 a0_2 a1_0 a1_1 a1_2)) else (dec_Dec_Compare.j0 k false false false a0_1 a0_2 a1_0 a1_1 a1_2)) = some r := by rw [if_neg (show ¬ (false = true) by decide)] at H; exact H
      clear H
      have H := H1
      clear H1
      by_cases c15 : a1_0 = true
      · subst c15
        have H1 : ((dec_Dec_Zero.f true a1_1 a1_2).bind fun t162 => (dec_Dec_Compare.j0 k false (!t162) false a0_1 a0_2 true a1_1 a1_2)) = some r := by rw [if_pos rfl] at H; exact H
        clear H
        have H := H1
        clear H1
        replace H := Option.bind_eq_some_iff.mp H
        obtain ⟨t162, A160, H⟩ := H
        replace H : (dec_Dec_Compare.j0 k false (!t162) false a0_1 a0_2 true a1_1 a1_2) = some r := H
        have A16 := Aside0.mk A160
        clear A160
        have H' := Aside0.mk H
        clear H
        try go_wp2
        have n0_ := Aside0.mk (blk_drew BK158.out)
        have n1_ := Aside0.mk (blk_drew BK159.out)
        have n2_ := Aside0.mk (below_drew1 HB.out)
        clear BK158
        clear BK159
        clear HB
        have BK158 := n0_
        have BK159 := n1_
        have HB := n2_
        clear n0_ n1_ n2_
        refine start_ (n := 16) (S := fun w' => w'.cell? ⟨gb158, 0, none⟩ = some (.bool false) ∧ w'.cell? ⟨gb158, 1, none⟩ = some (.string a0_1) ∧ w'.cell? ⟨gb158, 2, none⟩ = some (.int .i64 a0_2) ∧ w'.cell? ⟨gb159, 0, none⟩ = some (.bool true) ∧ w'.cell? ⟨gb159, 1, none⟩ = some (.string a1_1) ∧ w'.cell? ⟨gb159, 2, none⟩ = some (.int .i64 a1_2)) (ds := []) #[false, false, false, false, false, false, false, false, false, false, false, false, false, false, false, false] (by kernel_rfl) rfl rfl ⟨(blk_cell BK158.out 0).trans rfl, (blk_cell BK158.out 1).trans rfl, (blk_cell BK158.out 2).trans rfl, (blk_cell BK159.out 0).trans rfl, (blk_cell BK159.out 1).trans rfl, (blk_cell BK159.out 2).trans rfl⟩ (fun hHeld => ?_); refine with_tabW dec_Dec_Compare.tab1 dec_Dec_Compare.bits1 (fun HT_ HW_ => ?_)
        generalize w5.drew = w17 at BK158 BK159 HB hHeld ⊢
        refine pure_ (i := 0) (N := some 7) (v := ?_) (a' := ?_) #[true, false, false, false, false, false, false, false, false, false, false, false, false, false, false, false] rfl rfl (any_of HT_.out (by kernel_rfl)) (fun _ _ _ h => h) (Or.inl ⟨by rfl, ?_⟩) ?_ ?_
        rotate_left
        · intro w'
          go_simp
          with_reducible rfl
        rotate_left
        · simp only [Act.put, List.setIfInBounds_toArray, List.set_cons_zero, List.set_cons_succ, i64_w, i32_w]
          rfl
        refine pure_ (i := 7) (N := some 14) (v := ?_) (a' := ?_) #[true, false, false, false, false, false, false, true, false, false, false, false, false, false, false, false] rfl rfl (any_of HT_.out (by kernel_rfl)) (fun _ _ _ h => h) (Or.inl ⟨by rfl, ?_⟩) ?_ ?_
        rotate_left
        · intro w'
          go_simp
          with_reducible rfl
        rotate_left
        · simp only [Act.put, List.setIfInBounds_toArray, List.set_cons_zero, List.set_cons_succ, i64_w, i32_w]
          rfl
        refine take_ (i := 1) (N := some 8) (v := ?_) (a' := ?_) #[true, true, false, false, false, false, false, true, false, false, false, false, false, false, false, false] rfl rfl (take_ofW HT_.out HW_.out (by kernel_rfl)) (fun _ _ _ h => h) (Or.inl ⟨by rfl, ?_⟩) hHeld ?_ ?_
        rotate_left
        · rintro w' ⟨s0, s1, s2, s3, s4, s5⟩
          go_simp
          with_reducible rfl
        rotate_left
        · simp only [Act.put, List.setIfInBounds_toArray, List.set_cons_zero, List.set_cons_succ, i64_w, i32_w]
          rfl
        refine pure_ (i := 2) (N := some 9) (v := ?_) (a' := ?_) #[true, true, true, false, false, false, false, true, false, false, false, false, false, false, false, false] rfl rfl (any_of HT_.out (by kernel_rfl)) (fun _ _ _ h => h) (Or.inl ⟨by rfl, ?_⟩) ?_ ?_
        rotate_left
        · intro w'
          go_simp
          with_reducible rfl
        rotate_left
        · simp only [Act.put, List.setIfInBounds_toArray, List.set_cons_zero, List.set_cons_succ, i64_w, i32_w]
          rfl
        refine pure_ (i := 3) (N := some 10) (v := undef) (a' := ?_) #[true, true, true, true, false, false, false, true, false, false, false, false, false, false, false, false] rfl rfl (any_of HT_.out (by kernel_rfl)) (fun _ _ _ h => h) (Or.inr ⟨by rfl, rfl⟩) ?_ ?_
        rotate_left
        · simp only [Act.put, List.setIfInBounds_toArray, List.set_cons_zero, List.set_cons_succ, i64_w, i32_w]
          rfl
        refine pure_ (i := 4) (N := some 11) (v := undef) (a' := ?_) #[true, true, true, true, true, false, false, true, false, false, false, false, false, false, false, false] rfl rfl (any_of HT_.out (by kernel_rfl)) (fun _ _ _ h => h) (Or.inr ⟨by rfl, rfl⟩) ?_ ?_
        rotate_left
        · simp only [Act.put, List.setIfInBounds_toArray, List.set_cons_zero, List.set_cons_succ, i64_w, i32_w]
          rfl
        refine pure_ (i := 5) (N := some 12) (v := undef) (a' := ?_) #[true, true, true, true, true, true, false, true, false, false, false, false, false, false, false, false] rfl rfl (any_of HT_.out (by kernel_rfl)) (fun _ _ _ h => h) (Or.inr ⟨by rfl, rfl⟩) ?_ ?_
        rotate_left
        · simp only [Act.put, List.setIfInBounds_toArray, List.set_cons_zero, List.set_cons_succ, i64_w, i32_w]
          rfl
        refine pure_ (i := 6) (N := some 13) (v := ?_) (a' := ?_) #[true, true, true, true, true, true, true, true, false, false, false, false, false, false, false, false] rfl rfl (any_of HT_.out (by kernel_rfl)) (fun _ _ _ h => h) (Or.inl ⟨by rfl, ?_⟩) ?_ ?_
        rotate_left
        · intro w'
          go_simp
          with_reducible rfl
        rotate_left
        · simp only [Act.put, List.setIfInBounds_toArray, List.set_cons_zero, List.set_cons_succ, i64_w, i32_w]
          rfl
        refine take_ (i := 8) (N := some 15) (v := ?_) (a' := ?_) #[true, true, true, true, true, true, true, true, true, false, false, false, false, false, false, false] rfl rfl (take_ofW HT_.out HW_.out (by kernel_rfl)) (fun _ _ _ h => h) (Or.inl ⟨by rfl, ?_⟩) hHeld ?_ ?_
        rotate_left
        · rintro w' ⟨s0, s1, s2, s3, s4, s5⟩
          go_simp
          with_reducible rfl
        rotate_left
        · simp only [Act.put, List.setIfInBounds_toArray, List.set_cons_zero, List.set_cons_succ, i64_w, i32_w]
          rfl
        refine pure_ (i := 9) (N := some 16) (v := ?_) (a' := ?_) #[true, true, true, true, true, true, true, true, true, true, false, false, false, false, false, false] rfl rfl (any_of HT_.out (by kernel_rfl)) (fun _ _ _ h => h) (Or.inl ⟨by rfl, ?_⟩) ?_ ?_
        rotate_left
        · intro w'
          go_simp
          with_reducible rfl
        rotate_left
        · simp only [Act.put, List.setIfInBounds_toArray, List.set_cons_zero, List.set_cons_succ, i64_w, i32_w]
          rfl
        refine take_ (i := 10) (N := some 17) (v := ?_) (a' := ?_) #[true, true, true, true, true, true, true, true, true, true, true, false, false, false, false, false] rfl rfl (take_ofW HT_.out HW_.out (by kernel_rfl)) (fun _ _ _ h => h) (Or.inl ⟨by rfl, ?_⟩) hHeld ?_ ?_
        rotate_left
        · rintro w' ⟨s0, s1, s2, s3, s4, s5⟩
          go_simp
          with_reducible rfl
        rotate_left
        · simp only [Act.put, List.setIfInBounds_toArray, List.set_cons_zero, List.set_cons_succ, i64_w, i32_w]
          rfl
        refine one_ (i := 11) (N := some 18) #[true, true, true, true, true, true, true, true, true, true, true, true, false, false, false, false] rfl rfl (one_of HT_.out (by kernel_rfl)) (by decide) (fun K hK => ?_)
        refine goes_ Tryd.func32 (by kernel_rfl) rfl #[.agg #[.bool true, .string a1_1, .int .i64 a1_2]] (by rfl) rfl rfl (by (try simp only [List.map_toArray, List.map_cons, List.map_nil]); first | done | rfl | (simp only [List.length_drop, List.length_take]; rfl)) ?_
        with_reducible refine (dec_Dec_Zero.calls true a1_1 a1_2 t162 _ A16.out).mono ?_
        rintro e w18 ⟨rfl, hb⟩
        refine ⟨_, rfl, ?_⟩
        have n0_ := Aside0.mk (blk_below (g := gb158) (o := .cells #[.bool false, .string a0_1, .int .i64 a0_2] 23 (0, 0)) (by (with_reducible repeat (first | refine blk_drewN ?_ _ | refine blk_drew ?_ | refine blk_alloc ?_ _)); exact BK158.out) hb)
        have n1_ := Aside0.mk (blk_below (g := gb159) (o := .cells #[.bool true, .string a1_1, .int .i64 a1_2] 23 (0, 0)) (by (with_reducible repeat (first | refine blk_drewN ?_ _ | refine blk_drew ?_ | refine blk_alloc ?_ _)); exact BK159.out) hb)
        have n2_ := Aside0.mk (below_step (by repeat (first | (with_reducible first | exact HB.out | apply below_alloc | apply pw_below_drewN | apply below_drew1 | refine below_set ?_ GE158.out | refine below_set ?_ GE159.out) | exact HB.out)) hb)
        clear BK158
        clear BK159
        clear HB
        have BK158 := n0_
        have BK159 := n1_
        have HB := n2_
        clear n0_ n1_ n2_
        (try clear hb)
        (try clear hb2)
        (try clear hk)
        (try clear hi)
        refine hK.out _ _ ⟨(blk_cell BK158.out 0).trans rfl, (blk_cell BK158.out 1).trans rfl, (blk_cell BK158.out 2).trans rfl, (blk_cell BK159.out 0).trans rfl, (blk_cell BK159.out 1).trans rfl, (blk_cell BK159.out 2).trans rfl⟩ (fun hHeld => ?_)
        clear hK K
        refine norm_ (a' := ?_) ?_ ?_
        rotate_left
        · show Act.put _ (some 18) _ = _
          simp only [Act.put, List.setIfInBounds_toArray, List.set_cons_zero, List.set_cons_succ, i64_w, i32_w]
          rfl
        refine pure_ (i := 12) (N := some 19) (v := ?_) (a' := ?_) #[true, true, true, true, true, true, true, true, true, true, true, true, true, false, false, false] rfl rfl (any_of HT_.out (by kernel_rfl)) (fun _ _ _ h => h) (Or.inl ⟨by rfl, ?_⟩) ?_ ?_
        rotate_left
        · intro w'
          go_simp
          with_reducible rfl
        rotate_left
        · simp only [Act.put, List.setIfInBounds_toArray, List.set_cons_zero, List.set_cons_succ, i64_w, i32_w]
          rfl
        refine pure_ (i := 13) (N := some 20) (v := ?_) (a' := ?_) #[true, true, true, true, true, true, true, true, true, true, true, true, true, true, false, false] rfl rfl (any_of HT_.out (by kernel_rfl)) (fun _ _ _ h => h) (Or.inl ⟨by rfl, ?_⟩) ?_ ?_
        rotate_left
        · intro w'
          go_simp
          with_reducible rfl
        rotate_left
        · simp only [Act.put, List.setIfInBounds_toArray, List.set_cons_zero, List.set_cons_succ, i64_w, i32_w]
          rfl
        refine pure_ (i := 14) (N := some 5) (v := ?_) (a' := ?_) #[true, true, true, true, true, true, true, true, true, true, true, true, true, true, true, false] rfl rfl (any_of HT_.out (by kernel_rfl)) (fun _ _ _ h => h) (Or.inl ⟨by rfl, ?_⟩) ?_ ?_
        rotate_left
        · intro w'
          go_simp
          with_reducible rfl
        rotate_left
        · simp only [Act.put, List.setIfInBounds_toArray, List.set_cons_zero, List.set_cons_succ, i64_w, i32_w]
          rfl
        refine pure_ (i := 15) (N := some 6) (v := ?_) (a' := ?_) #[true, true, true, true, true, true, true, true, true, true, true, true, true, true, true, true] rfl rfl (any_of HT_.out (by kernel_rfl)) (fun _ _ _ h => h) (Or.inl ⟨by rfl, ?_⟩) ?_ ?_
        rotate_left
        · intro w'
          go_simp
          with_reducible rfl
        rotate_left
        · simp only [Act.put, List.setIfInBounds_toArray, List.set_cons_zero, List.set_cons_succ, i64_w, i32_w]
          rfl
        refine done_ (done_of HT_.out (by kernel_rfl)) ?_
        try go_wp2
        go_meet
        case rel => exact ⟨_, (false), (!t162), (by first | rfl | (simp; done) | (simp [*]; done)), (by first | rfl | (simp; done) | (simp [*]; done)), H', ⟨by first | omega | exact Nat.le_refl _⟩, ⟨by (with_reducible repeat (first | refine blk_drewN ?_ _ | refine blk_drew ?_ | refine blk_alloc ?_ _)); exact BK158.out⟩, ⟨by (with_reducible repeat (first | refine blk_drewN ?_ _ | refine blk_drew ?_ | refine blk_alloc ?_ _)); exact BK159.out⟩, ⟨by repeat (first | (with_reducible first | exact HB.out | apply below_alloc | apply pw_below_drewN | apply below_drew1 | refine below_set ?_ GE158.out | refine below_set ?_ GE159.out) | exact HB.out)⟩⟩
      · replace c15 := Bool.eq_false_iff.mpr c15
        subst c15
        have H1 : (dec_Dec_Compare.j0 k false false false a0_1 a0_2 false a1_1 a1_2) = some r := by rw [if_neg (show ¬ (false = true) by decide)] at H; exact H
        clear H
        have H := H1
        clear H1
        have H' := Aside0.mk H
        clear H
        try go_wp2
        have n0_ := Aside0.mk (blk_drew BK158.out)
        have n1_ := Aside0.mk (blk_drew BK159.out)
        have n2_ := Aside0.mk (below_drew1 HB.out)
        clear BK158
        clear BK159
        clear HB
        have BK158 := n0_
        have BK159 := n1_
        have HB := n2_
        clear n0_ n1_ n2_
        refine start_ (n := 16) (S := fun w' => w'.cell? ⟨gb158, 0, none⟩ = some (.bool false) ∧ w'.cell? ⟨gb158, 1, none⟩ = some (.string a0_1) ∧ w'.cell? ⟨gb158, 2, none⟩ = some (.int .i64 a0_2) ∧ w'.cell? ⟨gb159, 0, none⟩ = some (.bool false) ∧ w'.cell? ⟨gb159, 1, none⟩ = some (.string a1_1) ∧ w'.cell? ⟨gb159, 2, none⟩ = some (.int .i64 a1_2)) (ds := []) #[false, false, false, false, false, false, false, false, false, false, false, false, false, false, false, false] (by kernel_rfl) rfl rfl ⟨(blk_cell BK158.out 0).trans rfl, (blk_cell BK158.out 1).trans rfl, (blk_cell BK158.out 2).trans rfl, (blk_cell BK159.out 0).trans rfl, (blk_cell BK159.out 1).trans rfl, (blk_cell BK159.out 2).trans rfl⟩ (fun hHeld => ?_); refine with_tabW dec_Dec_Compare.tab1 dec_Dec_Compare.bits1 (fun HT_ HW_ => ?_)
        generalize w5.drew = w19 at BK158 BK159 HB hHeld ⊢
        refine pure_ (i := 0) (N := some 7) (v := ?_) (a' := ?_) #[true, false, false, false, false, false, false, false, false, false, false, false, false, false, false, false] rfl rfl (any_of HT_.out (by kernel_rfl)) (fun _ _ _ h => h) (Or.inl ⟨by rfl, ?_⟩) ?_ ?_
        rotate_left
        · intro w'
          go_simp
          with_reducible rfl
        rotate_left
        · simp only [Act.put, List.setIfInBounds_toArray, List.set_cons_zero, List.set_cons_succ, i64_w, i32_w]
          rfl
        refine pure_ (i := 7) (N := some 14) (v := ?_) (a' := ?_) #[true, false, false, false, false, false, false, true, false, false, false, false, false, false, false, false] rfl rfl (any_of HT_.out (by kernel_rfl)) (fun _ _ _ h => h) (Or.inl ⟨by rfl, ?_⟩) ?_ ?_
        rotate_left
        · intro w'
          go_simp
          with_reducible rfl
        rotate_left
        · simp only [Act.put, List.setIfInBounds_toArray, List.set_cons_zero, List.set_cons_succ, i64_w, i32_w]
          rfl
        refine take_ (i := 1) (N := some 8) (v := ?_) (a' := ?_) #[true, true, false, false, false, false, false, true, false, false, false, false, false, false, false, false] rfl rfl (take_ofW HT_.out HW_.out (by kernel_rfl)) (fun _ _ _ h => h) (Or.inl ⟨by rfl, ?_⟩) hHeld ?_ ?_
        rotate_left
        · rintro w' ⟨s0, s1, s2, s3, s4, s5⟩
          go_simp
          with_reducible rfl
        rotate_left
        · simp only [Act.put, List.setIfInBounds_toArray, List.set_cons_zero, List.set_cons_succ, i64_w, i32_w]
          rfl
        refine pure_ (i := 2) (N := some 9) (v := ?_) (a' := ?_) #[true, true, true, false, false, false, false, true, false, false, false, false, false, false, false, false] rfl rfl (any_of HT_.out (by kernel_rfl)) (fun _ _ _ h => h) (Or.inl ⟨by rfl, ?_⟩) ?_ ?_
        rotate_left
        · intro w'
          go_simp
          with_reducible rfl
        rotate_left
        · simp only [Act.put, List.setIfInBounds_toArray, List.set_cons_zero, List.set_cons_succ, i64_w, i32_w]
          rfl
        refine pure_ (i := 3) (N := some 10) (v := undef) (a' := ?_) #[true, true, true, true, false, false, false, true, false, false, false, false, false, false, false, false] rfl rfl (any_of HT_.out (by kernel_rfl)) (fun _ _ _ h => h) (Or.inr ⟨by rfl, rfl⟩) ?_ ?_
        rotate_left
        · simp only [Act.put, List.setIfInBounds_toArray, List.set_cons_zero, List.set_cons_succ, i64_w, i32_w]
          rfl
        refine pure_ (i := 4) (N := some 11) (v := undef) (a' := ?_) #[true, true, true, true, true, false, false, true, false, false, false, false, false, false, false, false] rfl rfl (any_of HT_.out (by kernel_rfl)) (fun _ _ _ h => h) (Or.inr ⟨by rfl, rfl⟩) ?_ ?_
        rotate_left
        · simp only [Act.put, List.setIfInBounds_toArray, List.set_cons_zero, List.set_cons_succ, i64_w, i32_w]
          rfl
        refine pure_ (i := 5) (N := some 12) (v := undef) (a' := ?_) #[true, true, true, true, true, true, false, true, false, false, false, false, false, false, false, false] rfl rfl (any_of HT_.out (by kernel_rfl)) (fun _ _ _ h => h) (Or.inr ⟨by rfl, rfl⟩) ?_ ?_
        rotate_left
        · simp only [Act.put, List.setIfInBounds_toArray, List.set_cons_zero, List.set_cons_succ, i64_w, i32_w]
          rfl
        refine pure_ (i := 6) (N := some 13) (v := ?_) (a' := ?_) #[true, true, true, true, true, true, true, true, false, false, false, false, false, false, false, false] rfl rfl (any_of HT_.out (by kernel_rfl)) (fun _ _ _ h => h) (Or.inl ⟨by rfl, ?_⟩) ?_ ?_
        rotate_left
        · intro w'
          go_simp
          with_reducible rfl
        rotate_left
        · simp only [Act.put, List.setIfInBounds_toArray, List.set_cons_zero, List.set_cons_succ, i64_w, i32_w]
          rfl
        refine take_ (i := 8) (N := some 15) (v := ?_) (a' := ?_) #[true, true, true, true, true, true, true, true, true, false, false, false, false, false, false, false] rfl rfl (take_ofW HT_.out HW_.out (by kernel_rfl)) (fun _ _ _ h => h) (Or.inl ⟨by rfl, ?_⟩) hHeld ?_ ?_
        rotate_left
        · rintro w' ⟨s0, s1, s2, s3, s4, s5⟩
          go_simp
          with_reducible rfl
        rotate_left
        · simp only [Act.put, List.setIfInBounds_toArray, List.set_cons_zero, List.set_cons_succ, i64_w, i32_w]
          rfl
        refine pure_ (i := 9) (N := some 16) (v := ?_) (a' := ?_) #[true, true, true, true, true, true, true, true, true, true, false, false, false, false, false, false] rfl rfl (any_of HT_.out (by kernel_rfl)) (fun _ _ _ h => h) (Or.inl ⟨by rfl, ?_⟩) ?_ ?_
        rotate_left
        · intro w'
          go_simp
          with_reducible rfl
        rotate_left
        · simp only [Act.put, List.setIfInBounds_toArray, List.set_cons_zero, List.set_cons_succ, i64_w, i32_w]
          rfl
        refine pure_ (i := 10) (N := some 17) (v := undef) (a' := ?_) #[true, true, true, true, true, true, true, true, true, true, true, false, false, false, false, false] rfl rfl (any_of HT_.out (by kernel_rfl)) (fun _ _ _ h => h) (Or.inr ⟨by rfl, rfl⟩) ?_ ?_
        rotate_left
        · simp only [Act.put, List.setIfInBounds_toArray, List.set_cons_zero, List.set_cons_succ, i64_w, i32_w]
          rfl
        refine pure_ (i := 11) (N := some 18) (v := undef) (a' := ?_) #[true, true, true, true, true, true, true, true, true, true, true, true, false, false, false, false] rfl rfl (any_of HT_.out (by kernel_rfl)) (fun _ _ _ h => h) (Or.inr ⟨by rfl, rfl⟩) ?_ ?_
        rotate_left
        · simp only [Act.put, List.setIfInBounds_toArray, List.set_cons_zero, List.set_cons_succ, i64_w, i32_w]
          rfl
        refine pure_ (i := 12) (N := some 19) (v := undef) (a' := ?_) #[true, true, true, true, true, true, true, true, true, true, true, true, true, false, false, false] rfl rfl (any_of HT_.out (by kernel_rfl)) (fun _ _ _ h => h) (Or.inr ⟨by rfl, rfl⟩) ?_ ?_
        rotate_left
        · simp only [Act.put, List.setIfInBounds_toArray, List.set_cons_zero, List.set_cons_succ, i64_w, i32_w]
          rfl
        refine pure_ (i := 13) (N := some 20) (v := ?_) (a' := ?_) #[true, true, true, true, true, true, true, true, true, true, true, true, true, true, false, false] rfl rfl (any_of HT_.out (by kernel_rfl)) (fun _ _ _ h => h) (Or.inl ⟨by rfl, ?_⟩) ?_ ?_
        rotate_left
        · intro w'
          go_simp
          with_reducible rfl
        rotate_left
        · simp only [Act.put, List.setIfInBounds_toArray, List.set_cons_zero, List.set_cons_succ, i64_w, i32_w]
          rfl
        refine pure_ (i := 14) (N := some 5) (v := ?_) (a' := ?_) #[true, true, true, true, true, true, true, true, true, true, true, true, true, true, true, false] rfl rfl (any_of HT_.out (by kernel_rfl)) (fun _ _ _ h => h) (Or.inl ⟨by rfl, ?_⟩) ?_ ?_
        rotate_left
        · intro w'
          go_simp
          with_reducible rfl
        rotate_left
        · simp only [Act.put, List.setIfInBounds_toArray, List.set_cons_zero, List.set_cons_succ, i64_w, i32_w]
          rfl
        refine pure_ (i := 15) (N := some 6) (v := ?_) (a' := ?_) #[true, true, true, true, true, true, true, true, true, true, true, true, true, true, true, true] rfl rfl (any_of HT_.out (by kernel_rfl)) (fun _ _ _ h => h) (Or.inl ⟨by rfl, ?_⟩) ?_ ?_
        rotate_left
        · intro w'
          go_simp
          with_reducible rfl
        rotate_left
        · simp only [Act.put, List.setIfInBounds_toArray, List.set_cons_zero, List.set_cons_succ, i64_w, i32_w]
          rfl
        refine done_ (done_of HT_.out (by kernel_rfl)) ?_
        try go_wp2
        go_meet
        case rel => exact ⟨_, (false), (false), (by first | rfl | (simp; done) | (simp [*]; done)), (by first | rfl | (simp; done) | (simp [*]; done)), H', ⟨by first | omega | exact Nat.le_refl _⟩, ⟨by (with_reducible repeat (first | refine blk_drewN ?_ _ | refine blk_drew ?_ | refine blk_alloc ?_ _)); exact BK158.out⟩, ⟨by (with_reducible repeat (first | refine blk_drewN ?_ _ | refine blk_drew ?_ | refine blk_alloc ?_ _)); exact BK159.out⟩, ⟨by repeat (first | (with_reducible first | exact HB.out | apply below_alloc | apply pw_below_drewN | apply below_drew1 | refine below_set ?_ GE158.out | refine below_set ?_ GE159.out) | exact HB.out)⟩⟩
  case rest =>
    clear HC3
    try clear c1
    try clear p2
    try clear c3
    try clear c6
    try clear c8
    try clear c15
    obtain ⟨kq, x5_2, x6_2, rfl, rfl, HA, HJ2, BK158, BK159, HB⟩ := hcut
    cases kq with
    | zero => exact absurd HA.out (by simp [dec_Dec_Compare.j0])
    | succ kj2 =>
      have H := HA.out
      clear HA
      simp only [dec_Dec_Compare.j0] at H
      have HC20 := Aside0.mk H
      clear H
      go_upto_region 2 with (fail)
      go_cut [21] (fun v21 wc => ∃ (kq : Nat) (x21_19 : Bool), v21 = .bool x21_19 ∧ Aside0 (dec_Dec_Compare.j1 kq x5_2 x6_2 x21_19 a0_0 a0_1 a0_2 a1_0 a1_1 a1_2 = some r) ∧ Aside0 (kq ≤ kj2) ∧ Aside0 (wc.heap[gb158]? = some (.cells #[.bool a0_0, .string a0_1, .int .i64 a0_2] 23 (0, 0))) ∧ Aside0 (wc.heap[gb159]? = some (.cells #[.bool a1_0, .string a1_1, .int .i64 a1_2] 23 (0, 0))) ∧ Aside0 (Below w.heap.size w wc))
      case first =>
        have H := HC20.out
        clear HC20
        by_cases c21 : x5_2 = true
        · subst c21
          have H1 : (dec_Dec_Compare.j1 kj2 true x6_2 (!x6_2) a0_0 a0_1 a0_2 a1_0 a1_1 a1_2) = some r := by rw [if_pos rfl] at H; exact H
          clear H
          have H := H1
          clear H1
          have H' := Aside0.mk H
          clear H
          go_wp2
          go_meet
          case rel => exact ⟨_, (!x6_2), (by first | rfl | (simp; done) | (simp [*]; done)), H', ⟨by have := HJ2.out; first | omega | exact Nat.le_refl _⟩, ⟨by (with_reducible repeat (first | refine blk_drewN ?_ _ | refine blk_drew ?_ | refine blk_alloc ?_ _)); exact BK158.out⟩, ⟨by (with_reducible repeat (first | refine blk_drewN ?_ _ | refine blk_drew ?_ | refine blk_alloc ?_ _)); exact BK159.out⟩, ⟨by repeat (first | (with_reducible first | exact HB.out | apply below_alloc | apply pw_below_drewN | apply below_drew1 | refine below_set ?_ GE158.out | refine below_set ?_ GE159.out) | exact HB.out)⟩⟩
        · replace c21 := Bool.eq_false_iff.mpr c21
          subst c21
          have H1 : (dec_Dec_Compare.j1 kj2 false x6_2 false a0_0 a0_1 a0_2 a1_0 a1_1 a1_2) = some r := by rw [if_neg (show ¬ (false = true) by decide)] at H; exact H
          clear H
          have H := H1
          clear H1
          have H' := Aside0.mk H
          clear H
          go_wp2
          go_meet
          case rel => exact ⟨_, (false), (by first | rfl | (simp; done) | (simp [*]; done)), H', ⟨by have := HJ2.out; first | omega | exact Nat.le_refl _⟩, ⟨by (with_reducible repeat (first | refine blk_drewN ?_ _ | refine blk_drew ?_ | refine blk_alloc ?_ _)); exact BK158.out⟩, ⟨by (with_reducible repeat (first | refine blk_drewN ?_ _ | refine blk_drew ?_ | refine blk_alloc ?_ _)); exact BK159.out⟩, ⟨by repeat (first | (with_reducible first | exact HB.out | apply below_alloc | apply pw_below_drewN | apply below_drew1 | refine below_set ?_ GE158.out | refine below_set ?_ GE159.out) | exact HB.out)⟩⟩
      case rest =>
        clear HC20
        try clear c1
        try clear c2
        try clear p2
        try clear c3
        try clear c6
        try clear c8
        try clear c15
        try clear c21
        try clear p2
        obtain ⟨kq, x21_19, rfl, HA, HJ19, BK158, BK159, HB⟩ := hcut
        cases kq with
        | zero => exact absurd HA.out (by simp [dec_Dec_Compare.j1])
        | succ kj19 =>
          have H := HA.out
          clear HA
          simp only [dec_Dec_Compare.j1] at H
          by_cases c22 : x21_19 = true
          · subst c22
            have H1 : (some (-1)) = some r := by rw [if_pos rfl] at H; exact H
            clear H
            have H := H1
            clear H1
            obtain rfl := Option.some.inj H
            go_wp2
            go_ret
            exact ⟨by first | rfl | (simp [errW_none, errW_some] <;> rfl) | (simp [*, errW_none, errW_some] <;> rfl), by repeat (first | (with_reducible first | exact HB.out | apply below_alloc | apply pw_below_drewN | apply below_drew1 | refine below_set ?_ GE158.out | refine below_set ?_ GE159.out) | exact HB.out)⟩
          · replace c22 := Bool.eq_false_iff.mpr c22
            subst c22
            have H1 : (if x6_2 = true then (dec_Dec_Compare.j2 kj19 x5_2 (!x5_2) a0_0 a0_1 a0_2 a1_0 a1_1 a1_2) else (dec_Dec_Compare.j2 kj19 x5_2 false a0_0 a0_1 a0_2 a1_0 a1_1 a1_2)) = some r := by rw [if_neg (show ¬ (false = true) by decide)] at H; exact H
            clear H
            have H := H1
            clear H1
            have HC23 := Aside0.mk H
            clear H
            go_upto_region 4 with (fail)
            go_cut [27] (fun v27 wc => ∃ (kq : Nat) (x27_22 : Bool), v27 = .bool x27_22 ∧ Aside0 (dec_Dec_Compare.j2 kq x5_2 x27_22 a0_0 a0_1 a0_2 a1_0 a1_1 a1_2 = some r) ∧ Aside0 (kq ≤ kj19) ∧ Aside0 (wc.heap[gb158]? = some (.cells #[.bool a0_0, .string a0_1, .int .i64 a0_2] 23 (0, 0))) ∧ Aside0 (wc.heap[gb159]? = some (.cells #[.bool a1_0, .string a1_1, .int .i64 a1_2] 23 (0, 0))) ∧ Aside0 (Below w.heap.size w wc))
            case first =>
              have H := HC23.out
              clear HC23
              by_cases c24 : x6_2 = true
              · subst c24
                have H1 : (dec_Dec_Compare.j2 kj19 x5_2 (!x5_2) a0_0 a0_1 a0_2 a1_0 a1_1 a1_2) = some r := by rw [if_pos rfl] at H; exact H
                clear H
                have H := H1
                clear H1
                have H' := Aside0.mk H
                clear H
                go_wp2
                go_meet
                case rel => exact ⟨_, (!x5_2), (by first | rfl | (simp; done) | (simp [*]; done)), H', ⟨by have := HJ2.out; have := HJ19.out; first | omega | exact Nat.le_refl _⟩, ⟨by (with_reducible repeat (first | refine blk_drewN ?_ _ | refine blk_drew ?_ | refine blk_alloc ?_ _)); exact BK158.out⟩, ⟨by (with_reducible repeat (first | refine blk_drewN ?_ _ | refine blk_drew ?_ | refine blk_alloc ?_ _)); exact BK159.out⟩, ⟨by repeat (first | (with_reducible first | exact HB.out | apply below_alloc | apply pw_below_drewN | apply below_drew1 | refine below_set ?_ GE158.out | refine below_set ?_ GE159.out) | exact HB.out)⟩⟩
              · replace c24 := Bool.eq_false_iff.mpr c24
                subst c24
                have H1 : (dec_Dec_Compare.j2 kj19 x5_2 false a0_0 a0_1 a0_2 a1_0 a1_1 a1_2) = some r := by rw [if_neg (show ¬ (false = true) by decide)] at H; exact H
                clear H
                have H := H1
                clear H1
                have H' := Aside0.mk H
                clear H
                go_wp2
                go_meet
                case rel => exact ⟨_, (false), (by first | rfl | (simp; done) | (simp [*]; done)), H', ⟨by have := HJ2.out; have := HJ19.out; first | omega | exact Nat.le_refl _⟩, ⟨by (with_reducible repeat (first | refine blk_drewN ?_ _ | refine blk_drew ?_ | refine blk_alloc ?_ _)); exact BK158.out⟩, ⟨by (with_reducible repeat (first | refine blk_drewN ?_ _ | refine blk_drew ?_ | refine blk_alloc ?_ _)); exact BK159.out⟩, ⟨by repeat (first | (with_reducible first | exact HB.out | apply below_alloc | apply pw_below_drewN | apply below_drew1 | refine below_set ?_ GE158.out | refine below_set ?_ GE159.out) | exact HB.out)⟩⟩
            case rest =>
              clear HC23
              try clear c1
              try clear c2
              try clear p2
              try clear c3
              try clear c6
              try clear c8
              try clear c15
              try clear c21
              try clear c22
              try clear c24
              try clear p2
              obtain ⟨kq, x27_22, rfl, HA, HJ22, BK158, BK159, HB⟩ := hcut
              cases kq with
              | zero => exact absurd HA.out (by simp [dec_Dec_Compare.j2])
              | succ kj22 =>
                have H := HA.out
                clear HA
                simp only [dec_Dec_Compare.j2] at H
                by_cases c25 : x27_22 = true
                · subst c25
                  have H1 : (some 1) = some r := by rw [if_pos rfl] at H; exact H
                  clear H
                  have H := H1
                  clear H1
                  obtain rfl := Option.some.inj H
                  go_wp2
                  go_ret
                  exact ⟨by first | rfl | (simp [errW_none, errW_some] <;> rfl) | (simp [*, errW_none, errW_some] <;> rfl), by repeat (first | (with_reducible first | exact HB.out | apply below_alloc | apply pw_below_drewN | apply below_drew1 | refine below_set ?_ GE158.out | refine below_set ?_ GE159.out) | exact HB.out)⟩
                · replace c25 := Bool.eq_false_iff.mpr c25
                  subst c25
                  have H1 : (if x5_2 = true then ((dec_Dec_size.f kj22 a0_0 a0_1 a0_2 a1_0 a1_1 a1_2).bind fun t163 => (some (wrap64 (-t163)))) else ((dec_Dec_size.f kj22 a0_0 a0_1 a0_2 a1_0 a1_1 a1_2).bind fun t164 => (some t164))) = some r := by rw [if_neg (show ¬ (false = true) by decide)] at H; exact H
                  clear H
                  have H := H1
                  clear H1
                  by_cases c26 : x5_2 = true
                  · subst c26
                    have H1 : ((dec_Dec_size.f kj22 a0_0 a0_1 a0_2 a1_0 a1_1 a1_2).bind fun t163 => (some (wrap64 (-t163)))) = some r := by rw [if_pos rfl] at H; exact H
                    clear H
                    have H := H1
                    clear H1
                    replace H := Option.bind_eq_some_iff.mp H
                    obtain ⟨t163, A270, H⟩ := H
                    replace H : (some (wrap64 (-t163))) = some r := H
                    have A27 := Aside0.mk A270
                    clear A270
                    obtain rfl := Option.some.inj H
                    have hnb28 := NB158_159.out
                    have hnc28 := NB159_158.out
                    have hcz29_0 : wc.cell? ⟨gb158, 0, none⟩ = some (.bool a0_0) := (blk_cell BK158.out 0).trans rfl
                    have hcz29_1 : wc.cell? ⟨gb158, 1, none⟩ = some (.string a0_1) := (blk_cell BK158.out 1).trans rfl
                    have hcz29_2 : wc.cell? ⟨gb158, 2, none⟩ = some (.int .i64 a0_2) := (blk_cell BK158.out 2).trans rfl
                    have hfz29_0 := blk_frozen BK158.out 0
                    have hfz29_1 := blk_frozen BK158.out 1
                    have hfz29_2 := blk_frozen BK158.out 2
                    have hcz30_0 : wc.cell? ⟨gb159, 0, none⟩ = some (.bool a1_0) := (blk_cell BK159.out 0).trans rfl
                    have hcz30_1 : wc.cell? ⟨gb159, 1, none⟩ = some (.string a1_1) := (blk_cell BK159.out 1).trans rfl
                    have hcz30_2 : wc.cell? ⟨gb159, 2, none⟩ = some (.int .i64 a1_2) := (blk_cell BK159.out 2).trans rfl
                    have hfz30_0 := blk_frozen BK159.out 0
                    have hfz30_1 := blk_frozen BK159.out 1
                    have hfz30_2 := blk_frozen BK159.out 2
                    go_wp2_with (first | ((with_reducible refine gate_callee (f := 76) rfl ?_); refine goesL_ (some 37) rfl rfl Tryd.func76 (by kernel_rfl) rfl #[.agg #[.bool a0_0, .string a0_1, .int .i64 a0_2], .agg #[.bool a1_0, .string a1_1, .int .i64 a1_2]] rfl (by (try simp only [List.map_toArray, List.map_cons, List.map_nil]); first | done | rfl | (simp only [List.length_drop, List.length_take]; rfl)) ?_; (with_reducible refine (dec_Dec_size.calls kj22 a0_0 a0_1 a0_2 a1_0 a1_1 a1_2 t163 _ A27.out).mono ?_); rintro e w31 ⟨rfl, hb⟩; refine ⟨_, rfl, ?_⟩; have n0_ := Aside0.mk (blk_below (g := gb158) (o := .cells #[.bool a0_0, .string a0_1, .int .i64 a0_2] 23 (0, 0)) (by (with_reducible repeat (first | refine blk_drewN ?_ _ | refine blk_drew ?_ | refine blk_alloc ?_ _)); exact BK158.out) hb); have n1_ := Aside0.mk (blk_below (g := gb159) (o := .cells #[.bool a1_0, .string a1_1, .int .i64 a1_2] 23 (0, 0)) (by (with_reducible repeat (first | refine blk_drewN ?_ _ | refine blk_drew ?_ | refine blk_alloc ?_ _)); exact BK159.out) hb); have n2_ := Aside0.mk (below_step (by repeat (first | (with_reducible first | exact HB.out | apply below_alloc | apply pw_below_drewN | apply below_drew1 | refine below_set ?_ GE158.out | refine below_set ?_ GE159.out) | exact HB.out)) hb); clear BK158; clear BK159; clear HB; have BK158 := n0_; have BK159 := n1_; have HB := n2_; clear n0_ n1_ n2_; (try clear hb); (try clear hb2); (try clear hk); (try clear hi)))
                    go_ret
                    exact ⟨by first | rfl | (simp [errW_none, errW_some] <;> rfl) | (simp [*, errW_none, errW_some] <;> rfl), by repeat (first | (with_reducible first | exact HB.out | apply below_alloc | apply pw_below_drewN | apply below_drew1 | refine below_set ?_ GE158.out | refine below_set ?_ GE159.out) | exact HB.out)⟩
                  · replace c26 := Bool.eq_false_iff.mpr c26
                    subst c26
                    have H1 : ((dec_Dec_size.f kj22 a0_0 a0_1 a0_2 a1_0 a1_1 a1_2).bind fun t164 => (some t164)) = some r := by rw [if_neg (show ¬ (false = true) by decide)] at H; exact H
                    clear H
                    have H := H1
                    clear H1
                    replace H := Option.bind_eq_some_iff.mp H
                    obtain ⟨t164, A320, H⟩ := H
                    replace H : (some t164) = some r := H
                    have A32 := Aside0.mk A320
                    clear A320
                    obtain rfl := Option.some.inj H
                    have hnb33 := NB158_159.out
                    have hnc33 := NB159_158.out
                    have hcz34_0 : wc.cell? ⟨gb158, 0, none⟩ = some (.bool a0_0) := (blk_cell BK158.out 0).trans rfl
                    have hcz34_1 : wc.cell? ⟨gb158, 1, none⟩ = some (.string a0_1) := (blk_cell BK158.out 1).trans rfl
                    have hcz34_2 : wc.cell? ⟨gb158, 2, none⟩ = some (.int .i64 a0_2) := (blk_cell BK158.out 2).trans rfl
                    have hfz34_0 := blk_frozen BK158.out 0
                    have hfz34_1 := blk_frozen BK158.out 1
                    have hfz34_2 := blk_frozen BK158.out 2
                    have hcz35_0 : wc.cell? ⟨gb159, 0, none⟩ = some (.bool a1_0) := (blk_cell BK159.out 0).trans rfl
                    have hcz35_1 : wc.cell? ⟨gb159, 1, none⟩ = some (.string a1_1) := (blk_cell BK159.out 1).trans rfl
                    have hcz35_2 : wc.cell? ⟨gb159, 2, none⟩ = some (.int .i64 a1_2) := (blk_cell BK159.out 2).trans rfl
                    have hfz35_0 := blk_frozen BK159.out 0
                    have hfz35_1 := blk_frozen BK159.out 1
                    have hfz35_2 := blk_frozen BK159.out 2
                    go_wp2_with (first | ((with_reducible refine gate_callee (f := 76) rfl ?_); refine goesL_ (some 41) rfl rfl Tryd.func76 (by kernel_rfl) rfl #[.agg #[.bool a0_0, .string a0_1, .int .i64 a0_2], .agg #[.bool a1_0, .string a1_1, .int .i64 a1_2]] rfl (by (try simp only [List.map_toArray, List.map_cons, List.map_nil]); first | done | rfl | (simp only [List.length_drop, List.length_take]; rfl)) ?_; (with_reducible refine (dec_Dec_size.calls kj22 a0_0 a0_1 a0_2 a1_0 a1_1 a1_2 t164 _ A32.out).mono ?_); rintro e w36 ⟨rfl, hb⟩; refine ⟨_, rfl, ?_⟩; have n0_ := Aside0.mk (blk_below (g := gb158) (o := .cells #[.bool a0_0, .string a0_1, .int .i64 a0_2] 23 (0, 0)) (by (with_reducible repeat (first | refine blk_drewN ?_ _ | refine blk_drew ?_ | refine blk_alloc ?_ _)); exact BK158.out) hb); have n1_ := Aside0.mk (blk_below (g := gb159) (o := .cells #[.bool a1_0, .string a1_1, .int .i64 a1_2] 23 (0, 0)) (by (with_reducible repeat (first | refine blk_drewN ?_ _ | refine blk_drew ?_ | refine blk_alloc ?_ _)); exact BK159.out) hb); have n2_ := Aside0.mk (below_step (by repeat (first | (with_reducible first | exact HB.out | apply below_alloc | apply pw_below_drewN | apply below_drew1 | refine below_set ?_ GE158.out | refine below_set ?_ GE159.out) | exact HB.out)) hb); clear BK158; clear BK159; clear HB; have BK158 := n0_; have BK159 := n1_; have HB := n2_; clear n0_ n1_ n2_; (try clear hb); (try clear hb2); (try clear hk); (try clear hi)))
                    go_ret
                    exact ⟨by first | rfl | (simp [errW_none, errW_some] <;> rfl) | (simp [*, errW_none, errW_some] <;> rfl), by repeat (first | (with_reducible first | exact HB.out | apply below_alloc | apply pw_below_drewN | apply below_drew1 | refine below_set ?_ GE158.out | refine below_set ?_ GE159.out) | exact HB.out)⟩
end Go.Proofs.YtonjkoeacedaiaaDoor.R
namespace Go.Proofs.YtonjkoeacedaiaaDoor.R
open Go.RowKit Go.Proofs.YtonjkoeacedaiaaDoor.G Go.Proofs.YtonjkoeacedaiaaDoor.U Go.Proofs.YtonjkoeacedaiaaDoorW.PrintWords Go.Proofs.YtonjkoeacedaiaaDoorW.PrintLast Go.Proofs.YtonjkoeacedaiaaDoorW.PrintMore
attribute [local go_sem] max2_int min2_int max_two min_two max_three min_three max_four min_four
set_option linter.unusedVariables false
set_option linter.unusedSimpArgs false
end Go.Proofs.YtonjkoeacedaiaaDoor.R

namespace Go.Proofs.YtonjkoeacedaiaaDoor.PU
open Go.RowKit Go.Proofs.YtonjkoeacedaiaaDoor Go.Proofs.YtonjkoeacedaiaaDoor.G Go.Proofs.YtonjkoeacedaiaaDoor.U Go.Proofs.YtonjkoeacedaiaaDoor.R Go.Proofs.YtonjkoeacedaiaaDoorW.PrintWords
set_option linter.unusedVariables false
set_option linter.unusedSimpArgs false
abbrev bl (s : ByteArray) : List UInt8 := s.data.toList
theorem tl (s : ByteArray) : s.toList = bl s := Lib.toList_data s
theorem sz (s : ByteArray) : s.size = (bl s).length := Lib.size_eq s
theorem ba_ext {a b : ByteArray} (h : bl a = bl b) : a = b := by
  cases a; cases b; congr 1; exact Array.ext' h
theorem bl_app (a b : ByteArray) : bl (a ++ b) = bl a ++ bl b := by show (a ++ b).data.toList = _; rw [ByteArray.data_append, Array.toList_append]
theorem bl_mk (l : List UInt8) : bl ⟨l.toArray⟩ = l := rfl
theorem mk_bl (s : ByteArray) : (⟨(bl s).toArray⟩ : ByteArray) = s := ba_ext rfl
theorem w64 (x : Int) (h0 : -9223372036854775808 ≤ x) (h1 : x ≤ 9223372036854775807) : wrap64 x = x := by unfold wrap64; omega
theorem bt_nat (s : ByteArray) (i : Nat) (c : UInt8) (h : (bl s)[i]? = some c) : bt s (i : Int) = c.toNat := by
  obtain ⟨hl, e⟩ := List.getElem?_eq_some_iff.1 h
  have hl' : i < s.size := by rw [sz]; exact hl
  unfold bt
  rw [Int.toNat_natCast, dif_pos hl']
  rw [← e]
  rfl
def isDig (c : UInt8) : Bool := decide (48 ≤ c.toNat) && decide (c.toNat ≤ 57)
theorem digit_f (c : UInt8) : polyglotlaw02_digit.f (c.toNat : Int) = some (isDig c) := by
  unfold polyglotlaw02_digit.f isDig
  by_cases h : 48 ≤ c.toNat
  · rw [if_pos (by omega)]
    simp [h]
    omega
  · rw [if_neg (by omega)]
    simp [h]
theorem head_ok : polyglotlaw02_head.f 3 = some true := by kernel_rfl
end Go.Proofs.YtonjkoeacedaiaaDoor.PU
namespace Go.Proofs.YtonjkoeacedaiaaDoor.S
open Go.RowKit Go.Proofs.YtonjkoeacedaiaaDoor Go.Proofs.YtonjkoeacedaiaaDoor.G Go.Proofs.YtonjkoeacedaiaaDoor.U Go.Proofs.YtonjkoeacedaiaaDoor.R Go.Proofs.YtonjkoeacedaiaaDoor.PU Go.Proofs.YtonjkoeacedaiaaDoorW.PrintWords
set_option linter.unusedVariables false
set_option linter.unusedSimpArgs false
abbrev digs (l : List UInt8) : Bool := l.all isDig
theorem dw48 (l : List UInt8) : l = List.replicate (l.length - (Lib.trimLeftS l [48]).length) 48 ++ Lib.trimLeftS l [48] := by
  induction l with
  | nil => rfl
  | cons c t ih =>
    unfold Lib.trimLeftS at ih ⊢
    rw [List.dropWhile_cons]
    by_cases h : ([48] : List UInt8).contains c = true
    · rw [if_pos h]
      have hc : c = 48 := by simpa using h
      have hl : (t.dropWhile fun x => ([48] : List UInt8).contains x).length ≤ t.length := (List.dropWhile_suffix _).length_le
      rw [List.length_cons, show t.length + 1 - (t.dropWhile fun x => ([48] : List UInt8).contains x).length = (t.length - (t.dropWhile fun x => ([48] : List UInt8).contains x).length) + 1 by omega, List.replicate_succ, List.cons_append, ← ih, hc]
    · rw [if_neg h]
      simp
end Go.Proofs.YtonjkoeacedaiaaDoor.S
namespace Go.Proofs.YtonjkoeacedaiaaDoor.S
open Go.RowKit Go.Proofs.YtonjkoeacedaiaaDoor Go.Proofs.YtonjkoeacedaiaaDoor.G Go.Proofs.YtonjkoeacedaiaaDoor.U Go.Proofs.YtonjkoeacedaiaaDoor.R Go.Proofs.YtonjkoeacedaiaaDoor.PU Go.Proofs.YtonjkoeacedaiaaDoorW.PrintWords Go.Proofs.YtonjkoeacedaiaaDoorW.PrintMore
set_option linter.unusedVariables false
set_option linter.unusedSimpArgs false
def dv (c : UInt8) : Nat := c.toNat - 48
def val (l : List UInt8) : Nat := l.foldl (fun n c => n * 10 + dv c) 0
theorem val_fold : ∀ (l : List UInt8) (n : Nat), l.foldl (fun n c => n * 10 + dv c) n = n * 10 ^ l.length + val l
  | [], n => by simp [val]
  | c :: t, n => by
    show t.foldl (fun n c => n * 10 + dv c) (n * 10 + dv c) = n * 10 ^ (t.length + 1) + t.foldl (fun n c => n * 10 + dv c) (0 * 10 + dv c)
    rw [val_fold t, val_fold t (0 * 10 + dv c), Nat.pow_succ, Nat.add_mul, Nat.add_mul, Nat.mul_assoc, Nat.mul_comm 10, Nat.zero_mul, Nat.zero_add, Nat.add_assoc]
theorem val_cons (c : UInt8) (t : List UInt8) : val (c :: t) = dv c * 10 ^ t.length + val t := by
  show t.foldl (fun n c => n * 10 + dv c) (0 * 10 + dv c) = _
  rw [val_fold, Nat.zero_mul, Nat.zero_add]
theorem val_app (a b : List UInt8) : val (a ++ b) = val a * 10 ^ b.length + val b := by
  show (a ++ b).foldl _ 0 = _
  rw [List.foldl_append, val_fold]
  rfl
theorem dig_le {c : UInt8} (h : isDig c = true) : 48 ≤ c.toNat ∧ c.toNat ≤ 57 := by simpa [isDig] using h
theorem digs_cons {c : UInt8} {t : List UInt8} (h : digs (c :: t) = true) : isDig c = true ∧ digs t = true := by simpa [digs] using h
theorem digs_app {a b : List UInt8} : digs (a ++ b) = (digs a && digs b) := List.all_append
theorem digs_of {a : List UInt8} (h : ∀ c ∈ a, isDig c = true) : digs a = true := List.all_eq_true.2 h
theorem digs_at {a : List UInt8} (h : digs a = true) : ∀ c ∈ a, isDig c = true := List.all_eq_true.1 h
theorem digs_rep (n : Nat) : digs (List.replicate n 48) = true := digs_of fun c hc => by rw [List.eq_of_mem_replicate hc]; rfl
theorem val_lt : ∀ {l : List UInt8}, digs l = true → val l < 10 ^ l.length
  | [], _ => by simp [val]
  | c :: t, h => by
    obtain ⟨hc, ht⟩ := digs_cons h
    have ih := val_lt ht
    have hd := dig_le hc
    have h9 : dv c * 10 ^ t.length ≤ 9 * 10 ^ t.length := Nat.mul_le_mul_right _ (by unfold dv; omega)
    rw [val_cons, List.length_cons, Nat.pow_succ]
    omega
theorem val_rep : ∀ n, val (List.replicate n 48) = 0
  | 0 => rfl
  | n + 1 => by rw [List.replicate_succ, val_cons, val_rep n, show dv 48 = 0 from rfl, Nat.zero_mul]
theorem two (P a b x y : Nat) (hx : x < P) (hy : y < P) : (a * P + x < b * P + y ↔ a < b ∨ a = b ∧ x < y) ∧ (a * P + x = b * P + y ↔ a = b ∧ x = y) := by
  rcases Nat.lt_trichotomy a b with h | h | h
  · have := Nat.mul_le_mul_right P (show a + 1 ≤ b from h)
    rw [Nat.add_mul] at this
    omega
  · subst h; omega
  · have := Nat.mul_le_mul_right P (show b + 1 ≤ a from h)
    rw [Nat.add_mul] at this
    omega
def sgn (a b : Nat) : Int := if a < b then -1 else if a = b then 0 else 1
theorem less_val : ∀ {x y : List UInt8}, digs x = true → digs y = true → x.length = y.length → (Op.bytesLess x y = true ↔ val x < val y) ∧ (x = y ↔ val x = val y)
  | [], [], _, _, _ => by simp [Op.bytesLess]
  | [], _ :: _, _, _, h => by simp at h
  | _ :: _, [], _, _, h => by simp at h
  | a :: x, b :: y, hx, hy, hl => by
    obtain ⟨ha, hx⟩ := digs_cons hx
    obtain ⟨hb, hy⟩ := digs_cons hy
    have hl : x.length = y.length := by simpa using hl
    obtain ⟨ih1, ih2⟩ := less_val hx hy hl
    have hxl := val_lt hx
    have hyl := val_lt hy
    rw [← hl] at hyl
    have h2 := two (10 ^ x.length) (dv a) (dv b) (val x) (val y) hxl hyl
    have hda := dig_le ha
    have hdb := dig_le hb
    have he : a = b ↔ dv a = dv b := by
      rw [← UInt8.toNat_inj]; unfold dv; omega
    have hlt : a < b ↔ dv a < dv b := by
      rw [UInt8.lt_iff_toNat_lt]; unfold dv; omega
    rw [val_cons, val_cons, ← hl, h2.1, h2.2]
    constructor
    · show (decide (a < b) || (a == b && Op.bytesLess x y)) = true ↔ _
      rw [Bool.or_eq_true, Bool.and_eq_true, decide_eq_true_iff, beq_iff_eq, hlt, he, ih1]
    · rw [List.cons.injEq, he, ih2]
theorem cmpS_val {x y : List UInt8} (hx : digs x = true) (hy : digs y = true) (hl : x.length = y.length) : cmpS x y = sgn (val x) (val y) := by
  obtain ⟨h1, h2⟩ := less_val hx hy hl
  unfold cmpS sgn
  by_cases h : val x < val y
  · rw [if_pos (h1.2 h), if_pos h]
  · rw [if_neg (fun hh => h (h1.1 hh)), if_neg h]
    by_cases e : val x = val y
    · rw [if_pos (by rw [beq_iff_eq]; exact h2.2 e), if_pos e]
    · rw [if_neg (by rw [beq_iff_eq]; exact fun hh => e (h2.1 hh)), if_neg e]
theorem dwn {p : UInt8 → Bool} : ∀ {l : List UInt8}, l.dropWhile p = [] ↔ ∀ c ∈ l, p c = true
  | [] => by simp
  | c :: t => by
    rw [List.dropWhile_cons]
    by_cases h : p c = true
    · rw [if_pos h, dwn]; simp [h]
    · rw [if_neg h]; simp [h]
theorem dw_head {p : UInt8 → Bool} : ∀ {l : List UInt8} {c : UInt8} {t : List UInt8}, l.dropWhile p = c :: t → p c = false
  | [], _, _, h => by simp at h
  | a :: l, c, t, h => by
    rw [List.dropWhile_cons] at h
    by_cases hp : p a = true
    · rw [if_pos hp] at h; exact dw_head h
    · rw [if_neg hp] at h
      obtain ⟨rfl, _⟩ := List.cons.inj h
      simpa using hp
theorem trim_val (l : List UInt8) : val (Lib.trimLeftS l [48]) = val l := by
  have h := dw48 l
  have : val l = val (List.replicate (l.length - (Lib.trimLeftS l [48]).length) 48 ++ Lib.trimLeftS l [48]) := congrArg val h
  rw [this, val_app, val_rep, Nat.zero_mul, Nat.zero_add]
theorem trim_digs {l : List UInt8} (h : digs l = true) : digs (Lib.trimLeftS l [48]) = true :=
  digs_of fun c hc => digs_at h c ((List.dropWhile_suffix _).subset hc)
theorem trim_low {l : List UInt8} (h : digs l = true) (h0 : 0 < (Lib.trimLeftS l [48]).length) : 10 ^ ((Lib.trimLeftS l [48]).length - 1) ≤ val (Lib.trimLeftS l [48]) := by
  cases hT : Lib.trimLeftS l [48] with
  | nil => rw [hT] at h0; simp at h0
  | cons c t =>
    have hd := trim_digs h
    rw [hT] at hd
    have hc := dig_le (digs_cons hd).1
    have hne := dw_head hT
    have hn : c ≠ 48 := by intro e; rw [e] at hne; exact absurd hne (by decide)
    have hn2 : c.toNat ≠ 48 := fun e => hn (UInt8.toNat_inj.1 e)
    have h1 : 1 * 10 ^ t.length ≤ dv c * 10 ^ t.length := Nat.mul_le_mul_right _ (by unfold dv; omega)
    rw [val_cons, List.length_cons, Nat.add_sub_cancel]
    omega
theorem strip_cmp {x y : List UInt8} (hx : digs x = true) (hy : digs y = true) :
    (if Lib.compareInt ((Lib.trimLeftS x [48]).length : Int) ((Lib.trimLeftS y [48]).length : Int) = 0 then cmpS (Lib.trimLeftS x [48]) (Lib.trimLeftS y [48]) else Lib.compareInt ((Lib.trimLeftS x [48]).length : Int) ((Lib.trimLeftS y [48]).length : Int)) = sgn (val x) (val y) := by
  have dx := trim_digs hx
  have dy := trim_digs hy
  have lx := trim_low hx
  have ly := trim_low hy
  rw [← trim_val x, ← trim_val y]
  generalize Lib.trimLeftS x [48] = X at *
  generalize Lib.trimLeftS y [48] = Y at *
  have ux := val_lt dx
  have uy := val_lt dy
  rcases Nat.lt_trichotomy X.length Y.length with h | h | h
  · have hc : Lib.compareInt (X.length : Int) (Y.length : Int) = -1 := by unfold Lib.compareInt; rw [if_pos (by omega)]
    rw [hc, if_neg (by decide)]
    have h2 := Nat.pow_le_pow_right (show 0 < 10 by decide) (show X.length ≤ Y.length - 1 by omega)
    have h3 := ly (by omega)
    unfold sgn
    rw [if_pos (by omega)]
  · have hc : Lib.compareInt (X.length : Int) (Y.length : Int) = 0 := by unfold Lib.compareInt; rw [if_neg (by omega), if_neg (by omega)]
    rw [hc, if_pos rfl]
    exact cmpS_val dx dy h
  · have hc : Lib.compareInt (X.length : Int) (Y.length : Int) = 1 := by unfold Lib.compareInt; rw [if_neg (by omega), if_pos (by omega)]
    rw [hc, if_neg (by decide)]
    have h2 := Nat.pow_le_pow_right (show 0 < 10 by decide) (show Y.length ≤ X.length - 1 by omega)
    have h3 := lx (by omega)
    unfold sgn
    rw [if_neg (by omega), if_neg (by omega)]
theorem or2 (k : Nat) (a b : Int) : cmp_Or_int.f (k + 3) [a, b] = some (if a = 0 then b else a) := by
  unfold cmp_Or_int.f
  show cmp_Or_int.l0 (k + 3) 0 [a, b] 2 0 = _
  rw [cmp_Or_int.l0, if_pos (by decide), if_pos (by decide), if_pos (by show (0 : Int) < 2; decide), show rd [a, b] 0 = a from rfl]
  by_cases ha : a = 0
  · rw [if_pos ha, if_pos ha, show wrap64 (0 + 1) = 1 from w64 _ (by decide) (by decide), cmp_Or_int.l0, if_pos (by decide), if_pos (by decide), if_pos (by show (1 : Int) < 2; decide), show rd [a, b] 1 = b from rfl]
    by_cases hb : b = 0
    · rw [if_pos hb, show wrap64 (1 + 1) = 2 from w64 _ (by decide) (by decide), cmp_Or_int.l0, if_neg (by decide), hb]
    · rw [if_neg hb]
  · rw [if_neg ha, if_neg ha]
structure Num (D : List UInt8) (sc : Nat) : Prop where
  dig : digs D = true
  lt : sc < D.length
  max : D.length ≤ 150
def V (D : List UInt8) (sc : Nat) : Nat := val D * 10 ^ (200 - sc)
theorem sgn_mul (a b c : Nat) (hc : 0 < c) : sgn (a * c) (b * c) = sgn a b := by
  unfold sgn
  rcases Nat.lt_trichotomy a b with h | h | h
  · have := Nat.mul_lt_mul_of_pos_right h hc
    rw [if_pos this, if_pos h]
  · subst h; rw [if_neg (by omega), if_pos rfl, if_neg (by omega), if_pos rfl]
  · have := Nat.mul_lt_mul_of_pos_right h hc
    rw [if_neg (by omega), if_neg (by omega), if_neg (by omega), if_neg (by omega)]
theorem rep_ok (m : Nat) (h : m ≤ 1000) : strings_Repeat.f ⟨#[48]⟩ (m : Int) = some ⟨(List.replicate m 48).toArray⟩ := by
  unfold strings_Repeat.f
  rw [if_pos ⟨by omega, by omega, by rw [Int.toNat_natCast]; show 1 * _ ≤ _; omega⟩, Int.toNat_natCast]
  rw [show (⟨#[48]⟩ : ByteArray).data.toList = [48] from rfl, repeatL_one]
theorem tl_ok (s : ByteArray) : strings_TrimLeft.f s ⟨#[48]⟩ = some ⟨(Lib.trimLeftS (bl s) [48]).toArray⟩ := by
  unfold strings_TrimLeft.f
  rw [if_pos ⟨by decide, by decide⟩]
theorem size_ok (k : Nat) (na nb : Bool) {A B : List UInt8} {sa sb : Nat} (ha : Num A sa) (hb : Num B sb) :
    dec_Dec_size.f (k + 3) na ⟨A.toArray⟩ (sa : Int) nb ⟨B.toArray⟩ (sb : Int) = some (sgn (V A sa) (V B sb)) := by
  obtain ⟨n, hn⟩ : ∃ n : Nat, mx (sa : Int) (sb : Int) = (n : Int) ∧ sa ≤ n ∧ sb ≤ n ∧ n ≤ 150 := by
    have h1 := ha.lt; have h2 := ha.max; have h3 := hb.lt; have h4 := hb.max
    unfold mx
    by_cases h : sa < sb
    · exact ⟨sb, by rw [if_pos (by omega)], by omega, by omega, by omega⟩
    · exact ⟨sa, by rw [if_neg (by omega)], by omega, by omega, by omega⟩
  have h2 := ha.max
  have h4 := hb.max
  have hza : (⟨A.toArray⟩ : ByteArray).size = A.length := sz _
  have hzb : (⟨B.toArray⟩ : ByteArray).size = B.length := sz _
  have zr : ∀ m, (⟨(List.replicate m 48).toArray⟩ : ByteArray).size = m := fun m => by rw [sz, bl_mk, List.length_replicate]
  unfold dec_Dec_size.f
  rw [hn.1, w64 _ (by omega) (by omega), w64 _ (by omega) (by omega), show (n : Int) - (sa : Int) = ((n - sa : Nat) : Int) by omega, show (n : Int) - (sb : Int) = ((n - sb : Nat) : Int) by omega]
  rw [rep_ok _ (by omega), Option.bind_some, if_pos (by rw [hza, zr]; omega), rep_ok _ (by omega), Option.bind_some, if_pos (by rw [hzb, zr]; omega), tl_ok, Option.bind_some, tl_ok, Option.bind_some]
  unfold cmp_Compare_int.f cmp_Compare_string.f
  rw [Option.bind_some, Option.bind_some, or2, Option.bind_some]
  simp only [sz, tl, bl_app, bl_mk]
  have da : digs (A ++ List.replicate (n - sa) 48) = true := by rw [digs_app, ha.dig, digs_rep]; rfl
  have db : digs (B ++ List.replicate (n - sb) 48) = true := by rw [digs_app, hb.dig, digs_rep]; rfl
  rw [strip_cmp da db, val_app, val_app, val_rep, val_rep, List.length_replicate, List.length_replicate, Nat.add_zero, Nat.add_zero, ← sgn_mul _ _ (10 ^ (200 - n)) (Nat.pow_pos (by decide)), Nat.mul_assoc, Nat.mul_assoc, ← Nat.pow_add, ← Nat.pow_add, show n - sa + (200 - n) = 200 - sa by omega, show n - sb + (200 - n) = 200 - sb by omega]
  rfl
theorem val_zero : ∀ {l : List UInt8}, digs l = true → (val l = 0 ↔ ∀ c ∈ l, c = 48)
  | [], _ => by simp [val]
  | c :: t, h => by
    obtain ⟨hc, ht⟩ := digs_cons h
    have ih := val_zero ht
    have hp : 0 < 10 ^ t.length := Nat.pow_pos (by decide)
    have hd := dig_le hc
    have he : c = 48 ↔ dv c = 0 := by
      rw [← UInt8.toNat_inj]; unfold dv; show c.toNat = 48 ↔ _; omega
    rw [val_cons, Nat.add_eq_zero_iff, Nat.mul_eq_zero, ih, List.forall_mem_cons, he]
    constructor
    · rintro ⟨h1 | h1, h2⟩
      · exact ⟨h1, h2⟩
      · omega
    · rintro ⟨h1, h2⟩; exact ⟨Or.inl h1, h2⟩
theorem trimS_nil (l : List UInt8) : Lib.trimS l [48] = [] ↔ ∀ c ∈ l, c = 48 := by
  have hc : ∀ c : UInt8, ([48] : List UInt8).contains c = true ↔ c = 48 := fun c => by simp
  unfold Lib.trimS Lib.trimLeftS Lib.trimRightS
  rw [dwn]
  constructor
  · intro h
    cases hR : l.reverse.dropWhile fun x => ([48] : List UInt8).contains x with
    | nil =>
      intro c hcm
      exact (hc c).1 (dwn.1 hR c (List.mem_reverse.2 hcm))
    | cons a t =>
      have h1 := dw_head hR
      rw [hR] at h
      have h2 := h a (by simp)
      rw [h1] at h2
      cases h2
  · intro h c hcm
    have hcm2 := (List.dropWhile_suffix _).subset (List.mem_reverse.1 hcm)
    exact (hc c).2 (h c (List.mem_reverse.1 hcm2))
theorem zero_ok (n : Bool) {A : List UInt8} {sa : Nat} (ha : Num A sa) (s : Int) : dec_Dec_Zero.f n ⟨A.toArray⟩ s = some (decide (V A sa = 0)) := by
  have hza : (⟨A.toArray⟩ : ByteArray).size = A.length := sz _
  have h2 := ha.max
  have hp : 0 < 10 ^ (200 - sa) := Nat.pow_pos (by decide)
  unfold dec_Dec_Zero.f strings_Trim.f
  rw [if_pos ⟨by omega, by decide, by decide⟩, Option.bind_some, tl]
  refine congrArg some ?_
  show (Lib.trimS A [48] == []) = _
  rw [Bool.eq_iff_iff, beq_iff_eq, trimS_nil, ← val_zero ha.dig, decide_eq_true_iff]
  unfold V
  rw [Nat.mul_eq_zero]
  constructor
  · exact Or.inl
  · rintro (h | h)
    · exact h
    · omega
def S (neg : Bool) (v : Nat) : Int := if neg = true then -(v : Int) else v
def isg (x y : Int) : Int := if x < y then -1 else if x = y then 0 else 1
theorem sgn_or (a b : Nat) : sgn a b = -1 ∨ sgn a b = 0 ∨ sgn a b = 1 := by
  unfold sgn
  split
  · exact Or.inl rfl
  · split
    · exact Or.inr (Or.inl rfl)
    · exact Or.inr (Or.inr rfl)
theorem j0_ok (k : Nat) (x y na nb : Bool) {A B : List UInt8} {sa sb : Nat} (ha : Num A sa) (hb : Num B sb) :
    dec_Dec_Compare.j0 (k + 6) x y na ⟨A.toArray⟩ (sa : Int) nb ⟨B.toArray⟩ (sb : Int) = some (if x = true ∧ y = false then -1 else if y = true ∧ x = false then 1 else if x = true then -sgn (V A sa) (V B sb) else sgn (V A sa) (V B sb)) := by
  have hS := size_ok k na nb ha hb
  have hw : wrap64 (-sgn (V A sa) (V B sb)) = -sgn (V A sa) (V B sb) := w64 _ (by rcases sgn_or (V A sa) (V B sb) with h | h | h <;> rw [h] <;> decide) (by rcases sgn_or (V A sa) (V B sb) with h | h | h <;> rw [h] <;> decide)
  rw [dec_Dec_Compare.j0]
  cases x <;> cases y <;> simp only [dec_Dec_Compare.j1, dec_Dec_Compare.j2, hS, hw, Bool.not_true, Bool.not_false, Bool.false_eq_true, if_true, if_false, and_self, and_true, and_false, true_and, false_and, reduceCtorEq, Option.bind_some]
theorem compare_ok (k : Nat) (na nb : Bool) {A B : List UInt8} {sa sb : Nat} (ha : Num A sa) (hb : Num B sb) :
    dec_Dec_Compare.f (k + 6) na ⟨A.toArray⟩ (sa : Int) nb ⟨B.toArray⟩ (sb : Int) = some (isg (S na (V A sa)) (S nb (V B sb))) := by
  have za := zero_ok na ha (sa : Int)
  have zb := zero_ok nb hb (sb : Int)
  have hj := fun x y => j0_ok k x y na nb ha hb
  unfold dec_Dec_Compare.f
  rw [za, zb]
  simp only [Option.bind_some, hj]
  generalize V A sa = a
  generalize V B sb = b
  unfold isg S sgn
  cases na <;> cases nb <;> by_cases h1 : a = 0 <;> by_cases h2 : b = 0 <;> simp [h1, h2] <;> (try split) <;> (try split) <;> (try split) <;> (try split) <;> (try omega)
theorem right_loop (n : Bool) (A : List UInt8) (sc : Int) (hA : A.length ≤ 60) (h0 : 0 < A.length) : ∀ (d i : Nat), A.length - i ≤ d → i ≤ A.length → (∀ c ∈ A.take i, isDig c = true) →
    ∃ b, polyglotlaw02_Right.l0 (d + 1) (i : Int) n ⟨A.toArray⟩ sc = some b ∧ (b = true → digs A = true) := by
  have hz : (⟨A.toArray⟩ : ByteArray).size = A.length := sz _
  have fin : ∀ (i k : Nat), A.length ≤ i → i ≤ A.length → (∀ c ∈ A.take i, isDig c = true) → ∃ b, polyglotlaw02_Right.l0 (k + 1) (i : Int) n ⟨A.toArray⟩ sc = some b ∧ (b = true → digs A = true) := by
    intro i k h1 h2 h3
    have hd : digs A = true := digs_of (by rw [List.take_of_length_le h1] at h3; exact h3)
    rw [polyglotlaw02_Right.l0, hz, if_neg (by omega), if_pos (by omega)]
    split
    · exact ⟨_, rfl, fun _ => hd⟩
    · exact ⟨_, rfl, fun _ => hd⟩
  intro d
  induction d with
  | zero => intro i h1 h2 h3; exact fin i 0 (by omega) h2 h3
  | succ d ih =>
    intro i h1 h2 h3
    by_cases hi : i < A.length
    · have hc : (bl ⟨A.toArray⟩)[i]? = some A[i] := List.getElem?_eq_getElem hi
      rw [polyglotlaw02_Right.l0, hz, if_pos (by omega), if_pos (by omega), bt_nat _ i _ hc, digit_f, Option.bind_some]
      by_cases hg : isDig A[i] = true
      · rw [if_pos hg, w64 _ (by omega) (by omega), show (i : Int) + 1 = ((i + 1 : Nat) : Int) by omega]
        refine ih (i + 1) (by omega) (by omega) ?_
        intro c hcm
        rw [List.take_add_one, List.mem_append] at hcm
        rcases hcm with h | h
        · exact h3 c h
        · rw [List.getElem?_eq_getElem hi] at h
          have : c = A[i] := by simpa using h
          rw [this]; exact hg
      · rw [if_neg hg]
        exact ⟨false, rfl, fun h => by cases h⟩
    · exact fin i (d + 1) (by omega) h2 h3
theorem right_any (n : Bool) (A : List UInt8) (sc : Int) (k : Nat) (hk : 100 ≤ k) : ∃ b, polyglotlaw02_Right.f k n ⟨A.toArray⟩ sc = some b ∧ (b = true → ∃ s : Nat, sc = s ∧ Num A s ∧ A.length ≤ 60) := by
  have hz : (⟨A.toArray⟩ : ByteArray).size = A.length := sz _
  obtain ⟨j, rfl⟩ : ∃ j, k = j + 61 + 1 := ⟨k - 62, by omega⟩
  have hj : ∀ x, polyglotlaw02_Right.j0 (j + 61 + 1) true n ⟨A.toArray⟩ x = some false := fun x => by rw [polyglotlaw02_Right.j0, if_pos rfl]
  unfold polyglotlaw02_Right.f
  rw [hz]
  by_cases h1 : sc < 0
  · rw [if_pos h1, hj]; exact ⟨false, rfl, fun h => by cases h⟩
  rw [if_neg h1]
  by_cases h2 : sc ≥ A.length
  · rw [if_pos h2, hj]; exact ⟨false, rfl, fun h => by cases h⟩
  rw [if_neg h2]
  by_cases h3 : A.length > 60
  · rw [show decide ((A.length : Int) > 60) = true from decide_eq_true (by omega), hj]; exact ⟨false, rfl, fun h => by cases h⟩
  rw [show decide ((A.length : Int) > 60) = false from decide_eq_false (by omega), polyglotlaw02_Right.j0, if_neg (by decide)]
  obtain ⟨b, hb, hd⟩ := right_loop n A sc (by omega) (by omega) (j + 60) 0 (by omega) (by omega) (by simp)
  exact ⟨b, hb, fun h => ⟨sc.toNat, by omega, ⟨hd h, by omega, by omega⟩, by omega⟩⟩
def q (v u : Nat) : Nat := if u < 2 * (v % u) ∨ 2 * (v % u) = u ∧ v / u % 2 = 1 then v / u + 1 else v / u
end Go.Proofs.YtonjkoeacedaiaaDoor.S
namespace Go.Proofs.YtonjkoeacedaiaaDoor
open Go.RowKit
set_option linter.unusedVariables false
set_option linter.unusedSimpArgs false
structure Two (w : World) (n1 n2 : Bool) (d1 d2 : ByteArray) (k1 k2 : Int) (W : World) : Prop where
  a0 : W.cell? ⟨w.heap.size, 0, none⟩ = some (.bool n1)
  a1 : W.cell? ⟨w.heap.size, 1, none⟩ = some (.string d1)
  a2 : W.cell? ⟨w.heap.size, 2, none⟩ = some (.int .i64 k1)
  b0 : W.cell? ⟨w.heap.size + 1, 0, none⟩ = some (.bool n2)
  b1 : W.cell? ⟨w.heap.size + 1, 1, none⟩ = some (.string d2)
  b2 : W.cell? ⟨w.heap.size + 1, 2, none⟩ = some (.int .i64 k2)
  bel : Below w.heap.size w W
  tab : G.Tab_ W
theorem Two.get {w W : World} {n1 n2 : Bool} {d1 d2 : ByteArray} {k1 k2 : Int} (h : Two w n1 n2 d1 d2 k1 k2 W) : W.cell? ⟨w.heap.size, 0, none⟩ = some (.bool n1) ∧ W.cell? ⟨w.heap.size, 1, none⟩ = some (.string d1) ∧ W.cell? ⟨w.heap.size, 2, none⟩ = some (.int .i64 k1) ∧ W.cell? ⟨w.heap.size + 1, 0, none⟩ = some (.bool n2) ∧ W.cell? ⟨w.heap.size + 1, 1, none⟩ = some (.string d2) ∧ W.cell? ⟨w.heap.size + 1, 2, none⟩ = some (.int .i64 k2) :=
  ⟨h.a0, h.a1, h.a2, h.b0, h.b1, h.b2⟩
theorem Two.step {w W W1 : World} {n1 n2 : Bool} {d1 d2 : ByteArray} {k1 k2 : Int} (h : Two w n1 n2 d1 d2 k1 k2 W) (c : Below W.heap.size W W1) : Two w n1 n2 d1 d2 k1 k2 W1 :=
  ⟨below_cellOf c (Nat.le_refl _) h.a0, below_cellOf c (Nat.le_refl _) h.a1, below_cellOf c (Nat.le_refl _) h.a2, below_cellOf c (Nat.le_refl _) h.b0, below_cellOf c (Nat.le_refl _) h.b1, below_cellOf c (Nat.le_refl _) h.b2, below_on h.bel c h.bel.size, h.tab.step c⟩
theorem Two.drew {w W : World} {n1 n2 : Bool} {d1 d2 : ByteArray} {k1 k2 : Int} (h : Two w n1 n2 d1 d2 k1 k2 W) : Two w n1 n2 d1 d2 k1 k2 W.drew := h.step ((Below.refl _ _).drew)
theorem Two.start (w : World) (n1 n2 : Bool) (d1 d2 : ByteArray) (k1 k2 : Int) (hT : G.Tab_ w) : Two w n1 n2 d1 d2 k1 k2 ((w.alloc (.cells #[.bool n1, .string d1, .int .i64 k1] 23)).alloc (.cells #[.bool n2, .string d2, .int .i64 k2] 23)) := by
  have h1 := heap_alloc_new w (.cells #[.bool n1, .string d1, .int .i64 k1] 23)
  have h2 := heap_alloc_new (w.alloc (.cells #[.bool n1, .string d1, .int .i64 k1] 23)) (.cells #[.bool n2, .string d2, .int .i64 k2] 23)
  rw [show (w.alloc (.cells #[.bool n1, .string d1, .int .i64 k1] 23)).heap.size = w.heap.size + 1 by simp] at h2
  have h3 := (Below.heap_alloc (w.alloc (.cells #[.bool n1, .string d1, .int .i64 k1] 23)) (.cells #[.bool n2, .string d2, .int .i64 k2] 23) w.heap.size (by simp)).trans h1
  have bl : Below w.heap.size w ((w.alloc (.cells #[.bool n1, .string d1, .int .i64 k1] 23)).alloc (.cells #[.bool n2, .string d2, .int .i64 k2] 23)) := ((Below.refl w.heap.size w).alloc (Nat.le_refl _) _).alloc (by simp) _
  exact ⟨(Lib.cell_of_heap h3 0).trans rfl, (Lib.cell_of_heap h3 1).trans rfl, (Lib.cell_of_heap h3 2).trans rfl, (Lib.cell_of_heap h2 0).trans rfl, (Lib.cell_of_heap h2 1).trans rfl, (Lib.cell_of_heap h2 2).trans rfl, bl, hT.step bl⟩
theorem Two.calls {w W : World} {n1 n2 : Bool} {d1 d2 : ByteArray} {k1 k2 : Int} {P : Program} {f : FuncId} {args : Array Value} {r : Value} (h : Two w n1 n2 d1 d2 k1 k2 W) (c : Calls P f args W fun e w' => e = .returned r ∧ Below W.heap.size W w') :
    Calls P f args W fun e w' => e = .returned r ∧ Two w n1 n2 d1 d2 k1 k2 w' ∧ Below W.heap.size W w' :=
  c.mono fun e w' ⟨he, hb⟩ => ⟨he, h.step hb, hb⟩
theorem head2_any (w : World) (hT : G.Tab_ w) : Calls Tryd.prog 34 #[] w fun e w' => e = .returned (.bool true) ∧ Below w.heap.size w w' :=
  R.polyglotlaw02_head.calls 3 true w PU.head_ok hT
set_option maxRecDepth 100000 in
set_option maxHeartbeats 4000000 in
theorem cmp_not (n1 n2 : Bool) (d1 d2 : ByteArray) (k1 k2 : Int) (r1 r2 : Bool) (hr : r1 = false ∨ r2 = false)
    (c1 : ∀ W, Calls Tryd.prog 18 #[decV n1 d1 k1] W fun e w' => e = .returned (.bool r1) ∧ Below W.heap.size W w')
    (c2 : ∀ W, Calls Tryd.prog 18 #[decV n2 d2 k2] W fun e w' => e = .returned (.bool r2) ∧ Below W.heap.size W w') (w : World) (hT : G.Tab_ w) :
    Calls Tryd.prog 13 #[decV n1 d1 k1, decV n2 d2 k2] w fun e w' => e = .returned (.bool true) ∧ Below w.heap.size w w' := by
  have hS := Two.start w n1 n2 d1 d2 k1 k2 hT
  have cH := fun W (h : Two w n1 n2 d1 d2 k1 k2 W) => h.calls (head2_any W h.tab)
  have cA := fun W (h : Two w n1 n2 d1 d2 k1 k2 W) => h.calls (c1 W)
  have cB := fun W (h : Two w n1 n2 d1 d2 k1 k2 W) => h.calls (c2 W)
  unfold decV at *
  rcases r1 with _ | _
  rotate_left
  rcases r2 with _ | _
  rotate_left
  · exact absurd hr (by decide)
  all_goals
    clear hr c1 c2
    go_enter Tryd.func13, Tryd.ntmps13
    go_wp2_with (first
      | (go_at_call 34; ((with_reducible refine (cH _ (by first | assumption | (refine Two.drew ?_; assumption))).mono ?_); rintro e W1 ⟨rfl, hH1, b1⟩; obtain ⟨q0, q1, q2, q3, q4, q5⟩ := hH1.get))
      | (go_at_call 18; ((with_reducible refine (cA _ (by first | assumption | (refine Two.drew ?_; assumption))).mono ?_); rintro e W2 ⟨rfl, hH2, b2⟩; obtain ⟨q0, q1, q2, q3, q4, q5⟩ := hH2.get))
      | (go_at_call 18; ((with_reducible refine (cB _ (by first | assumption | (refine Two.drew ?_; assumption))).mono ?_); rintro e W3 ⟨rfl, hH3, b3⟩; obtain ⟨q0, q1, q2, q3, q4, q5⟩ := hH3.get)))
    go_ret
    exact ⟨rfl, by first | exact hH3.bel | exact hH2.bel⟩
structure Fx (g : Nat) (X : Array Value) (W : World) : Prop where
  blk : W.heap[g]? = some (.cells X 69 (0, 0))
  sz : X.size = 200
theorem Fx.step {g : Nat} {X : Array Value} {W W1 : World} (h : Fx g X W) (c : Below W.heap.size W W1) : Fx g X W1 := ⟨below_blockOf c (Nat.le_refl _) h.blk, h.sz⟩
theorem Fx.ld {g : Nat} {X : Array Value} {W : World} (h : Fx g X W) : (Instr.loadAt 69 (.pointer (some ⟨g, 0, none⟩))).run Tryd.prog W = .ok (.agg X) W := run_loadAt_fix h.blk h.sz
theorem Fx.new {W : World} {X : Array Value} (h : X.size = 200) : Fx W.heap.size X (W.alloc (.cells X 69)) := ⟨heap_alloc_new W _, h⟩
theorem fixC_one (f : Nat → Int) : (fixC f).all (·.oneCell') = true := by simp [fixC, Value.oneCell']
theorem zc_fix : Tryd.zeroCells69 = fixC fun _ => 0 := zc_eq
end Go.Proofs.YtonjkoeacedaiaaDoor
namespace Go.Proofs.YtonjkoeacedaiaaDoor
open Go.RowKit
set_option linter.unusedVariables false
set_option linter.unusedSimpArgs false
theorem run_build_zc (W : World) : (Instr.build 69 #[]).run Tryd.prog W = .ok (.agg Tryd.zeroCells69) W := by kernel_rfl
theorem eqGuard_fix (op : BinOp) (x y : Operand) (X Y : Array Value) (W : World) : (eqGuard op 69 x y (.agg X) (.agg Y)).run Tryd.prog W = .ok () W := by
  have hg : Tryd.prog.eqGuardType Tryd.prog.depth 69 = false := by kernel_rfl
  cases op <;> simp [eqGuard, go_sem, hg]
theorem run_build_fix {Z : Array Value} (hZ : fixC (fun _ => 0) = Z) (W : World) : (Instr.build 69 #[]).run Tryd.prog W = .ok (.agg Z) W := by
  rw [run_build_zc, zc_fix, hZ]
theorem exec_load_fix {o : Oper} {ρ : Operand → Value} {W : World} {g : Nat} {X : Array Value} (h : Fx g X W) (x : Operand) (ho : o.op = .load 69 x) (hx : ρ x = .pointer (some ⟨g, 0, none⟩)) : (execOp ρ o).run Tryd.prog W = .ok (.value (.agg X)) W := by
  unfold execOp
  simp only [ho, hx, Sem.run_bind, h.ld, Result.andThen_ok, Sem.run_pure]
theorem exec_build_fix {o : Oper} {ρ : Operand → Value} {Z : Array Value} (hZ : fixC (fun _ => 0) = Z) (W : World) (ho : o.op = .build 69 #[]) : (execOp ρ o).run Tryd.prog W = .ok (.value (.agg Z)) W := by
  unfold execOp
  simp only [ho, List.map_toArray, List.map_nil, Sem.run_bind, run_build_fix hZ W, Result.andThen_ok, Sem.run_pure]
theorem exec_eql_fix {o : Oper} {ρ : Operand → Value} {X Y : Array Value} {z : Bool} {W : World} (hE : (Op.equal 69 (.agg X) (.agg Y)).run Tryd.prog W = .ok z W) (x y : Operand) (t : TypeId) (ho : o.op = .binOp .eql 69 x y t) (hx : ρ x = .agg X) (hy : ρ y = .agg Y) : (execOp ρ o).run Tryd.prog W = .ok (.value (.bool z)) W := by
  unfold execOp
  simp only [ho, hx, hy, Sem.run_bind, eqGuard_fix, Result.andThen_ok, binOp, hE, Sem.run_pure]
theorem exec_neq_fix {o : Oper} {ρ : Operand → Value} {X Y : Array Value} {z : Bool} {W : World} (hE : (Op.equal 69 (.agg X) (.agg Y)).run Tryd.prog W = .ok z W) (x y : Operand) (t : TypeId) (ho : o.op = .binOp .neq 69 x y t) (hx : ρ x = .agg X) (hy : ρ y = .agg Y) : (execOp ρ o).run Tryd.prog W = .ok (.value (.bool (!z))) W := by
  unfold execOp
  simp only [ho, hx, hy, Sem.run_bind, eqGuard_fix, Result.andThen_ok, binOp, hE, Sem.run_pure]
section
variable {ops : Array Oper} {rest : List Oper} {o : Oper} {a : Act} {Q : Exit → Act → World → Prop} {W : World}
theorem wpl_value {v : Value} {W1 : World} (hw : Region.wanted o (yielded ops a.tmps) = true) (hr : (execOp a.eval o).run Tryd.prog W = .ok (.value v) W1) (h : wpList Tryd.prog ops Q rest (a.put o.dst v) W1) : wpList Tryd.prog ops Q (o :: rest) a W := by
  refine BigFrame.wpList_want hw fun K hK => ?_
  unfold Oper.wp
  rw [hr]
  exact hK _ _ h
theorem wpl_load_fix {g : Nat} {X : Array Value} (h : Fx g X W) (x : Operand) (ho : o.op = .load 69 x) (hw : Region.wanted o (yielded ops a.tmps) = true) (hx : a.eval x = .pointer (some ⟨g, 0, none⟩)) (k : wpList Tryd.prog ops Q rest (a.put o.dst (.agg X)) W) : wpList Tryd.prog ops Q (o :: rest) a W := wpl_value hw (exec_load_fix h x ho hx) k
theorem wpl_build_fix {Z : Array Value} (hZ : fixC (fun _ => 0) = Z) (ho : o.op = .build 69 #[]) (hw : Region.wanted o (yielded ops a.tmps) = true) (k : wpList Tryd.prog ops Q rest (a.put o.dst (.agg Z)) W) : wpList Tryd.prog ops Q (o :: rest) a W := wpl_value hw (exec_build_fix hZ W ho) k
theorem wpl_neq_fix {X Y : Array Value} {z : Bool} (hE : (Op.equal 69 (.agg X) (.agg Y)).run Tryd.prog W = .ok z W) (x y : Operand) (t : TypeId) (ho : o.op = .binOp .neq 69 x y t) (hw : Region.wanted o (yielded ops a.tmps) = true) (hx : a.eval x = .agg X) (hy : a.eval y = .agg Y) (k : wpList Tryd.prog ops Q rest (a.put o.dst (.bool (!z))) W) : wpList Tryd.prog ops Q (o :: rest) a W := wpl_value hw (exec_neq_fix hE x y t ho hx hy) k
end
end Go.Proofs.YtonjkoeacedaiaaDoor
