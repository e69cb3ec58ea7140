/- of the words of categories just one is meant of any number (Text 6 of 7: what the law's proof rests on, joined; walks printed by the kit's print over given contracts, walks and plain laws by hand.) -/
import Derived.Test.YtgjboghnnhcgiaaGreatDoorVon0
import Derived.Test.YtgjboghnnhcgiaaGreatDoorVon1
import Derived.Test.YtgjboghnnhcgiaaGreatDoorVon2
import Derived.Test.YtgjboghnnhcgiaaGreatDoorVon3
import Derived.Test.YtgjboghnnhcgiaaGreatDoorVon4
namespace Go.Proofs.YtgjboghnnhcgiaaGreatDoor.Z
open Go.RowKit Go.Proofs.YtgjboghnnhcgiaaGreatDoor.GV Go.Proofs.YtgjboghnnhcgiaaGreatDoor.U Go.Proofs.YtgjboghnnhcgiaaGreatDoorW.PrintWords Go.Proofs.YtgjboghnnhcgiaaGreatDoorW.PrintLast Go.Proofs.YtgjboghnnhcgiaaGreatDoorW.PrintMore
attribute [local go_sem] max2_int min2_int max_two min_two max_three min_three max_four min_four
set_option linter.unusedVariables false
set_option linter.unusedSimpArgs false
def polyglotlaw12_Opts.l0 : Nat → List (S78) → Int → Int → Int → Int → Int → Bool → Bool → Option (Int × Int × Int × Bool × Bool)
  | 0, _, _, _, _, _, _, _, _ => none
  | k + 1, x9, x10, x11, x108000, x108001, x108002, x108003, x108004 => if x11 < x10 then (if 0 ≤ x11 then (if x11 < (x9.length : Int) then ((number_Opts_Set.f x108000 x108001 x108002 x108003 x108004 ((rd_T78 x9 x11).f0) ((rd_T78 x9 x11).f1) ((rd_T78 x9 x11).f2.f0) ((rd_T78 x9 x11).f2.f1) ((rd_T78 x9 x11).f2.f2) ((rd_T78 x9 x11).f3)).bind fun bt110 => (if bt110.2.2.2.2.2 = 0 then (polyglotlaw12_Opts.l0 k x9 x10 (wrap64 (x11 + 1)) bt110.1 bt110.2.1 bt110.2.2.1 bt110.2.2.2.1 bt110.2.2.2.2.1) else (polyglotlaw12_Opts.l0 k x9 x10 (wrap64 (x11 + 1)) x108000 x108001 x108002 x108003 x108004))) else (none)) else (none)) else (some (x108000, x108001, x108002, x108003, x108004))
def polyglotlaw12_Opts.f (k : Nat) (l0 : List (S78)) : Option (Int × Int × Int × Bool × Bool) := (number_Default.f).bind fun bt102 => (polyglotlaw12_Opts.l0 k l0 (l0.length : Int) 0 bt102.1 bt102.2.1 bt102.2.2.1 bt102.2.2.2.1 bt102.2.2.2.2)
theorem polyglotlaw12_Opts.mono_l : ∀ k, (∀ y0 y1 y2 y3 y4 y5 y6 y7, LeO (polyglotlaw12_Opts.l0 k y0 y1 y2 y3 y4 y5 y6 y7) (polyglotlaw12_Opts.l0 (k + 1) y0 y1 y2 y3 y4 y5 y6 y7))
  | 0 => fun _ _ _ _ _ _ _ _ r h => by simp [polyglotlaw12_Opts.l0] at h
  | k + 1 => by
    have ih0 := polyglotlaw12_Opts.mono_l k
    · intro y0 y1 y2 y3 y4 y5 y6 y7
      unfold polyglotlaw12_Opts.l0
      repeat' first
      | (with_reducible exact ih0 _ _ _ _ _ _ _ _)
      | (with_reducible exact LeO.refl _)
      | (with_reducible exact LeO.none _)
      | (with_reducible refine LeO.ite ?_ ?_)
      | (with_reducible refine LeO.bind ?_ (fun _ => ?_))
      | exact ih0 _ _ _ _ _ _ _ _
      | exact LeO.none _
      | refine LeO.ite ?_ ?_
      | refine LeO.bind ?_ (fun _ => ?_)
theorem polyglotlaw12_Opts.mono : ∀ a0 k, LeO (polyglotlaw12_Opts.f k a0) (polyglotlaw12_Opts.f (k + 1) a0) := by
  intro a0 k
  have ih0 := polyglotlaw12_Opts.mono_l k
  unfold polyglotlaw12_Opts.f
  repeat' first
      | (with_reducible exact ih0 _ _ _ _ _ _ _ _)
      | (with_reducible exact LeO.refl _)
      | (with_reducible exact LeO.none _)
      | (with_reducible refine LeO.ite ?_ ?_)
      | (with_reducible refine LeO.bind ?_ (fun _ => ?_))
      | exact ih0 _ _ _ _ _ _ _ _
      | exact LeO.none _
      | refine LeO.ite ?_ ?_
      | refine LeO.bind ?_ (fun _ => ?_)
set_option maxHeartbeats 8000000 in
set_option maxRecDepth 100000 in
theorem polyglotlaw12_Opts.calls (k : Nat) (A0 : Option Addr) (c0 : Nat) (l0 : List (S78)) (r1 : Int) (r2 : Int) (r3 : Int) (r4 : Bool) (r5 : Bool) (w : World) (hr0 : Kd.C k78 w A0 l0.length l0) (hc0 : l0.length ≤ c0) (h : polyglotlaw12_Opts.f k l0 = some (r1, r2, r3, r4, r5)) :
    Calls Tryz.prog 19 #[.slice A0 l0.length c0] w fun e w' => e = .returned (.agg #[.int .i64 r1, .int .i64 r2, .int .i64 r3, .bool r4, .bool r5]) ∧ Below w.heap.size w w' := by
  have hu28 := Tryz.underlying28
  have hu78 := Tryz.underlying78
  have hu23 := Tryz.underlying23
  have HR0 := Aside0.mk hr0
  have HC0 := Aside0.mk hc0
  clear hr0 hc0
  have HB := Aside0.mk (Below.refl w.heap.size w)
  have H : ((number_Default.f).bind fun bt102 => (polyglotlaw12_Opts.l0 k l0 (l0.length : Int) 0 bt102.1 bt102.2.1 bt102.2.2.1 bt102.2.2.2.1 bt102.2.2.2.2)) = some (r1, r2, r3, r4, r5) := h
  clear h
  replace H := Option.bind_eq_some_iff.mp H
  obtain ⟨⟨t102, t103, t104, t105, t106⟩, A20, H⟩ := H
  replace H : (polyglotlaw12_Opts.l0 k l0 (l0.length : Int) 0 t102 t103 t104 t105 t106) = some (r1, r2, r3, r4, r5) := H
  have A2 := Aside0.mk A20
  clear A20
  have H' := Aside0.mk H
  clear H
  go_enter Tryz.func19, Tryz.ntmps19
  go_wp2_with (first | ((with_reducible refine gate_dst (N := 2) rfl ?_); refine box_event ?hg (N := 2) ?hd (cs := #[.int .i64 0, .int .i64 0, .int .i64 0, .bool false, .bool false]) (t := 28) ?hr ?_; (case hd => rfl); (case hg => rfl); (case hr => first | (go_simp; done) | (go_simp; rfl)); intro gb101 hg w3 hbox hb; have n0_ := Aside0.mk (below_step (by repeat (first | (with_reducible first | exact HB.out | apply below_alloc | apply pw_below_drewN | apply below_drew1) | exact HB.out)) hb); have n1_ := Aside0.mk (hbox); have n2_ := Aside0.mk ((by rw [hg]; exact (below_size (by repeat (first | (with_reducible first | exact HB.out | apply below_alloc | apply pw_below_drewN | apply below_drew1) | exact HB.out))) : w.heap.size ≤ gb101)); have n3_ := Aside0.mk ((by rw [hg]; exact (below_size (by repeat (first | (with_reducible first | exact HB.out | apply below_alloc | apply pw_below_drewN | apply below_drew1) | exact HB.out))) : w.heap.size ≤ gb101)); clear HB; have HB := n0_; have BK101 := n1_; have GW101 := n2_; have GE101 := n3_; clear n0_ n1_ n2_ n3_; clear hb hbox hg) | ((with_reducible refine gate_callee (f := 24) rfl ?_); refine goesL_ (some 8) rfl rfl Tryz.func24 (by kernel_rfl) rfl #[] rfl (by (try simp only [List.map_toArray, List.map_cons, List.map_nil]); first | done | rfl | (simp only [List.length_drop, List.length_take]; rfl)) ?_; (with_reducible refine (number_Default.calls  t102 t103 t104 t105 t106 _ A2.out).mono ?_); rintro e w4 ⟨rfl, hb⟩; refine ⟨_, rfl, ?_⟩; have n0_ := Aside0.mk (blk_below (g := gb101) (o := .cells #[.int .i64 0, .int .i64 0, .int .i64 0, .bool false, .bool false] 28 (0, 0)) (by (with_reducible repeat (first | refine blk_drewN ?_ _ | refine blk_drew ?_ | refine blk_alloc ?_ _)); exact BK101.out) hb); have n1_ := Aside0.mk (below_step (by repeat (first | (with_reducible first | exact HB.out | apply below_alloc | apply pw_below_drewN | apply below_drew1 | refine below_set ?_ GE101.out) | exact HB.out)) hb); clear BK101; clear HB; have BK101 := n0_; have HB := n1_; clear n0_ n1_; (try clear hb); (try clear hb2); (try clear hk); (try clear hi)) | ((with_reducible refine gate_dst (N := 3) rfl ?_); refine box_event ?hg (N := 3) ?hd (cs := #[.int .i64 0, .int .i64 0, .int .i64 0, .bool false, .bool false]) (t := 28) ?hr ?_; (case hd => rfl); (case hg => rfl); (case hr => first | (go_simp; done) | (go_simp; rfl)); intro gb107 hg w5 hbox hb; have n0_ := Aside0.mk (blk_below (g := gb101) (o := .cells #[.int .i64 0, .int .i64 0, .int .i64 0, .bool false, .bool false] 28 (0, 0)) (by (with_reducible repeat (first | refine blk_drewN ?_ _ | refine blk_drew ?_ | refine blk_alloc ?_ _)); exact BK101.out) hb); have n1_ := Aside0.mk (below_step (by repeat (first | (with_reducible first | exact HB.out | apply below_alloc | apply pw_below_drewN | apply below_drew1 | refine below_set ?_ GE101.out) | exact HB.out)) hb); have n2_ := Aside0.mk (hbox); have n3_ := Aside0.mk ((by rw [hg]; exact (below_size (by repeat (first | (with_reducible first | exact HB.out | apply below_alloc | apply pw_below_drewN | apply below_drew1 | refine below_set ?_ GE101.out) | exact HB.out))) : w.heap.size ≤ gb107)); have n4_ := Aside0.mk ((by rw [hg]; exact (below_size (by repeat (first | (with_reducible first | exact HB.out | apply below_alloc | apply pw_below_drewN | apply below_drew1 | refine below_set ?_ GE101.out) | exact HB.out))) : w.heap.size ≤ gb107)); have n5_ := Aside0.mk ((by rw [hg]; exact Nat.ne_of_lt (blk_lt (g := gb101) (o := .cells #[.int .i64 0, .int .i64 0, .int .i64 0, .bool false, .bool false] 28 (0, 0)) (by (with_reducible repeat (first | refine blk_drewN ?_ _ | refine blk_drew ?_ | refine blk_alloc ?_ _)); exact BK101.out)) : gb101 ≠ gb107)); have n6_ := Aside0.mk ((by rw [hg]; exact Nat.ne_of_gt (blk_lt (g := gb101) (o := .cells #[.int .i64 0, .int .i64 0, .int .i64 0, .bool false, .bool false] 28 (0, 0)) (by (with_reducible repeat (first | refine blk_drewN ?_ _ | refine blk_drew ?_ | refine blk_alloc ?_ _)); exact BK101.out)) : gb107 ≠ gb101)); clear BK101; clear HB; have BK101 := n0_; have HB := n1_; have BK107 := n2_; have GW107 := n3_; have GE107 := n4_; have NB101_107 := n5_; have NB107_101 := n6_; clear n0_ n1_ n2_ n3_ n4_ n5_ n6_; clear hb hbox hg; have hnb6 := NB107_101.out; have hnc6 := NB101_107.out; have hcz7_0 : w5.cell? ⟨gb107, 0, none⟩ = some (.int .i64 0) := (blk_cell BK107.out 0).trans rfl; have hcz7_1 : w5.cell? ⟨gb107, 1, none⟩ = some (.int .i64 0) := (blk_cell BK107.out 1).trans rfl; have hcz7_2 : w5.cell? ⟨gb107, 2, none⟩ = some (.int .i64 0) := (blk_cell BK107.out 2).trans rfl; have hcz7_3 : w5.cell? ⟨gb107, 3, none⟩ = some (.bool false) := (blk_cell BK107.out 3).trans rfl; have hcz7_4 : w5.cell? ⟨gb107, 4, none⟩ = some (.bool false) := (blk_cell BK107.out 4).trans rfl; have hfz7_0 := blk_frozen BK107.out 0; have hfz7_1 := blk_frozen BK107.out 1; have hfz7_2 := blk_frozen BK107.out 2; have hfz7_3 := blk_frozen BK107.out 3; have hfz7_4 := blk_frozen BK107.out 4))
  go_loopg [11] k (fun kq v11 w' => ∃ (x11_1 : Int) (x108000_1 : Int) (x108001_1 : Int) (x108002_1 : Int) (x108003_1 : Bool) (x108004_1 : Bool), v11 = .int .i64 x11_1 ∧ Aside0 (polyglotlaw12_Opts.l0 kq l0 (l0.length : Int) x11_1 x108000_1 x108001_1 x108002_1 x108003_1 x108004_1 = some (r1, r2, r3, r4, r5)) ∧ Aside0 (kq ≤ k) ∧ Aside0 (w'.heap[gb101]? = some (.cells #[.int .i64 0, .int .i64 0, .int .i64 0, .bool false, .bool false] 28 (0, 0))) ∧ Aside0 (w'.heap[gb107]? = some (.cells #[.int .i64 x108000_1, .int .i64 x108001_1, .int .i64 x108002_1, .bool x108003_1, .bool x108004_1] 28 (0, 0))) ∧ Aside0 (Below w.heap.size w w'))
  case atStart => exact ⟨(0), (t102), (t103), (t104), (t105), (t106), (by first | rfl | (simp; done) | (simp [*]; done)), H', ⟨Nat.le_refl _⟩, ⟨by (with_reducible repeat (first | refine blk_drewN ?_ _ | refine blk_drew ?_ | refine blk_alloc ?_ _)); refine blk_far ?_ NB101_107.out _; (with_reducible repeat (first | refine blk_drewN ?_ _ | refine blk_drew ?_ | refine blk_alloc ?_ _)); refine blk_far ?_ NB101_107.out _; (with_reducible repeat (first | refine blk_drewN ?_ _ | refine blk_drew ?_ | refine blk_alloc ?_ _)); refine blk_far ?_ NB101_107.out _; (with_reducible repeat (first | refine blk_drewN ?_ _ | refine blk_drew ?_ | refine blk_alloc ?_ _)); refine blk_far ?_ NB101_107.out _; (with_reducible repeat (first | refine blk_drewN ?_ _ | refine blk_drew ?_ | refine blk_alloc ?_ _)); refine blk_far ?_ NB101_107.out _; (with_reducible repeat (first | refine blk_drewN ?_ _ | refine blk_drew ?_ | refine blk_alloc ?_ _)); exact BK101.out⟩, ⟨by (with_reducible repeat (first | refine blk_drewN ?_ _ | refine blk_drew ?_ | refine blk_alloc ?_ _)); refine blk_put (cs := #[.int .i64 t102, .int .i64 t103, .int .i64 t104, .bool t105, .bool false]) ?_ 4 _ rfl; (with_reducible repeat (first | refine blk_drewN ?_ _ | refine blk_drew ?_ | refine blk_alloc ?_ _)); refine blk_put (cs := #[.int .i64 t102, .int .i64 t103, .int .i64 t104, .bool false, .bool false]) ?_ 3 _ rfl; (with_reducible repeat (first | refine blk_drewN ?_ _ | refine blk_drew ?_ | refine blk_alloc ?_ _)); refine blk_put (cs := #[.int .i64 t102, .int .i64 t103, .int .i64 0, .bool false, .bool false]) ?_ 2 _ rfl; (with_reducible repeat (first | refine blk_drewN ?_ _ | refine blk_drew ?_ | refine blk_alloc ?_ _)); refine blk_put (cs := #[.int .i64 t102, .int .i64 0, .int .i64 0, .bool false, .bool false]) ?_ 1 _ rfl; (with_reducible repeat (first | refine blk_drewN ?_ _ | refine blk_drew ?_ | refine blk_alloc ?_ _)); refine blk_put (cs := #[.int .i64 0, .int .i64 0, .int .i64 0, .bool false, .bool false]) ?_ 0 _ rfl; (with_reducible repeat (first | refine blk_drewN ?_ _ | refine blk_drew ?_ | refine blk_alloc ?_ _)); exact BK107.out⟩, ⟨by repeat (first | (with_reducible first | exact HB.out | apply below_alloc | apply pw_below_drewN | apply below_drew1 | refine below_set ?_ GE101.out | refine below_set ?_ GE107.out) | exact HB.out)⟩⟩
  case round =>
    clear H'
    try clear c1
    try clear c2
    try clear p2
    try clear c6
    try clear hcz7_0
    try clear hcz7_1
    try clear hcz7_2
    try clear hcz7_3
    try clear hcz7_4
    try clear hfz7_0
    try clear hfz7_1
    try clear hfz7_2
    try clear hfz7_3
    try clear hfz7_4
    obtain ⟨x11_1, x108000_1, x108001_1, x108002_1, x108003_1, x108004_1, rfl, HA, HK1, BK101, BK107, HB⟩ := hrel
    cases gk with
    | zero => exact absurd HA.out (by simp [polyglotlaw12_Opts.l0])
    | succ k1 =>
      have H := HA.out
      clear HA
      simp only [polyglotlaw12_Opts.l0] at H
      by_cases c8 : x11_1 < (l0.length : Int)
      · rw [if_pos c8] at H
        have c8b0 : decide (x11_1 < (l0.length : Int)) = true := decide_eq_true c8
        clear c8
        by_cases c9 : 0 ≤ x11_1
        · rw [if_pos c9] at H
          have c9b0 : decide (0 ≤ x11_1) = true := decide_eq_true c9
          clear c9
          by_cases c10 : x11_1 < (l0.length : Int)
          · rw [if_pos c10] at H
            have c10b0 : decide (x11_1 < (l0.length : Int)) = true := decide_eq_true c10
            clear c10
            replace H := Option.bind_eq_some_iff.mp H
            obtain ⟨⟨t110, t111, t112, t113, t114, t115⟩, A110, H⟩ := H
            replace H : (if t115 = 0 then (polyglotlaw12_Opts.l0 k1 l0 (l0.length : Int) (wrap64 (x11_1 + 1)) t110 t111 t112 t113 t114) else (polyglotlaw12_Opts.l0 k1 l0 (l0.length : Int) (wrap64 (x11_1 + 1)) x108000_1 x108001_1 x108002_1 x108003_1 x108004_1)) = some (r1, r2, r3, r4, r5) := H
            have A11 := Aside0.mk A110
            clear A110
            by_cases c12 : t115 = 0
            · rw [if_pos c12] at H
              have c12b0 : (t115 == 0) = true := beq_iff_eq.mpr c12
              have c12b1 : (t115 != 0) = false := bne_eq_false_iff_eq.mpr c12
              clear c12
              have H' := Aside0.mk H
              clear H
              have p108 : 0 ≤ (x11_1 : Int) := of_decide_eq_true (by first | (with_reducible assumption) | assumption)
              have q108 : x11_1 < (l0.length : Int) := of_decide_eq_true (by first | (with_reducible assumption) | assumption)
              obtain ⟨ad108, e108, hx108_0, hx108_1, hx108_2, hx108_3, hx108_4, hx108_5⟩ := at_T78 HR0.out x11_1 p108 q108
              cases e108
              replace hx108_0 := (HB.out.cell (World.block_lt_of_cell? w _ hx108_0)).trans hx108_0
              replace hx108_1 := (HB.out.cell (World.block_lt_of_cell? w _ hx108_1)).trans hx108_1
              replace hx108_2 := (HB.out.cell (World.block_lt_of_cell? w _ hx108_2)).trans hx108_2
              replace hx108_3 := (HB.out.cell (World.block_lt_of_cell? w _ hx108_3)).trans hx108_3
              replace hx108_4 := (HB.out.cell (World.block_lt_of_cell? w _ hx108_4)).trans hx108_4
              replace hx108_5 := (HB.out.cell (World.block_lt_of_cell? w _ hx108_5)).trans hx108_5
              replace p108 := eq_true p108
              replace q108 := eq_true q108
              go_wp2_with (first | ((with_reducible refine gate_dst (N := 5) rfl ?_); refine box_event ?hg (N := 5) ?hd (cs := #[.string (⟨#[]⟩ : ByteArray), .string (⟨#[]⟩ : ByteArray), .bool false, .string (⟨#[]⟩ : ByteArray), .int .i64 0, .bool false]) (t := 78) ?hr ?_; (case hd => rfl); (case hg => rfl); (case hr => first | (go_simp; done) | (go_simp; rfl)); intro gb109 hg w13 hbox hb; have n0_ := Aside0.mk (blk_below (g := gb101) (o := .cells #[.int .i64 0, .int .i64 0, .int .i64 0, .bool false, .bool false] 28 (0, 0)) (by (with_reducible repeat (first | refine blk_drewN ?_ _ | refine blk_drew ?_ | refine blk_alloc ?_ _)); exact BK101.out) hb); have n1_ := Aside0.mk (blk_below (g := gb107) (o := .cells #[.int .i64 x108000_1, .int .i64 x108001_1, .int .i64 x108002_1, .bool x108003_1, .bool x108004_1] 28 (0, 0)) (by (with_reducible repeat (first | refine blk_drewN ?_ _ | refine blk_drew ?_ | refine blk_alloc ?_ _)); exact BK107.out) hb); have n2_ := Aside0.mk (below_step (by repeat (first | (with_reducible first | exact HB.out | apply below_alloc | apply pw_below_drewN | apply below_drew1 | refine below_set ?_ GE101.out | refine below_set ?_ GE107.out) | exact HB.out)) hb); have n3_ := Aside0.mk (hbox); have n4_ := Aside0.mk ((by rw [hg]; exact (below_size (by repeat (first | (with_reducible first | exact HB.out | apply below_alloc | apply pw_below_drewN | apply below_drew1 | refine below_set ?_ GE101.out | refine below_set ?_ GE107.out) | exact HB.out))) : w.heap.size ≤ gb109)); have n5_ := Aside0.mk ((by rw [hg]; exact (below_size (by repeat (first | (with_reducible first | exact HB.out | apply below_alloc | apply pw_below_drewN | apply below_drew1 | refine below_set ?_ GE101.out | refine below_set ?_ GE107.out) | exact HB.out))) : w.heap.size ≤ gb109)); have n6_ := Aside0.mk ((by rw [hg]; exact Nat.ne_of_lt (blk_lt (g := gb101) (o := .cells #[.int .i64 0, .int .i64 0, .int .i64 0, .bool false, .bool false] 28 (0, 0)) (by (with_reducible repeat (first | refine blk_drewN ?_ _ | refine blk_drew ?_ | refine blk_alloc ?_ _)); exact BK101.out)) : gb101 ≠ gb109)); have n7_ := Aside0.mk ((by rw [hg]; exact Nat.ne_of_gt (blk_lt (g := gb101) (o := .cells #[.int .i64 0, .int .i64 0, .int .i64 0, .bool false, .bool false] 28 (0, 0)) (by (with_reducible repeat (first | refine blk_drewN ?_ _ | refine blk_drew ?_ | refine blk_alloc ?_ _)); exact BK101.out)) : gb109 ≠ gb101)); have n8_ := Aside0.mk ((by rw [hg]; exact Nat.ne_of_lt (blk_lt (g := gb107) (o := .cells #[.int .i64 x108000_1, .int .i64 x108001_1, .int .i64 x108002_1, .bool x108003_1, .bool x108004_1] 28 (0, 0)) (by (with_reducible repeat (first | refine blk_drewN ?_ _ | refine blk_drew ?_ | refine blk_alloc ?_ _)); exact BK107.out)) : gb107 ≠ gb109)); have n9_ := Aside0.mk ((by rw [hg]; exact Nat.ne_of_gt (blk_lt (g := gb107) (o := .cells #[.int .i64 x108000_1, .int .i64 x108001_1, .int .i64 x108002_1, .bool x108003_1, .bool x108004_1] 28 (0, 0)) (by (with_reducible repeat (first | refine blk_drewN ?_ _ | refine blk_drew ?_ | refine blk_alloc ?_ _)); exact BK107.out)) : gb109 ≠ gb107)); clear BK101; clear BK107; clear HB; have BK101 := n0_; have BK107 := n1_; have HB := n2_; have BK109 := n3_; have GW109 := n4_; have GE109 := n5_; have NB101_109 := n6_; have NB109_101 := n7_; have NB107_109 := n8_; have NB109_107 := n9_; clear n0_ n1_ n2_ n3_ n4_ n5_ n6_ n7_ n8_ n9_; clear hb hbox hg; have hnb14 := NB109_101.out; have hnc14 := NB101_109.out; have hnb15 := NB109_107.out; have hnc15 := NB107_109.out; have hcz16_0 : w13.cell? ⟨gb109, 0, none⟩ = some (.string (⟨#[]⟩ : ByteArray)) := (blk_cell BK109.out 0).trans rfl; have hcz16_1 : w13.cell? ⟨gb109, 1, none⟩ = some (.string (⟨#[]⟩ : ByteArray)) := (blk_cell BK109.out 1).trans rfl; have hcz16_2 : w13.cell? ⟨gb109, 2, none⟩ = some (.bool false) := (blk_cell BK109.out 2).trans rfl; have hcz16_3 : w13.cell? ⟨gb109, 3, none⟩ = some (.string (⟨#[]⟩ : ByteArray)) := (blk_cell BK109.out 3).trans rfl; have hcz16_4 : w13.cell? ⟨gb109, 4, none⟩ = some (.int .i64 0) := (blk_cell BK109.out 4).trans rfl; have hcz16_5 : w13.cell? ⟨gb109, 5, none⟩ = some (.bool false) := (blk_cell BK109.out 5).trans rfl; have hfz16_0 := blk_frozen BK109.out 0; have hfz16_1 := blk_frozen BK109.out 1; have hfz16_2 := blk_frozen BK109.out 2; have hfz16_3 := blk_frozen BK109.out 3; have hfz16_4 := blk_frozen BK109.out 4; have hfz16_5 := blk_frozen BK109.out 5; have hnb17 := NB107_101.out; have hnc17 := NB101_107.out; have hcz18_0 : w13.cell? ⟨gb107, 0, none⟩ = some (.int .i64 x108000_1) := (blk_cell BK107.out 0).trans rfl; have hcz18_1 : w13.cell? ⟨gb107, 1, none⟩ = some (.int .i64 x108001_1) := (blk_cell BK107.out 1).trans rfl; have hcz18_2 : w13.cell? ⟨gb107, 2, none⟩ = some (.int .i64 x108002_1) := (blk_cell BK107.out 2).trans rfl; have hcz18_3 : w13.cell? ⟨gb107, 3, none⟩ = some (.bool x108003_1) := (blk_cell BK107.out 3).trans rfl; have hcz18_4 : w13.cell? ⟨gb107, 4, none⟩ = some (.bool x108004_1) := (blk_cell BK107.out 4).trans rfl; have hfz18_0 := blk_frozen BK107.out 0; have hfz18_1 := blk_frozen BK107.out 1; have hfz18_2 := blk_frozen BK107.out 2; have hfz18_3 := blk_frozen BK107.out 3; have hfz18_4 := blk_frozen BK107.out 4) | ((with_reducible refine gate_callee (f := 37) rfl ?_); refine goesL_ (some 25) rfl rfl Tryz.func37 (by kernel_rfl) rfl #[.agg #[.int .i64 x108000_1, .int .i64 x108001_1, .int .i64 x108002_1, .bool x108003_1, .bool x108004_1], .string ((rd_T78 l0 x11_1).f0), .string ((rd_T78 l0 x11_1).f1), .agg #[.bool ((rd_T78 l0 x11_1).f2.f0), .string ((rd_T78 l0 x11_1).f2.f1), .int .i64 ((rd_T78 l0 x11_1).f2.f2)], .bool ((rd_T78 l0 x11_1).f3)] rfl (by (try simp only [List.map_toArray, List.map_cons, List.map_nil]); first | done | rfl | (simp only [List.length_drop, List.length_take]; rfl)) ?_; (with_reducible refine (number_Opts_Set.calls x108000_1 x108001_1 x108002_1 x108003_1 x108004_1 ((rd_T78 l0 x11_1).f0) ((rd_T78 l0 x11_1).f1) ((rd_T78 l0 x11_1).f2.f0) ((rd_T78 l0 x11_1).f2.f1) ((rd_T78 l0 x11_1).f2.f2) ((rd_T78 l0 x11_1).f3) t110 t111 t112 t113 t114 t115 _ A11.out).mono ?_); rintro e w19 ⟨rfl, hb⟩; refine ⟨_, rfl, ?_⟩; have n0_ := Aside0.mk (blk_below (g := gb101) (o := .cells #[.int .i64 0, .int .i64 0, .int .i64 0, .bool false, .bool false] 28 (0, 0)) (by (with_reducible repeat (first | refine blk_drewN ?_ _ | refine blk_drew ?_ | refine blk_alloc ?_ _)); refine blk_far ?_ NB101_109.out _; (with_reducible repeat (first | refine blk_drewN ?_ _ | refine blk_drew ?_ | refine blk_alloc ?_ _)); refine blk_far ?_ NB101_109.out _; (with_reducible repeat (first | refine blk_drewN ?_ _ | refine blk_drew ?_ | refine blk_alloc ?_ _)); refine blk_far ?_ NB101_109.out _; (with_reducible repeat (first | refine blk_drewN ?_ _ | refine blk_drew ?_ | refine blk_alloc ?_ _)); refine blk_far ?_ NB101_109.out _; (with_reducible repeat (first | refine blk_drewN ?_ _ | refine blk_drew ?_ | refine blk_alloc ?_ _)); refine blk_far ?_ NB101_109.out _; (with_reducible repeat (first | refine blk_drewN ?_ _ | refine blk_drew ?_ | refine blk_alloc ?_ _)); refine blk_far ?_ NB101_109.out _; (with_reducible repeat (first | refine blk_drewN ?_ _ | refine blk_drew ?_ | refine blk_alloc ?_ _)); exact BK101.out) hb); have n1_ := Aside0.mk (blk_below (g := gb107) (o := .cells #[.int .i64 x108000_1, .int .i64 x108001_1, .int .i64 x108002_1, .bool x108003_1, .bool x108004_1] 28 (0, 0)) (by (with_reducible repeat (first | refine blk_drewN ?_ _ | refine blk_drew ?_ | refine blk_alloc ?_ _)); refine blk_far ?_ NB107_109.out _; (with_reducible repeat (first | refine blk_drewN ?_ _ | refine blk_drew ?_ | refine blk_alloc ?_ _)); refine blk_far ?_ NB107_109.out _; (with_reducible repeat (first | refine blk_drewN ?_ _ | refine blk_drew ?_ | refine blk_alloc ?_ _)); refine blk_far ?_ NB107_109.out _; (with_reducible repeat (first | refine blk_drewN ?_ _ | refine blk_drew ?_ | refine blk_alloc ?_ _)); refine blk_far ?_ NB107_109.out _; (with_reducible repeat (first | refine blk_drewN ?_ _ | refine blk_drew ?_ | refine blk_alloc ?_ _)); refine blk_far ?_ NB107_109.out _; (with_reducible repeat (first | refine blk_drewN ?_ _ | refine blk_drew ?_ | refine blk_alloc ?_ _)); refine blk_far ?_ NB107_109.out _; (with_reducible repeat (first | refine blk_drewN ?_ _ | refine blk_drew ?_ | refine blk_alloc ?_ _)); exact BK107.out) hb); have n2_ := Aside0.mk (blk_below (g := gb109) (o := .cells #[.string ((rd_T78 l0 x11_1).f0), .string ((rd_T78 l0 x11_1).f1), .bool ((rd_T78 l0 x11_1).f2.f0), .string ((rd_T78 l0 x11_1).f2.f1), .int .i64 ((rd_T78 l0 x11_1).f2.f2), .bool ((rd_T78 l0 x11_1).f3)] 78 (0, 0)) (by (with_reducible repeat (first | refine blk_drewN ?_ _ | refine blk_drew ?_ | refine blk_alloc ?_ _)); refine blk_put (cs := #[.string ((rd_T78 l0 x11_1).f0), .string ((rd_T78 l0 x11_1).f1), .bool ((rd_T78 l0 x11_1).f2.f0), .string ((rd_T78 l0 x11_1).f2.f1), .int .i64 ((rd_T78 l0 x11_1).f2.f2), .bool false]) ?_ 5 _ rfl; (with_reducible repeat (first | refine blk_drewN ?_ _ | refine blk_drew ?_ | refine blk_alloc ?_ _)); refine blk_put (cs := #[.string ((rd_T78 l0 x11_1).f0), .string ((rd_T78 l0 x11_1).f1), .bool ((rd_T78 l0 x11_1).f2.f0), .string ((rd_T78 l0 x11_1).f2.f1), .int .i64 0, .bool false]) ?_ 4 _ rfl; (with_reducible repeat (first | refine blk_drewN ?_ _ | refine blk_drew ?_ | refine blk_alloc ?_ _)); refine blk_put (cs := #[.string ((rd_T78 l0 x11_1).f0), .string ((rd_T78 l0 x11_1).f1), .bool ((rd_T78 l0 x11_1).f2.f0), .string (⟨#[]⟩ : ByteArray), .int .i64 0, .bool false]) ?_ 3 _ rfl; (with_reducible repeat (first | refine blk_drewN ?_ _ | refine blk_drew ?_ | refine blk_alloc ?_ _)); refine blk_put (cs := #[.string ((rd_T78 l0 x11_1).f0), .string ((rd_T78 l0 x11_1).f1), .bool false, .string (⟨#[]⟩ : ByteArray), .int .i64 0, .bool false]) ?_ 2 _ rfl; (with_reducible repeat (first | refine blk_drewN ?_ _ | refine blk_drew ?_ | refine blk_alloc ?_ _)); refine blk_put (cs := #[.string ((rd_T78 l0 x11_1).f0), .string (⟨#[]⟩ : ByteArray), .bool false, .string (⟨#[]⟩ : ByteArray), .int .i64 0, .bool false]) ?_ 1 _ rfl; (with_reducible repeat (first | refine blk_drewN ?_ _ | refine blk_drew ?_ | refine blk_alloc ?_ _)); refine blk_put (cs := #[.string (⟨#[]⟩ : ByteArray), .string (⟨#[]⟩ : ByteArray), .bool false, .string (⟨#[]⟩ : ByteArray), .int .i64 0, .bool false]) ?_ 0 _ rfl; (with_reducible repeat (first | refine blk_drewN ?_ _ | refine blk_drew ?_ | refine blk_alloc ?_ _)); exact BK109.out) hb); have n3_ := Aside0.mk (below_step (by repeat (first | (with_reducible first | exact HB.out | apply below_alloc | apply pw_below_drewN | apply below_drew1 | refine below_set ?_ GE101.out | refine below_set ?_ GE107.out | refine below_set ?_ GE109.out) | exact HB.out)) hb); clear BK101; clear BK107; clear BK109; clear HB; have BK101 := n0_; have BK107 := n1_; have BK109 := n2_; have HB := n3_; clear n0_ n1_ n2_ n3_; (try clear hb); (try clear hb2); (try clear hk); (try clear hi)) | ((with_reducible refine gate_dst (N := 6) rfl ?_); refine box_event ?hg (N := 6) ?hd (cs := #[.int .i64 0, .int .i64 0, .int .i64 0, .bool false, .bool false]) (t := 28) ?hr ?_; (case hd => rfl); (case hg => rfl); (case hr => first | (go_simp; done) | (go_simp; rfl)); intro gb116 hg w20 hbox hb; have n0_ := Aside0.mk (blk_below (g := gb101) (o := .cells #[.int .i64 0, .int .i64 0, .int .i64 0, .bool false, .bool false] 28 (0, 0)) (by (with_reducible repeat (first | refine blk_drewN ?_ _ | refine blk_drew ?_ | refine blk_alloc ?_ _)); exact BK101.out) hb); have n1_ := Aside0.mk (blk_below (g := gb107) (o := .cells #[.int .i64 x108000_1, .int .i64 x108001_1, .int .i64 x108002_1, .bool x108003_1, .bool x108004_1] 28 (0, 0)) (by (with_reducible repeat (first | refine blk_drewN ?_ _ | refine blk_drew ?_ | refine blk_alloc ?_ _)); exact BK107.out) hb); have n2_ := Aside0.mk (blk_below (g := gb109) (o := .cells #[.string ((rd_T78 l0 x11_1).f0), .string ((rd_T78 l0 x11_1).f1), .bool ((rd_T78 l0 x11_1).f2.f0), .string ((rd_T78 l0 x11_1).f2.f1), .int .i64 ((rd_T78 l0 x11_1).f2.f2), .bool ((rd_T78 l0 x11_1).f3)] 78 (0, 0)) (by (with_reducible repeat (first | refine blk_drewN ?_ _ | refine blk_drew ?_ | refine blk_alloc ?_ _)); exact BK109.out) hb); have n3_ := Aside0.mk (below_step (by repeat (first | (with_reducible first | exact HB.out | apply below_alloc | apply pw_below_drewN | apply below_drew1 | refine below_set ?_ GE101.out | refine below_set ?_ GE107.out | refine below_set ?_ GE109.out) | exact HB.out)) hb); have n4_ := Aside0.mk (hbox); have n5_ := Aside0.mk ((by rw [hg]; exact (below_size (by repeat (first | (with_reducible first | exact HB.out | apply below_alloc | apply pw_below_drewN | apply below_drew1 | refine below_set ?_ GE101.out | refine below_set ?_ GE107.out | refine below_set ?_ GE109.out) | exact HB.out))) : w.heap.size ≤ gb116)); have n6_ := Aside0.mk ((by rw [hg]; exact (below_size (by repeat (first | (with_reducible first | exact HB.out | apply below_alloc | apply pw_below_drewN | apply below_drew1 | refine below_set ?_ GE101.out | refine below_set ?_ GE107.out | refine below_set ?_ GE109.out) | exact HB.out))) : w.heap.size ≤ gb116)); have n7_ := Aside0.mk ((by rw [hg]; exact Nat.ne_of_lt (blk_lt (g := gb101) (o := .cells #[.int .i64 0, .int .i64 0, .int .i64 0, .bool false, .bool false] 28 (0, 0)) (by (with_reducible repeat (first | refine blk_drewN ?_ _ | refine blk_drew ?_ | refine blk_alloc ?_ _)); exact BK101.out)) : gb101 ≠ gb116)); have n8_ := Aside0.mk ((by rw [hg]; exact Nat.ne_of_gt (blk_lt (g := gb101) (o := .cells #[.int .i64 0, .int .i64 0, .int .i64 0, .bool false, .bool false] 28 (0, 0)) (by (with_reducible repeat (first | refine blk_drewN ?_ _ | refine blk_drew ?_ | refine blk_alloc ?_ _)); exact BK101.out)) : gb116 ≠ gb101)); have n9_ := Aside0.mk ((by rw [hg]; exact Nat.ne_of_lt (blk_lt (g := gb107) (o := .cells #[.int .i64 x108000_1, .int .i64 x108001_1, .int .i64 x108002_1, .bool x108003_1, .bool x108004_1] 28 (0, 0)) (by (with_reducible repeat (first | refine blk_drewN ?_ _ | refine blk_drew ?_ | refine blk_alloc ?_ _)); exact BK107.out)) : gb107 ≠ gb116)); have n10_ := Aside0.mk ((by rw [hg]; exact Nat.ne_of_gt (blk_lt (g := gb107) (o := .cells #[.int .i64 x108000_1, .int .i64 x108001_1, .int .i64 x108002_1, .bool x108003_1, .bool x108004_1] 28 (0, 0)) (by (with_reducible repeat (first | refine blk_drewN ?_ _ | refine blk_drew ?_ | refine blk_alloc ?_ _)); exact BK107.out)) : gb116 ≠ gb107)); have n11_ := Aside0.mk ((by rw [hg]; exact Nat.ne_of_lt (blk_lt (g := gb109) (o := .cells #[.string ((rd_T78 l0 x11_1).f0), .string ((rd_T78 l0 x11_1).f1), .bool ((rd_T78 l0 x11_1).f2.f0), .string ((rd_T78 l0 x11_1).f2.f1), .int .i64 ((rd_T78 l0 x11_1).f2.f2), .bool ((rd_T78 l0 x11_1).f3)] 78 (0, 0)) (by (with_reducible repeat (first | refine blk_drewN ?_ _ | refine blk_drew ?_ | refine blk_alloc ?_ _)); exact BK109.out)) : gb109 ≠ gb116)); have n12_ := Aside0.mk ((by rw [hg]; exact Nat.ne_of_gt (blk_lt (g := gb109) (o := .cells #[.string ((rd_T78 l0 x11_1).f0), .string ((rd_T78 l0 x11_1).f1), .bool ((rd_T78 l0 x11_1).f2.f0), .string ((rd_T78 l0 x11_1).f2.f1), .int .i64 ((rd_T78 l0 x11_1).f2.f2), .bool ((rd_T78 l0 x11_1).f3)] 78 (0, 0)) (by (with_reducible repeat (first | refine blk_drewN ?_ _ | refine blk_drew ?_ | refine blk_alloc ?_ _)); exact BK109.out)) : gb116 ≠ gb109)); clear BK101; clear BK107; clear BK109; clear HB; have BK101 := n0_; have BK107 := n1_; have BK109 := n2_; have HB := n3_; have BK116 := n4_; have GW116 := n5_; have GE116 := n6_; have NB101_116 := n7_; have NB116_101 := n8_; have NB107_116 := n9_; have NB116_107 := n10_; have NB109_116 := n11_; have NB116_109 := n12_; clear n0_ n1_ n2_ n3_ n4_ n5_ n6_ n7_ n8_ n9_ n10_ n11_ n12_; clear hb hbox hg; have hnb21 := NB116_101.out; have hnc21 := NB101_116.out; have hnb22 := NB116_107.out; have hnc22 := NB107_116.out; have hnb23 := NB116_109.out; have hnc23 := NB109_116.out; have hcz24_0 : w20.cell? ⟨gb116, 0, none⟩ = some (.int .i64 0) := (blk_cell BK116.out 0).trans rfl; have hcz24_1 : w20.cell? ⟨gb116, 1, none⟩ = some (.int .i64 0) := (blk_cell BK116.out 1).trans rfl; have hcz24_2 : w20.cell? ⟨gb116, 2, none⟩ = some (.int .i64 0) := (blk_cell BK116.out 2).trans rfl; have hcz24_3 : w20.cell? ⟨gb116, 3, none⟩ = some (.bool false) := (blk_cell BK116.out 3).trans rfl; have hcz24_4 : w20.cell? ⟨gb116, 4, none⟩ = some (.bool false) := (blk_cell BK116.out 4).trans rfl; have hfz24_0 := blk_frozen BK116.out 0; have hfz24_1 := blk_frozen BK116.out 1; have hfz24_2 := blk_frozen BK116.out 2; have hfz24_3 := blk_frozen BK116.out 3; have hfz24_4 := blk_frozen BK116.out 4; have hcz25_0 : w20.cell? ⟨gb107, 0, none⟩ = some (.int .i64 x108000_1) := (blk_cell BK107.out 0).trans rfl; have hcz25_1 : w20.cell? ⟨gb107, 1, none⟩ = some (.int .i64 x108001_1) := (blk_cell BK107.out 1).trans rfl; have hcz25_2 : w20.cell? ⟨gb107, 2, none⟩ = some (.int .i64 x108002_1) := (blk_cell BK107.out 2).trans rfl; have hcz25_3 : w20.cell? ⟨gb107, 3, none⟩ = some (.bool x108003_1) := (blk_cell BK107.out 3).trans rfl; have hcz25_4 : w20.cell? ⟨gb107, 4, none⟩ = some (.bool x108004_1) := (blk_cell BK107.out 4).trans rfl; have hfz25_0 := blk_frozen BK107.out 0; have hfz25_1 := blk_frozen BK107.out 1; have hfz25_2 := blk_frozen BK107.out 2; have hfz25_3 := blk_frozen BK107.out 3; have hfz25_4 := blk_frozen BK107.out 4))
              go_roundg k1
              case measure => have := HK1.out; omega
              case rel => exact ⟨(wrap64 (x11_1 + 1)), (t110), (t111), (t112), (t113), (t114), (by first | rfl | (simp; done) | (simp [*]; done)), H', ⟨by have := HK1.out; omega⟩, ⟨by (with_reducible repeat (first | refine blk_drewN ?_ _ | refine blk_drew ?_ | refine blk_alloc ?_ _)); refine blk_far ?_ NB101_107.out _; (with_reducible repeat (first | refine blk_drewN ?_ _ | refine blk_drew ?_ | refine blk_alloc ?_ _)); refine blk_far ?_ NB101_107.out _; (with_reducible repeat (first | refine blk_drewN ?_ _ | refine blk_drew ?_ | refine blk_alloc ?_ _)); refine blk_far ?_ NB101_107.out _; (with_reducible repeat (first | refine blk_drewN ?_ _ | refine blk_drew ?_ | refine blk_alloc ?_ _)); refine blk_far ?_ NB101_107.out _; (with_reducible repeat (first | refine blk_drewN ?_ _ | refine blk_drew ?_ | refine blk_alloc ?_ _)); refine blk_far ?_ NB101_107.out _; (with_reducible repeat (first | refine blk_drewN ?_ _ | refine blk_drew ?_ | refine blk_alloc ?_ _)); refine blk_far ?_ NB101_116.out _; (with_reducible repeat (first | refine blk_drewN ?_ _ | refine blk_drew ?_ | refine blk_alloc ?_ _)); refine blk_far ?_ NB101_116.out _; (with_reducible repeat (first | refine blk_drewN ?_ _ | refine blk_drew ?_ | refine blk_alloc ?_ _)); refine blk_far ?_ NB101_116.out _; (with_reducible repeat (first | refine blk_drewN ?_ _ | refine blk_drew ?_ | refine blk_alloc ?_ _)); refine blk_far ?_ NB101_116.out _; (with_reducible repeat (first | refine blk_drewN ?_ _ | refine blk_drew ?_ | refine blk_alloc ?_ _)); refine blk_far ?_ NB101_116.out _; (with_reducible repeat (first | refine blk_drewN ?_ _ | refine blk_drew ?_ | refine blk_alloc ?_ _)); exact BK101.out⟩, ⟨by (with_reducible repeat (first | refine blk_drewN ?_ _ | refine blk_drew ?_ | refine blk_alloc ?_ _)); refine blk_put (cs := #[.int .i64 t110, .int .i64 t111, .int .i64 t112, .bool t113, .bool x108004_1]) ?_ 4 _ rfl; (with_reducible repeat (first | refine blk_drewN ?_ _ | refine blk_drew ?_ | refine blk_alloc ?_ _)); refine blk_put (cs := #[.int .i64 t110, .int .i64 t111, .int .i64 t112, .bool x108003_1, .bool x108004_1]) ?_ 3 _ rfl; (with_reducible repeat (first | refine blk_drewN ?_ _ | refine blk_drew ?_ | refine blk_alloc ?_ _)); refine blk_put (cs := #[.int .i64 t110, .int .i64 t111, .int .i64 x108002_1, .bool x108003_1, .bool x108004_1]) ?_ 2 _ rfl; (with_reducible repeat (first | refine blk_drewN ?_ _ | refine blk_drew ?_ | refine blk_alloc ?_ _)); refine blk_put (cs := #[.int .i64 t110, .int .i64 x108001_1, .int .i64 x108002_1, .bool x108003_1, .bool x108004_1]) ?_ 1 _ rfl; (with_reducible repeat (first | refine blk_drewN ?_ _ | refine blk_drew ?_ | refine blk_alloc ?_ _)); refine blk_put (cs := #[.int .i64 x108000_1, .int .i64 x108001_1, .int .i64 x108002_1, .bool x108003_1, .bool x108004_1]) ?_ 0 _ rfl; (with_reducible repeat (first | refine blk_drewN ?_ _ | refine blk_drew ?_ | refine blk_alloc ?_ _)); refine blk_far ?_ NB107_116.out _; (with_reducible repeat (first | refine blk_drewN ?_ _ | refine blk_drew ?_ | refine blk_alloc ?_ _)); refine blk_far ?_ NB107_116.out _; (with_reducible repeat (first | refine blk_drewN ?_ _ | refine blk_drew ?_ | refine blk_alloc ?_ _)); refine blk_far ?_ NB107_116.out _; (with_reducible repeat (first | refine blk_drewN ?_ _ | refine blk_drew ?_ | refine blk_alloc ?_ _)); refine blk_far ?_ NB107_116.out _; (with_reducible repeat (first | refine blk_drewN ?_ _ | refine blk_drew ?_ | refine blk_alloc ?_ _)); refine blk_far ?_ NB107_116.out _; (with_reducible repeat (first | refine blk_drewN ?_ _ | refine blk_drew ?_ | refine blk_alloc ?_ _)); exact BK107.out⟩, ⟨by repeat (first | (with_reducible first | exact HB.out | apply below_alloc | apply pw_below_drewN | apply below_drew1 | refine below_set ?_ GE101.out | refine below_set ?_ GE107.out | refine below_set ?_ GE109.out | refine below_set ?_ GE116.out) | exact HB.out)⟩⟩
            · rw [if_neg c12] at H
              have c12b0 : (t115 == 0) = false := beq_eq_false_iff_ne.mpr c12
              have c12b1 : (t115 != 0) = true := bne_iff_ne.mpr c12
              have H' := Aside0.mk H
              clear H
              have p108 : 0 ≤ (x11_1 : Int) := of_decide_eq_true (by first | (with_reducible assumption) | assumption)
              have q108 : x11_1 < (l0.length : Int) := of_decide_eq_true (by first | (with_reducible assumption) | assumption)
              obtain ⟨ad108, e108, hx108_0, hx108_1, hx108_2, hx108_3, hx108_4, hx108_5⟩ := at_T78 HR0.out x11_1 p108 q108
              cases e108
              replace hx108_0 := (HB.out.cell (World.block_lt_of_cell? w _ hx108_0)).trans hx108_0
              replace hx108_1 := (HB.out.cell (World.block_lt_of_cell? w _ hx108_1)).trans hx108_1
              replace hx108_2 := (HB.out.cell (World.block_lt_of_cell? w _ hx108_2)).trans hx108_2
              replace hx108_3 := (HB.out.cell (World.block_lt_of_cell? w _ hx108_3)).trans hx108_3
              replace hx108_4 := (HB.out.cell (World.block_lt_of_cell? w _ hx108_4)).trans hx108_4
              replace hx108_5 := (HB.out.cell (World.block_lt_of_cell? w _ hx108_5)).trans hx108_5
              replace p108 := eq_true p108
              replace q108 := eq_true q108
              go_wp2_with (first | ((with_reducible refine gate_dst (N := 5) rfl ?_); refine box_event ?hg (N := 5) ?hd (cs := #[.string (⟨#[]⟩ : ByteArray), .string (⟨#[]⟩ : ByteArray), .bool false, .string (⟨#[]⟩ : ByteArray), .int .i64 0, .bool false]) (t := 78) ?hr ?_; (case hd => rfl); (case hg => rfl); (case hr => first | (go_simp; done) | (go_simp; rfl)); intro gb109 hg w26 hbox hb; have n0_ := Aside0.mk (blk_below (g := gb101) (o := .cells #[.int .i64 0, .int .i64 0, .int .i64 0, .bool false, .bool false] 28 (0, 0)) (by (with_reducible repeat (first | refine blk_drewN ?_ _ | refine blk_drew ?_ | refine blk_alloc ?_ _)); exact BK101.out) hb); have n1_ := Aside0.mk (blk_below (g := gb107) (o := .cells #[.int .i64 x108000_1, .int .i64 x108001_1, .int .i64 x108002_1, .bool x108003_1, .bool x108004_1] 28 (0, 0)) (by (with_reducible repeat (first | refine blk_drewN ?_ _ | refine blk_drew ?_ | refine blk_alloc ?_ _)); exact BK107.out) hb); have n2_ := Aside0.mk (below_step (by repeat (first | (with_reducible first | exact HB.out | apply below_alloc | apply pw_below_drewN | apply below_drew1 | refine below_set ?_ GE101.out | refine below_set ?_ GE107.out) | exact HB.out)) hb); have n3_ := Aside0.mk (hbox); have n4_ := Aside0.mk ((by rw [hg]; exact (below_size (by repeat (first | (with_reducible first | exact HB.out | apply below_alloc | apply pw_below_drewN | apply below_drew1 | refine below_set ?_ GE101.out | refine below_set ?_ GE107.out) | exact HB.out))) : w.heap.size ≤ gb109)); have n5_ := Aside0.mk ((by rw [hg]; exact (below_size (by repeat (first | (with_reducible first | exact HB.out | apply below_alloc | apply pw_below_drewN | apply below_drew1 | refine below_set ?_ GE101.out | refine below_set ?_ GE107.out) | exact HB.out))) : w.heap.size ≤ gb109)); have n6_ := Aside0.mk ((by rw [hg]; exact Nat.ne_of_lt (blk_lt (g := gb101) (o := .cells #[.int .i64 0, .int .i64 0, .int .i64 0, .bool false, .bool false] 28 (0, 0)) (by (with_reducible repeat (first | refine blk_drewN ?_ _ | refine blk_drew ?_ | refine blk_alloc ?_ _)); exact BK101.out)) : gb101 ≠ gb109)); have n7_ := Aside0.mk ((by rw [hg]; exact Nat.ne_of_gt (blk_lt (g := gb101) (o := .cells #[.int .i64 0, .int .i64 0, .int .i64 0, .bool false, .bool false] 28 (0, 0)) (by (with_reducible repeat (first | refine blk_drewN ?_ _ | refine blk_drew ?_ | refine blk_alloc ?_ _)); exact BK101.out)) : gb109 ≠ gb101)); have n8_ := Aside0.mk ((by rw [hg]; exact Nat.ne_of_lt (blk_lt (g := gb107) (o := .cells #[.int .i64 x108000_1, .int .i64 x108001_1, .int .i64 x108002_1, .bool x108003_1, .bool x108004_1] 28 (0, 0)) (by (with_reducible repeat (first | refine blk_drewN ?_ _ | refine blk_drew ?_ | refine blk_alloc ?_ _)); exact BK107.out)) : gb107 ≠ gb109)); have n9_ := Aside0.mk ((by rw [hg]; exact Nat.ne_of_gt (blk_lt (g := gb107) (o := .cells #[.int .i64 x108000_1, .int .i64 x108001_1, .int .i64 x108002_1, .bool x108003_1, .bool x108004_1] 28 (0, 0)) (by (with_reducible repeat (first | refine blk_drewN ?_ _ | refine blk_drew ?_ | refine blk_alloc ?_ _)); exact BK107.out)) : gb109 ≠ gb107)); clear BK101; clear BK107; clear HB; have BK101 := n0_; have BK107 := n1_; have HB := n2_; have BK109 := n3_; have GW109 := n4_; have GE109 := n5_; have NB101_109 := n6_; have NB109_101 := n7_; have NB107_109 := n8_; have NB109_107 := n9_; clear n0_ n1_ n2_ n3_ n4_ n5_ n6_ n7_ n8_ n9_; clear hb hbox hg; have hnb27 := NB109_101.out; have hnc27 := NB101_109.out; have hnb28 := NB109_107.out; have hnc28 := NB107_109.out; have hcz29_0 : w26.cell? ⟨gb109, 0, none⟩ = some (.string (⟨#[]⟩ : ByteArray)) := (blk_cell BK109.out 0).trans rfl; have hcz29_1 : w26.cell? ⟨gb109, 1, none⟩ = some (.string (⟨#[]⟩ : ByteArray)) := (blk_cell BK109.out 1).trans rfl; have hcz29_2 : w26.cell? ⟨gb109, 2, none⟩ = some (.bool false) := (blk_cell BK109.out 2).trans rfl; have hcz29_3 : w26.cell? ⟨gb109, 3, none⟩ = some (.string (⟨#[]⟩ : ByteArray)) := (blk_cell BK109.out 3).trans rfl; have hcz29_4 : w26.cell? ⟨gb109, 4, none⟩ = some (.int .i64 0) := (blk_cell BK109.out 4).trans rfl; have hcz29_5 : w26.cell? ⟨gb109, 5, none⟩ = some (.bool false) := (blk_cell BK109.out 5).trans rfl; have hfz29_0 := blk_frozen BK109.out 0; have hfz29_1 := blk_frozen BK109.out 1; have hfz29_2 := blk_frozen BK109.out 2; have hfz29_3 := blk_frozen BK109.out 3; have hfz29_4 := blk_frozen BK109.out 4; have hfz29_5 := blk_frozen BK109.out 5; have hnb30 := NB107_101.out; have hnc30 := NB101_107.out; have hcz31_0 : w26.cell? ⟨gb107, 0, none⟩ = some (.int .i64 x108000_1) := (blk_cell BK107.out 0).trans rfl; have hcz31_1 : w26.cell? ⟨gb107, 1, none⟩ = some (.int .i64 x108001_1) := (blk_cell BK107.out 1).trans rfl; have hcz31_2 : w26.cell? ⟨gb107, 2, none⟩ = some (.int .i64 x108002_1) := (blk_cell BK107.out 2).trans rfl; have hcz31_3 : w26.cell? ⟨gb107, 3, none⟩ = some (.bool x108003_1) := (blk_cell BK107.out 3).trans rfl; have hcz31_4 : w26.cell? ⟨gb107, 4, none⟩ = some (.bool x108004_1) := (blk_cell BK107.out 4).trans rfl; have hfz31_0 := blk_frozen BK107.out 0; have hfz31_1 := blk_frozen BK107.out 1; have hfz31_2 := blk_frozen BK107.out 2; have hfz31_3 := blk_frozen BK107.out 3; have hfz31_4 := blk_frozen BK107.out 4) | ((with_reducible refine gate_callee (f := 37) rfl ?_); refine goesL_ (some 25) rfl rfl Tryz.func37 (by kernel_rfl) rfl #[.agg #[.int .i64 x108000_1, .int .i64 x108001_1, .int .i64 x108002_1, .bool x108003_1, .bool x108004_1], .string ((rd_T78 l0 x11_1).f0), .string ((rd_T78 l0 x11_1).f1), .agg #[.bool ((rd_T78 l0 x11_1).f2.f0), .string ((rd_T78 l0 x11_1).f2.f1), .int .i64 ((rd_T78 l0 x11_1).f2.f2)], .bool ((rd_T78 l0 x11_1).f3)] rfl (by (try simp only [List.map_toArray, List.map_cons, List.map_nil]); first | done | rfl | (simp only [List.length_drop, List.length_take]; rfl)) ?_; (with_reducible refine (number_Opts_Set.calls x108000_1 x108001_1 x108002_1 x108003_1 x108004_1 ((rd_T78 l0 x11_1).f0) ((rd_T78 l0 x11_1).f1) ((rd_T78 l0 x11_1).f2.f0) ((rd_T78 l0 x11_1).f2.f1) ((rd_T78 l0 x11_1).f2.f2) ((rd_T78 l0 x11_1).f3) t110 t111 t112 t113 t114 t115 _ A11.out).mono ?_); rintro e w32 ⟨rfl, hb⟩; refine ⟨_, rfl, ?_⟩; have n0_ := Aside0.mk (blk_below (g := gb101) (o := .cells #[.int .i64 0, .int .i64 0, .int .i64 0, .bool false, .bool false] 28 (0, 0)) (by (with_reducible repeat (first | refine blk_drewN ?_ _ | refine blk_drew ?_ | refine blk_alloc ?_ _)); refine blk_far ?_ NB101_109.out _; (with_reducible repeat (first | refine blk_drewN ?_ _ | refine blk_drew ?_ | refine blk_alloc ?_ _)); refine blk_far ?_ NB101_109.out _; (with_reducible repeat (first | refine blk_drewN ?_ _ | refine blk_drew ?_ | refine blk_alloc ?_ _)); refine blk_far ?_ NB101_109.out _; (with_reducible repeat (first | refine blk_drewN ?_ _ | refine blk_drew ?_ | refine blk_alloc ?_ _)); refine blk_far ?_ NB101_109.out _; (with_reducible repeat (first | refine blk_drewN ?_ _ | refine blk_drew ?_ | refine blk_alloc ?_ _)); refine blk_far ?_ NB101_109.out _; (with_reducible repeat (first | refine blk_drewN ?_ _ | refine blk_drew ?_ | refine blk_alloc ?_ _)); refine blk_far ?_ NB101_109.out _; (with_reducible repeat (first | refine blk_drewN ?_ _ | refine blk_drew ?_ | refine blk_alloc ?_ _)); exact BK101.out) hb); have n1_ := Aside0.mk (blk_below (g := gb107) (o := .cells #[.int .i64 x108000_1, .int .i64 x108001_1, .int .i64 x108002_1, .bool x108003_1, .bool x108004_1] 28 (0, 0)) (by (with_reducible repeat (first | refine blk_drewN ?_ _ | refine blk_drew ?_ | refine blk_alloc ?_ _)); refine blk_far ?_ NB107_109.out _; (with_reducible repeat (first | refine blk_drewN ?_ _ | refine blk_drew ?_ | refine blk_alloc ?_ _)); refine blk_far ?_ NB107_109.out _; (with_reducible repeat (first | refine blk_drewN ?_ _ | refine blk_drew ?_ | refine blk_alloc ?_ _)); refine blk_far ?_ NB107_109.out _; (with_reducible repeat (first | refine blk_drewN ?_ _ | refine blk_drew ?_ | refine blk_alloc ?_ _)); refine blk_far ?_ NB107_109.out _; (with_reducible repeat (first | refine blk_drewN ?_ _ | refine blk_drew ?_ | refine blk_alloc ?_ _)); refine blk_far ?_ NB107_109.out _; (with_reducible repeat (first | refine blk_drewN ?_ _ | refine blk_drew ?_ | refine blk_alloc ?_ _)); refine blk_far ?_ NB107_109.out _; (with_reducible repeat (first | refine blk_drewN ?_ _ | refine blk_drew ?_ | refine blk_alloc ?_ _)); exact BK107.out) hb); have n2_ := Aside0.mk (blk_below (g := gb109) (o := .cells #[.string ((rd_T78 l0 x11_1).f0), .string ((rd_T78 l0 x11_1).f1), .bool ((rd_T78 l0 x11_1).f2.f0), .string ((rd_T78 l0 x11_1).f2.f1), .int .i64 ((rd_T78 l0 x11_1).f2.f2), .bool ((rd_T78 l0 x11_1).f3)] 78 (0, 0)) (by (with_reducible repeat (first | refine blk_drewN ?_ _ | refine blk_drew ?_ | refine blk_alloc ?_ _)); refine blk_put (cs := #[.string ((rd_T78 l0 x11_1).f0), .string ((rd_T78 l0 x11_1).f1), .bool ((rd_T78 l0 x11_1).f2.f0), .string ((rd_T78 l0 x11_1).f2.f1), .int .i64 ((rd_T78 l0 x11_1).f2.f2), .bool false]) ?_ 5 _ rfl; (with_reducible repeat (first | refine blk_drewN ?_ _ | refine blk_drew ?_ | refine blk_alloc ?_ _)); refine blk_put (cs := #[.string ((rd_T78 l0 x11_1).f0), .string ((rd_T78 l0 x11_1).f1), .bool ((rd_T78 l0 x11_1).f2.f0), .string ((rd_T78 l0 x11_1).f2.f1), .int .i64 0, .bool false]) ?_ 4 _ rfl; (with_reducible repeat (first | refine blk_drewN ?_ _ | refine blk_drew ?_ | refine blk_alloc ?_ _)); refine blk_put (cs := #[.string ((rd_T78 l0 x11_1).f0), .string ((rd_T78 l0 x11_1).f1), .bool ((rd_T78 l0 x11_1).f2.f0), .string (⟨#[]⟩ : ByteArray), .int .i64 0, .bool false]) ?_ 3 _ rfl; (with_reducible repeat (first | refine blk_drewN ?_ _ | refine blk_drew ?_ | refine blk_alloc ?_ _)); refine blk_put (cs := #[.string ((rd_T78 l0 x11_1).f0), .string ((rd_T78 l0 x11_1).f1), .bool false, .string (⟨#[]⟩ : ByteArray), .int .i64 0, .bool false]) ?_ 2 _ rfl; (with_reducible repeat (first | refine blk_drewN ?_ _ | refine blk_drew ?_ | refine blk_alloc ?_ _)); refine blk_put (cs := #[.string ((rd_T78 l0 x11_1).f0), .string (⟨#[]⟩ : ByteArray), .bool false, .string (⟨#[]⟩ : ByteArray), .int .i64 0, .bool false]) ?_ 1 _ rfl; (with_reducible repeat (first | refine blk_drewN ?_ _ | refine blk_drew ?_ | refine blk_alloc ?_ _)); refine blk_put (cs := #[.string (⟨#[]⟩ : ByteArray), .string (⟨#[]⟩ : ByteArray), .bool false, .string (⟨#[]⟩ : ByteArray), .int .i64 0, .bool false]) ?_ 0 _ rfl; (with_reducible repeat (first | refine blk_drewN ?_ _ | refine blk_drew ?_ | refine blk_alloc ?_ _)); exact BK109.out) hb); have n3_ := Aside0.mk (below_step (by repeat (first | (with_reducible first | exact HB.out | apply below_alloc | apply pw_below_drewN | apply below_drew1 | refine below_set ?_ GE101.out | refine below_set ?_ GE107.out | refine below_set ?_ GE109.out) | exact HB.out)) hb); clear BK101; clear BK107; clear BK109; clear HB; have BK101 := n0_; have BK107 := n1_; have BK109 := n2_; have HB := n3_; clear n0_ n1_ n2_ n3_; (try clear hb); (try clear hb2); (try clear hk); (try clear hi)) | ((with_reducible refine gate_dst (N := 6) rfl ?_); refine box_event ?hg (N := 6) ?hd (cs := #[.int .i64 0, .int .i64 0, .int .i64 0, .bool false, .bool false]) (t := 28) ?hr ?_; (case hd => rfl); (case hg => rfl); (case hr => first | (go_simp; done) | (go_simp; rfl)); intro gb116 hg w33 hbox hb; have n0_ := Aside0.mk (blk_below (g := gb101) (o := .cells #[.int .i64 0, .int .i64 0, .int .i64 0, .bool false, .bool false] 28 (0, 0)) (by (with_reducible repeat (first | refine blk_drewN ?_ _ | refine blk_drew ?_ | refine blk_alloc ?_ _)); exact BK101.out) hb); have n1_ := Aside0.mk (blk_below (g := gb107) (o := .cells #[.int .i64 x108000_1, .int .i64 x108001_1, .int .i64 x108002_1, .bool x108003_1, .bool x108004_1] 28 (0, 0)) (by (with_reducible repeat (first | refine blk_drewN ?_ _ | refine blk_drew ?_ | refine blk_alloc ?_ _)); exact BK107.out) hb); have n2_ := Aside0.mk (blk_below (g := gb109) (o := .cells #[.string ((rd_T78 l0 x11_1).f0), .string ((rd_T78 l0 x11_1).f1), .bool ((rd_T78 l0 x11_1).f2.f0), .string ((rd_T78 l0 x11_1).f2.f1), .int .i64 ((rd_T78 l0 x11_1).f2.f2), .bool ((rd_T78 l0 x11_1).f3)] 78 (0, 0)) (by (with_reducible repeat (first | refine blk_drewN ?_ _ | refine blk_drew ?_ | refine blk_alloc ?_ _)); exact BK109.out) hb); have n3_ := Aside0.mk (below_step (by repeat (first | (with_reducible first | exact HB.out | apply below_alloc | apply pw_below_drewN | apply below_drew1 | refine below_set ?_ GE101.out | refine below_set ?_ GE107.out | refine below_set ?_ GE109.out) | exact HB.out)) hb); have n4_ := Aside0.mk (hbox); have n5_ := Aside0.mk ((by rw [hg]; exact (below_size (by repeat (first | (with_reducible first | exact HB.out | apply below_alloc | apply pw_below_drewN | apply below_drew1 | refine below_set ?_ GE101.out | refine below_set ?_ GE107.out | refine below_set ?_ GE109.out) | exact HB.out))) : w.heap.size ≤ gb116)); have n6_ := Aside0.mk ((by rw [hg]; exact (below_size (by repeat (first | (with_reducible first | exact HB.out | apply below_alloc | apply pw_below_drewN | apply below_drew1 | refine below_set ?_ GE101.out | refine below_set ?_ GE107.out | refine below_set ?_ GE109.out) | exact HB.out))) : w.heap.size ≤ gb116)); have n7_ := Aside0.mk ((by rw [hg]; exact Nat.ne_of_lt (blk_lt (g := gb101) (o := .cells #[.int .i64 0, .int .i64 0, .int .i64 0, .bool false, .bool false] 28 (0, 0)) (by (with_reducible repeat (first | refine blk_drewN ?_ _ | refine blk_drew ?_ | refine blk_alloc ?_ _)); exact BK101.out)) : gb101 ≠ gb116)); have n8_ := Aside0.mk ((by rw [hg]; exact Nat.ne_of_gt (blk_lt (g := gb101) (o := .cells #[.int .i64 0, .int .i64 0, .int .i64 0, .bool false, .bool false] 28 (0, 0)) (by (with_reducible repeat (first | refine blk_drewN ?_ _ | refine blk_drew ?_ | refine blk_alloc ?_ _)); exact BK101.out)) : gb116 ≠ gb101)); have n9_ := Aside0.mk ((by rw [hg]; exact Nat.ne_of_lt (blk_lt (g := gb107) (o := .cells #[.int .i64 x108000_1, .int .i64 x108001_1, .int .i64 x108002_1, .bool x108003_1, .bool x108004_1] 28 (0, 0)) (by (with_reducible repeat (first | refine blk_drewN ?_ _ | refine blk_drew ?_ | refine blk_alloc ?_ _)); exact BK107.out)) : gb107 ≠ gb116)); have n10_ := Aside0.mk ((by rw [hg]; exact Nat.ne_of_gt (blk_lt (g := gb107) (o := .cells #[.int .i64 x108000_1, .int .i64 x108001_1, .int .i64 x108002_1, .bool x108003_1, .bool x108004_1] 28 (0, 0)) (by (with_reducible repeat (first | refine blk_drewN ?_ _ | refine blk_drew ?_ | refine blk_alloc ?_ _)); exact BK107.out)) : gb116 ≠ gb107)); have n11_ := Aside0.mk ((by rw [hg]; exact Nat.ne_of_lt (blk_lt (g := gb109) (o := .cells #[.string ((rd_T78 l0 x11_1).f0), .string ((rd_T78 l0 x11_1).f1), .bool ((rd_T78 l0 x11_1).f2.f0), .string ((rd_T78 l0 x11_1).f2.f1), .int .i64 ((rd_T78 l0 x11_1).f2.f2), .bool ((rd_T78 l0 x11_1).f3)] 78 (0, 0)) (by (with_reducible repeat (first | refine blk_drewN ?_ _ | refine blk_drew ?_ | refine blk_alloc ?_ _)); exact BK109.out)) : gb109 ≠ gb116)); have n12_ := Aside0.mk ((by rw [hg]; exact Nat.ne_of_gt (blk_lt (g := gb109) (o := .cells #[.string ((rd_T78 l0 x11_1).f0), .string ((rd_T78 l0 x11_1).f1), .bool ((rd_T78 l0 x11_1).f2.f0), .string ((rd_T78 l0 x11_1).f2.f1), .int .i64 ((rd_T78 l0 x11_1).f2.f2), .bool ((rd_T78 l0 x11_1).f3)] 78 (0, 0)) (by (with_reducible repeat (first | refine blk_drewN ?_ _ | refine blk_drew ?_ | refine blk_alloc ?_ _)); exact BK109.out)) : gb116 ≠ gb109)); clear BK101; clear BK107; clear BK109; clear HB; have BK101 := n0_; have BK107 := n1_; have BK109 := n2_; have HB := n3_; have BK116 := n4_; have GW116 := n5_; have GE116 := n6_; have NB101_116 := n7_; have NB116_101 := n8_; have NB107_116 := n9_; have NB116_107 := n10_; have NB109_116 := n11_; have NB116_109 := n12_; clear n0_ n1_ n2_ n3_ n4_ n5_ n6_ n7_ n8_ n9_ n10_ n11_ n12_; clear hb hbox hg; have hnb34 := NB116_101.out; have hnc34 := NB101_116.out; have hnb35 := NB116_107.out; have hnc35 := NB107_116.out; have hnb36 := NB116_109.out; have hnc36 := NB109_116.out; have hcz37_0 : w33.cell? ⟨gb116, 0, none⟩ = some (.int .i64 0) := (blk_cell BK116.out 0).trans rfl; have hcz37_1 : w33.cell? ⟨gb116, 1, none⟩ = some (.int .i64 0) := (blk_cell BK116.out 1).trans rfl; have hcz37_2 : w33.cell? ⟨gb116, 2, none⟩ = some (.int .i64 0) := (blk_cell BK116.out 2).trans rfl; have hcz37_3 : w33.cell? ⟨gb116, 3, none⟩ = some (.bool false) := (blk_cell BK116.out 3).trans rfl; have hcz37_4 : w33.cell? ⟨gb116, 4, none⟩ = some (.bool false) := (blk_cell BK116.out 4).trans rfl; have hfz37_0 := blk_frozen BK116.out 0; have hfz37_1 := blk_frozen BK116.out 1; have hfz37_2 := blk_frozen BK116.out 2; have hfz37_3 := blk_frozen BK116.out 3; have hfz37_4 := blk_frozen BK116.out 4))
              go_roundg k1
              case measure => have := HK1.out; omega
              case rel => exact ⟨(wrap64 (x11_1 + 1)), (x108000_1), (x108001_1), (x108002_1), (x108003_1), (x108004_1), (by first | rfl | (simp; done) | (simp [*]; done)), H', ⟨by have := HK1.out; omega⟩, ⟨by (with_reducible repeat (first | refine blk_drewN ?_ _ | refine blk_drew ?_ | refine blk_alloc ?_ _)); refine blk_far ?_ NB101_116.out _; (with_reducible repeat (first | refine blk_drewN ?_ _ | refine blk_drew ?_ | refine blk_alloc ?_ _)); refine blk_far ?_ NB101_116.out _; (with_reducible repeat (first | refine blk_drewN ?_ _ | refine blk_drew ?_ | refine blk_alloc ?_ _)); refine blk_far ?_ NB101_116.out _; (with_reducible repeat (first | refine blk_drewN ?_ _ | refine blk_drew ?_ | refine blk_alloc ?_ _)); refine blk_far ?_ NB101_116.out _; (with_reducible repeat (first | refine blk_drewN ?_ _ | refine blk_drew ?_ | refine blk_alloc ?_ _)); refine blk_far ?_ NB101_116.out _; (with_reducible repeat (first | refine blk_drewN ?_ _ | refine blk_drew ?_ | refine blk_alloc ?_ _)); exact BK101.out⟩, ⟨by (with_reducible repeat (first | refine blk_drewN ?_ _ | refine blk_drew ?_ | refine blk_alloc ?_ _)); refine blk_far ?_ NB107_116.out _; (with_reducible repeat (first | refine blk_drewN ?_ _ | refine blk_drew ?_ | refine blk_alloc ?_ _)); refine blk_far ?_ NB107_116.out _; (with_reducible repeat (first | refine blk_drewN ?_ _ | refine blk_drew ?_ | refine blk_alloc ?_ _)); refine blk_far ?_ NB107_116.out _; (with_reducible repeat (first | refine blk_drewN ?_ _ | refine blk_drew ?_ | refine blk_alloc ?_ _)); refine blk_far ?_ NB107_116.out _; (with_reducible repeat (first | refine blk_drewN ?_ _ | refine blk_drew ?_ | refine blk_alloc ?_ _)); refine blk_far ?_ NB107_116.out _; (with_reducible repeat (first | refine blk_drewN ?_ _ | refine blk_drew ?_ | refine blk_alloc ?_ _)); exact BK107.out⟩, ⟨by repeat (first | (with_reducible first | exact HB.out | apply below_alloc | apply pw_below_drewN | apply below_drew1 | refine below_set ?_ GE101.out | refine below_set ?_ GE107.out | refine below_set ?_ GE109.out | refine below_set ?_ GE116.out) | exact HB.out)⟩⟩
          · rw [if_neg c10] at H
            exact absurd H (by simp)
        · rw [if_neg c9] at H
          exact absurd H (by simp)
      · rw [if_neg c8] at H
        have c8b0 : decide (x11_1 < (l0.length : Int)) = false := decide_eq_false c8
        clear c8
        simp only [Option.some.injEq, Prod.mk.injEq] at H
        obtain ⟨rfl, rfl, rfl, rfl, rfl⟩ := H
        have hnb38 := NB107_101.out
        have hnc38 := NB101_107.out
        have hcz39_0 : wr.cell? ⟨gb107, 0, none⟩ = some (.int .i64 x108000_1) := (blk_cell BK107.out 0).trans rfl
        have hcz39_1 : wr.cell? ⟨gb107, 1, none⟩ = some (.int .i64 x108001_1) := (blk_cell BK107.out 1).trans rfl
        have hcz39_2 : wr.cell? ⟨gb107, 2, none⟩ = some (.int .i64 x108002_1) := (blk_cell BK107.out 2).trans rfl
        have hcz39_3 : wr.cell? ⟨gb107, 3, none⟩ = some (.bool x108003_1) := (blk_cell BK107.out 3).trans rfl
        have hcz39_4 : wr.cell? ⟨gb107, 4, none⟩ = some (.bool x108004_1) := (blk_cell BK107.out 4).trans rfl
        have hfz39_0 := blk_frozen BK107.out 0
        have hfz39_1 := blk_frozen BK107.out 1
        have hfz39_2 := blk_frozen BK107.out 2
        have hfz39_3 := blk_frozen BK107.out 3
        have hfz39_4 := blk_frozen BK107.out 4
        have hcz40_0 : wr.cell? ⟨gb101, 0, none⟩ = some (.int .i64 0) := (blk_cell BK101.out 0).trans rfl
        have hcz40_1 : wr.cell? ⟨gb101, 1, none⟩ = some (.int .i64 0) := (blk_cell BK101.out 1).trans rfl
        have hcz40_2 : wr.cell? ⟨gb101, 2, none⟩ = some (.int .i64 0) := (blk_cell BK101.out 2).trans rfl
        have hcz40_3 : wr.cell? ⟨gb101, 3, none⟩ = some (.bool false) := (blk_cell BK101.out 3).trans rfl
        have hcz40_4 : wr.cell? ⟨gb101, 4, none⟩ = some (.bool false) := (blk_cell BK101.out 4).trans rfl
        have hfz40_0 := blk_frozen BK101.out 0
        have hfz40_1 := blk_frozen BK101.out 1
        have hfz40_2 := blk_frozen BK101.out 2
        have hfz40_3 := blk_frozen BK101.out 3
        have hfz40_4 := blk_frozen BK101.out 4
        go_wp2
        refine bodyPost_ret (results_cell_row rfl _ _ gb101 28 #[.int .i64 x108000_1, .int .i64 x108001_1, .int .i64 x108002_1, .bool x108003_1, .bool x108004_1] (0, 0) _ rfl (by (with_reducible repeat (first | refine blk_drewN ?_ _ | refine blk_drew ?_ | refine blk_alloc ?_ _)); refine blk_put (cs := #[.int .i64 x108000_1, .int .i64 x108001_1, .int .i64 x108002_1, .bool x108003_1, .bool false]) ?_ 4 _ rfl; (with_reducible repeat (first | refine blk_drewN ?_ _ | refine blk_drew ?_ | refine blk_alloc ?_ _)); refine blk_put (cs := #[.int .i64 x108000_1, .int .i64 x108001_1, .int .i64 x108002_1, .bool false, .bool false]) ?_ 3 _ rfl; (with_reducible repeat (first | refine blk_drewN ?_ _ | refine blk_drew ?_ | refine blk_alloc ?_ _)); refine blk_put (cs := #[.int .i64 x108000_1, .int .i64 x108001_1, .int .i64 0, .bool false, .bool false]) ?_ 2 _ rfl; (with_reducible repeat (first | refine blk_drewN ?_ _ | refine blk_drew ?_ | refine blk_alloc ?_ _)); refine blk_put (cs := #[.int .i64 x108000_1, .int .i64 0, .int .i64 0, .bool false, .bool false]) ?_ 1 _ rfl; (with_reducible repeat (first | refine blk_drewN ?_ _ | refine blk_drew ?_ | refine blk_alloc ?_ _)); refine blk_put (cs := #[.int .i64 0, .int .i64 0, .int .i64 0, .bool false, .bool false]) ?_ 0 _ rfl; (with_reducible repeat (first | refine blk_drewN ?_ _ | refine blk_drew ?_ | refine blk_alloc ?_ _)); exact BK101.out) Tryz.underlying28 rfl (by kernel_rfl)) rfl ?_
        exact ⟨by first | rfl | (simp [errW_none, errW_some] <;> rfl) | (simp [*, errW_none, errW_some] <;> rfl), by repeat (first | (with_reducible first | exact HB.out | apply below_alloc | apply pw_below_drewN | apply below_drew1 | refine below_set ?_ GE101.out | refine below_set ?_ GE107.out) | exact HB.out)⟩
def polyglotlaw14_Make_Right.l0 : Nat → List (S78) → Int → Int → Int → ByteArray → Bool → ByteArray → Int → List (S78) → Int → Int → Option (Bool)
  | 0, _, _, _, _, _, _, _, _, _, _, _ => none
  | k + 1, x6, x7, x8, x118000, x118001, x118002, x118003, x118004, x118005, x118006, x118007 => if x8 < x7 then (if 0 ≤ x8 then (if x8 < (x6.length : Int) then ((polyglotlaw02_Right.f k ((rd_T78 x6 x8).f2.f0) ((rd_T78 x6 x8).f2.f1) ((rd_T78 x6 x8).f2.f2)).bind fun t120 => (if t120 = true then (polyglotlaw14_Make_Right.l0 k x6 x7 (wrap64 (x8 + 1)) x118000 x118001 x118002 x118003 x118004 x118005 x118006 x118007) else (some false))) else (none)) else (none)) else ((polyglotlaw02_Right.f k x118002 x118003 x118004).bind fun t121 => (if t121 = true then (if (x118005.length : Int) ≤ 20 then (some (decide ((x118001.size : Int) ≤ 60))) else (some false)) else (some false)))
def polyglotlaw14_Make_Right.f (k : Nat) (a0_0 : Int) (a0_1 : ByteArray) (a0_2 : Bool) (a0_3 : ByteArray) (a0_4 : Int) (l0_5 : List (S78)) (a0_6 : Int) (a0_7 : Int) : Option (Bool) := polyglotlaw14_Make_Right.l0 k l0_5 (l0_5.length : Int) 0 a0_0 a0_1 a0_2 a0_3 a0_4 l0_5 a0_6 a0_7
theorem polyglotlaw14_Make_Right.mono_l : ∀ k, (∀ y0 y1 y2 y3 y4 y5 y6 y7 y8 y9 y10, LeO (polyglotlaw14_Make_Right.l0 k y0 y1 y2 y3 y4 y5 y6 y7 y8 y9 y10) (polyglotlaw14_Make_Right.l0 (k + 1) y0 y1 y2 y3 y4 y5 y6 y7 y8 y9 y10))
  | 0 => fun _ _ _ _ _ _ _ _ _ _ _ r h => by simp [polyglotlaw14_Make_Right.l0] at h
  | k + 1 => by
    have ih0 := polyglotlaw14_Make_Right.mono_l k
    · intro y0 y1 y2 y3 y4 y5 y6 y7 y8 y9 y10
      unfold polyglotlaw14_Make_Right.l0
      repeat' first
      | (with_reducible exact ih0 _ _ _ _ _ _ _ _ _ _ _)
      | (with_reducible exact polyglotlaw02_Right.mono _ _ _ _)
      | (with_reducible exact LeO.refl _)
      | (with_reducible exact LeO.none _)
      | (with_reducible refine LeO.ite ?_ ?_)
      | (with_reducible refine LeO.bind ?_ (fun _ => ?_))
      | exact ih0 _ _ _ _ _ _ _ _ _ _ _
      | exact polyglotlaw02_Right.mono _ _ _ _
      | exact LeO.none _
      | refine LeO.ite ?_ ?_
      | refine LeO.bind ?_ (fun _ => ?_)
theorem polyglotlaw14_Make_Right.mono : ∀ a0 a1 a2 a3 a4 a5 a6 a7 k, LeO (polyglotlaw14_Make_Right.f k a0 a1 a2 a3 a4 a5 a6 a7) (polyglotlaw14_Make_Right.f (k + 1) a0 a1 a2 a3 a4 a5 a6 a7) := by
  intro a0 a1 a2 a3 a4 a5 a6 a7 k
  have ih0 := polyglotlaw14_Make_Right.mono_l k
  unfold polyglotlaw14_Make_Right.f
  repeat' first
      | (with_reducible exact ih0 _ _ _ _ _ _ _ _ _ _ _)
      | (with_reducible exact polyglotlaw02_Right.mono _ _ _ _)
      | (with_reducible exact LeO.refl _)
      | (with_reducible exact LeO.none _)
      | (with_reducible refine LeO.ite ?_ ?_)
      | (with_reducible refine LeO.bind ?_ (fun _ => ?_))
      | exact ih0 _ _ _ _ _ _ _ _ _ _ _
      | exact polyglotlaw02_Right.mono _ _ _ _
      | exact LeO.none _
      | refine LeO.ite ?_ ?_
      | refine LeO.bind ?_ (fun _ => ?_)
set_option maxHeartbeats 8000000 in
set_option maxRecDepth 100000 in
theorem polyglotlaw14_Make_Right.calls (k : Nat) (a0_0 : Int) (a0_1 : ByteArray) (a0_2 : Bool) (a0_3 : ByteArray) (a0_4 : Int) (A0_5 : Option Addr) (c0_5 : Nat) (l0_5 : List (S78)) (a0_6 : Int) (a0_7 : Int) (r : Bool) (w : World) (hr0_5 : Kd.C k78 w A0_5 l0_5.length l0_5) (hc0_5 : l0_5.length ≤ c0_5) (h : polyglotlaw14_Make_Right.f k a0_0 a0_1 a0_2 a0_3 a0_4 l0_5 a0_6 a0_7 = some r) :
    Calls Tryz.prog 16 #[.agg #[.int .i64 a0_0, .string a0_1, .bool a0_2, .string a0_3, .int .i64 a0_4, .slice A0_5 l0_5.length c0_5, .int .i64 a0_6, .int .i64 a0_7]] w fun e w' => e = .returned (.bool r) ∧ Below w.heap.size w w' := by
  have hu42 := Tryz.underlying42
  have hu78 := Tryz.underlying78
  have hu23 := Tryz.underlying23
  have HR0_5 := Aside0.mk hr0_5
  have HC0_5 := Aside0.mk hc0_5
  clear hr0_5 hc0_5
  have HB := Aside0.mk (Below.refl w.heap.size w)
  have H : (polyglotlaw14_Make_Right.l0 k l0_5 (l0_5.length : Int) 0 a0_0 a0_1 a0_2 a0_3 a0_4 l0_5 a0_6 a0_7) = some r := h
  clear h
  have H' := Aside0.mk H
  clear H
  go_enter Tryz.func16, Tryz.ntmps16
  go_wp2_with (first | ((with_reducible refine gate_dst (N := 1) rfl ?_); (try (refine gate_guard (by rfl) ?_; dsimp only)); refine box_event ?hg (N := 1) ?hd (cs := #[.int .i64 a0_0, .string a0_1, .bool a0_2, .string a0_3, .int .i64 a0_4, .slice A0_5 l0_5.length c0_5, .int .i64 a0_6, .int .i64 a0_7]) (t := 42) ?hr ?_; (case hd => rfl); (case hg => rfl); (case hr => first | (go_simp; done) | (go_simp; rfl)); intro gb117 hg w2 hbox hb; have n0_ := Aside0.mk (below_step (by repeat (first | (with_reducible first | exact HB.out | apply below_alloc | apply pw_below_drewN | apply below_drew1) | exact HB.out)) hb); have n1_ := Aside0.mk (hbox); have n2_ := Aside0.mk ((by rw [hg]; exact (below_size (by repeat (first | (with_reducible first | exact HB.out | apply below_alloc | apply pw_below_drewN | apply below_drew1) | exact HB.out))) : w.heap.size ≤ gb117)); have n3_ := Aside0.mk ((by rw [hg]; exact (below_size (by repeat (first | (with_reducible first | exact HB.out | apply below_alloc | apply pw_below_drewN | apply below_drew1) | exact HB.out))) : w.heap.size ≤ gb117)); clear HB; have HB := n0_; have BK117 := n1_; have GW117 := n2_; have GE117 := n3_; clear n0_ n1_ n2_ n3_; clear hb hbox hg; have hcz3_0 : w2.cell? ⟨gb117, 0, none⟩ = some (.int .i64 a0_0) := (blk_cell BK117.out 0).trans rfl; have hcz3_1 : w2.cell? ⟨gb117, 1, none⟩ = some (.string a0_1) := (blk_cell BK117.out 1).trans rfl; have hcz3_2 : w2.cell? ⟨gb117, 2, none⟩ = some (.bool a0_2) := (blk_cell BK117.out 2).trans rfl; have hcz3_3 : w2.cell? ⟨gb117, 3, none⟩ = some (.string a0_3) := (blk_cell BK117.out 3).trans rfl; have hcz3_4 : w2.cell? ⟨gb117, 4, none⟩ = some (.int .i64 a0_4) := (blk_cell BK117.out 4).trans rfl; have hcz3_5 : w2.cell? ⟨gb117, 5, none⟩ = some (.slice A0_5 l0_5.length c0_5) := (blk_cell BK117.out 5).trans rfl; have hcz3_6 : w2.cell? ⟨gb117, 6, none⟩ = some (.int .i64 a0_6) := (blk_cell BK117.out 6).trans rfl; have hcz3_7 : w2.cell? ⟨gb117, 7, none⟩ = some (.int .i64 a0_7) := (blk_cell BK117.out 7).trans rfl; have hfz3_0 := blk_frozen BK117.out 0; have hfz3_1 := blk_frozen BK117.out 1; have hfz3_2 := blk_frozen BK117.out 2; have hfz3_3 := blk_frozen BK117.out 3; have hfz3_4 := blk_frozen BK117.out 4; have hfz3_5 := blk_frozen BK117.out 5; have hfz3_6 := blk_frozen BK117.out 6; have hfz3_7 := blk_frozen BK117.out 7))
  go_loopg [8] k (fun kq v8 w' => ∃ (x8_1 : Int), v8 = .int .i64 x8_1 ∧ Aside0 (polyglotlaw14_Make_Right.l0 kq l0_5 (l0_5.length : Int) x8_1 a0_0 a0_1 a0_2 a0_3 a0_4 l0_5 a0_6 a0_7 = some r) ∧ Aside0 (kq ≤ k) ∧ Aside0 (w'.heap[gb117]? = some (.cells #[.int .i64 a0_0, .string a0_1, .bool a0_2, .string a0_3, .int .i64 a0_4, (.slice A0_5 l0_5.length c0_5), .int .i64 a0_6, .int .i64 a0_7] 42 (0, 0))) ∧ Aside0 (Below w.heap.size w w'))
  case atStart => exact ⟨(0), (by first | rfl | (simp; done) | (simp [*]; done)), H', ⟨Nat.le_refl _⟩, ⟨by (with_reducible repeat (first | refine blk_drewN ?_ _ | refine blk_drew ?_ | refine blk_alloc ?_ _)); exact BK117.out⟩, ⟨by repeat (first | (with_reducible first | exact HB.out | apply below_alloc | apply pw_below_drewN | apply below_drew1 | refine below_set ?_ GE117.out) | exact HB.out)⟩⟩
  case round =>
    clear H'
    try clear c1
    try clear p2
    try clear hcz3_0
    try clear hcz3_1
    try clear hcz3_2
    try clear hcz3_3
    try clear hcz3_4
    try clear hcz3_5
    try clear hcz3_6
    try clear hcz3_7
    try clear hfz3_0
    try clear hfz3_1
    try clear hfz3_2
    try clear hfz3_3
    try clear hfz3_4
    try clear hfz3_5
    try clear hfz3_6
    try clear hfz3_7
    obtain ⟨x8_1, rfl, HA, HK1, BK117, HB⟩ := hrel
    cases gk with
    | zero => exact absurd HA.out (by simp [polyglotlaw14_Make_Right.l0])
    | succ k1 =>
      have H := HA.out
      clear HA
      simp only [polyglotlaw14_Make_Right.l0] at H
      by_cases c4 : x8_1 < (l0_5.length : Int)
      · rw [if_pos c4] at H
        have c4b0 : decide (x8_1 < (l0_5.length : Int)) = true := decide_eq_true c4
        clear c4
        by_cases c5 : 0 ≤ x8_1
        · rw [if_pos c5] at H
          have c5b0 : decide (0 ≤ x8_1) = true := decide_eq_true c5
          clear c5
          by_cases c6 : x8_1 < (l0_5.length : Int)
          · rw [if_pos c6] at H
            have c6b0 : decide (x8_1 < (l0_5.length : Int)) = true := decide_eq_true c6
            clear c6
            replace H := Option.bind_eq_some_iff.mp H
            obtain ⟨t120, A70, H⟩ := H
            replace H : (if t120 = true then (polyglotlaw14_Make_Right.l0 k1 l0_5 (l0_5.length : Int) (wrap64 (x8_1 + 1)) a0_0 a0_1 a0_2 a0_3 a0_4 l0_5 a0_6 a0_7) else (some false)) = some r := H
            have A7 := Aside0.mk A70
            clear A70
            by_cases c8 : t120 = true
            · subst c8
              have H1 : (polyglotlaw14_Make_Right.l0 k1 l0_5 (l0_5.length : Int) (wrap64 (x8_1 + 1)) a0_0 a0_1 a0_2 a0_3 a0_4 l0_5 a0_6 a0_7) = some r := by rw [if_pos rfl] at H; exact H
              clear H
              have H := H1
              clear H1
              have H' := Aside0.mk H
              clear H
              have p118 : 0 ≤ (x8_1 : Int) := of_decide_eq_true (by first | (with_reducible assumption) | assumption)
              have q118 : x8_1 < (l0_5.length : Int) := of_decide_eq_true (by first | (with_reducible assumption) | assumption)
              obtain ⟨ad118, e118, hx118_0, hx118_1, hx118_2, hx118_3, hx118_4, hx118_5⟩ := at_T78 HR0_5.out x8_1 p118 q118
              cases e118
              replace hx118_0 := (HB.out.cell (World.block_lt_of_cell? w _ hx118_0)).trans hx118_0
              replace hx118_1 := (HB.out.cell (World.block_lt_of_cell? w _ hx118_1)).trans hx118_1
              replace hx118_2 := (HB.out.cell (World.block_lt_of_cell? w _ hx118_2)).trans hx118_2
              replace hx118_3 := (HB.out.cell (World.block_lt_of_cell? w _ hx118_3)).trans hx118_3
              replace hx118_4 := (HB.out.cell (World.block_lt_of_cell? w _ hx118_4)).trans hx118_4
              replace hx118_5 := (HB.out.cell (World.block_lt_of_cell? w _ hx118_5)).trans hx118_5
              replace p118 := eq_true p118
              replace q118 := eq_true q118
              go_wp2_with (first | ((with_reducible refine gate_dst (N := 4) rfl ?_); (try (refine gate_guard (by rfl) ?_; dsimp only)); refine box_event ?hg (N := 4) ?hd (cs := #[.string (⟨#[]⟩ : ByteArray), .string (⟨#[]⟩ : ByteArray), .bool false, .string (⟨#[]⟩ : ByteArray), .int .i64 0, .bool false]) (t := 78) ?hr ?_; (case hd => rfl); (case hg => rfl); (case hr => first | (go_simp; done) | (go_simp; rfl)); intro gb119 hg w9 hbox hb; have n0_ := Aside0.mk (blk_below (g := gb117) (o := .cells #[.int .i64 a0_0, .string a0_1, .bool a0_2, .string a0_3, .int .i64 a0_4, .slice (some ad118) l0_5.length c0_5, .int .i64 a0_6, .int .i64 a0_7] 42 (0, 0)) (by (with_reducible repeat (first | refine blk_drewN ?_ _ | refine blk_drew ?_ | refine blk_alloc ?_ _)); exact BK117.out) hb); have n1_ := Aside0.mk (below_step (by repeat (first | (with_reducible first | exact HB.out | apply below_alloc | apply pw_below_drewN | apply below_drew1 | refine below_set ?_ GE117.out) | exact HB.out)) hb); have n2_ := Aside0.mk (hbox); have n3_ := Aside0.mk ((by rw [hg]; exact (below_size (by repeat (first | (with_reducible first | exact HB.out | apply below_alloc | apply pw_below_drewN | apply below_drew1 | refine below_set ?_ GE117.out) | exact HB.out))) : w.heap.size ≤ gb119)); have n4_ := Aside0.mk ((by rw [hg]; exact (below_size (by repeat (first | (with_reducible first | exact HB.out | apply below_alloc | apply pw_below_drewN | apply below_drew1 | refine below_set ?_ GE117.out) | exact HB.out))) : w.heap.size ≤ gb119)); have n5_ := Aside0.mk ((by rw [hg]; exact Nat.ne_of_lt (blk_lt (g := gb117) (o := .cells #[.int .i64 a0_0, .string a0_1, .bool a0_2, .string a0_3, .int .i64 a0_4, .slice (some ad118) l0_5.length c0_5, .int .i64 a0_6, .int .i64 a0_7] 42 (0, 0)) (by (with_reducible repeat (first | refine blk_drewN ?_ _ | refine blk_drew ?_ | refine blk_alloc ?_ _)); exact BK117.out)) : gb117 ≠ gb119)); have n6_ := Aside0.mk ((by rw [hg]; exact Nat.ne_of_gt (blk_lt (g := gb117) (o := .cells #[.int .i64 a0_0, .string a0_1, .bool a0_2, .string a0_3, .int .i64 a0_4, .slice (some ad118) l0_5.length c0_5, .int .i64 a0_6, .int .i64 a0_7] 42 (0, 0)) (by (with_reducible repeat (first | refine blk_drewN ?_ _ | refine blk_drew ?_ | refine blk_alloc ?_ _)); exact BK117.out)) : gb119 ≠ gb117)); clear BK117; clear HB; have BK117 := n0_; have HB := n1_; have BK119 := n2_; have GW119 := n3_; have GE119 := n4_; have NB117_119 := n5_; have NB119_117 := n6_; clear n0_ n1_ n2_ n3_ n4_ n5_ n6_; clear hb hbox hg; have hnb10 := NB119_117.out; have hnc10 := NB117_119.out; have hcz11_0 : w9.cell? ⟨gb119, 0, none⟩ = some (.string (⟨#[]⟩ : ByteArray)) := (blk_cell BK119.out 0).trans rfl; have hcz11_1 : w9.cell? ⟨gb119, 1, none⟩ = some (.string (⟨#[]⟩ : ByteArray)) := (blk_cell BK119.out 1).trans rfl; have hcz11_2 : w9.cell? ⟨gb119, 2, none⟩ = some (.bool false) := (blk_cell BK119.out 2).trans rfl; have hcz11_3 : w9.cell? ⟨gb119, 3, none⟩ = some (.string (⟨#[]⟩ : ByteArray)) := (blk_cell BK119.out 3).trans rfl; have hcz11_4 : w9.cell? ⟨gb119, 4, none⟩ = some (.int .i64 0) := (blk_cell BK119.out 4).trans rfl; have hcz11_5 : w9.cell? ⟨gb119, 5, none⟩ = some (.bool false) := (blk_cell BK119.out 5).trans rfl; have hfz11_0 := blk_frozen BK119.out 0; have hfz11_1 := blk_frozen BK119.out 1; have hfz11_2 := blk_frozen BK119.out 2; have hfz11_3 := blk_frozen BK119.out 3; have hfz11_4 := blk_frozen BK119.out 4; have hfz11_5 := blk_frozen BK119.out 5) | ((with_reducible refine gate_callee (f := 7) rfl ?_); refine goesL_ (some 14) rfl rfl Tryz.func7 (by kernel_rfl) rfl #[.agg #[.bool ((rd_T78 l0_5 x8_1).f2.f0), .string ((rd_T78 l0_5 x8_1).f2.f1), .int .i64 ((rd_T78 l0_5 x8_1).f2.f2)]] rfl (by (try simp only [List.map_toArray, List.map_cons, List.map_nil]); first | done | rfl | (simp only [List.length_drop, List.length_take]; rfl)) ?_; (with_reducible refine (polyglotlaw02_Right.calls k1 ((rd_T78 l0_5 x8_1).f2.f0) ((rd_T78 l0_5 x8_1).f2.f1) ((rd_T78 l0_5 x8_1).f2.f2) true _ A7.out).mono ?_); rintro e w12 ⟨rfl, hb⟩; refine ⟨_, rfl, ?_⟩; have n0_ := Aside0.mk (blk_below (g := gb117) (o := .cells #[.int .i64 a0_0, .string a0_1, .bool a0_2, .string a0_3, .int .i64 a0_4, .slice (some ad118) l0_5.length c0_5, .int .i64 a0_6, .int .i64 a0_7] 42 (0, 0)) (by (with_reducible repeat (first | refine blk_drewN ?_ _ | refine blk_drew ?_ | refine blk_alloc ?_ _)); refine blk_far ?_ NB117_119.out _; (with_reducible repeat (first | refine blk_drewN ?_ _ | refine blk_drew ?_ | refine blk_alloc ?_ _)); refine blk_far ?_ NB117_119.out _; (with_reducible repeat (first | refine blk_drewN ?_ _ | refine blk_drew ?_ | refine blk_alloc ?_ _)); refine blk_far ?_ NB117_119.out _; (with_reducible repeat (first | refine blk_drewN ?_ _ | refine blk_drew ?_ | refine blk_alloc ?_ _)); refine blk_far ?_ NB117_119.out _; (with_reducible repeat (first | refine blk_drewN ?_ _ | refine blk_drew ?_ | refine blk_alloc ?_ _)); refine blk_far ?_ NB117_119.out _; (with_reducible repeat (first | refine blk_drewN ?_ _ | refine blk_drew ?_ | refine blk_alloc ?_ _)); refine blk_far ?_ NB117_119.out _; (with_reducible repeat (first | refine blk_drewN ?_ _ | refine blk_drew ?_ | refine blk_alloc ?_ _)); exact BK117.out) hb); have n1_ := Aside0.mk (blk_below (g := gb119) (o := .cells #[.string ((rd_T78 l0_5 x8_1).f0), .string ((rd_T78 l0_5 x8_1).f1), .bool ((rd_T78 l0_5 x8_1).f2.f0), .string ((rd_T78 l0_5 x8_1).f2.f1), .int .i64 ((rd_T78 l0_5 x8_1).f2.f2), .bool ((rd_T78 l0_5 x8_1).f3)] 78 (0, 0)) (by (with_reducible repeat (first | refine blk_drewN ?_ _ | refine blk_drew ?_ | refine blk_alloc ?_ _)); refine blk_put (cs := #[.string ((rd_T78 l0_5 x8_1).f0), .string ((rd_T78 l0_5 x8_1).f1), .bool ((rd_T78 l0_5 x8_1).f2.f0), .string ((rd_T78 l0_5 x8_1).f2.f1), .int .i64 ((rd_T78 l0_5 x8_1).f2.f2), .bool false]) ?_ 5 _ rfl; (with_reducible repeat (first | refine blk_drewN ?_ _ | refine blk_drew ?_ | refine blk_alloc ?_ _)); refine blk_put (cs := #[.string ((rd_T78 l0_5 x8_1).f0), .string ((rd_T78 l0_5 x8_1).f1), .bool ((rd_T78 l0_5 x8_1).f2.f0), .string ((rd_T78 l0_5 x8_1).f2.f1), .int .i64 0, .bool false]) ?_ 4 _ rfl; (with_reducible repeat (first | refine blk_drewN ?_ _ | refine blk_drew ?_ | refine blk_alloc ?_ _)); refine blk_put (cs := #[.string ((rd_T78 l0_5 x8_1).f0), .string ((rd_T78 l0_5 x8_1).f1), .bool ((rd_T78 l0_5 x8_1).f2.f0), .string (⟨#[]⟩ : ByteArray), .int .i64 0, .bool false]) ?_ 3 _ rfl; (with_reducible repeat (first | refine blk_drewN ?_ _ | refine blk_drew ?_ | refine blk_alloc ?_ _)); refine blk_put (cs := #[.string ((rd_T78 l0_5 x8_1).f0), .string ((rd_T78 l0_5 x8_1).f1), .bool false, .string (⟨#[]⟩ : ByteArray), .int .i64 0, .bool false]) ?_ 2 _ rfl; (with_reducible repeat (first | refine blk_drewN ?_ _ | refine blk_drew ?_ | refine blk_alloc ?_ _)); refine blk_put (cs := #[.string ((rd_T78 l0_5 x8_1).f0), .string (⟨#[]⟩ : ByteArray), .bool false, .string (⟨#[]⟩ : ByteArray), .int .i64 0, .bool false]) ?_ 1 _ rfl; (with_reducible repeat (first | refine blk_drewN ?_ _ | refine blk_drew ?_ | refine blk_alloc ?_ _)); refine blk_put (cs := #[.string (⟨#[]⟩ : ByteArray), .string (⟨#[]⟩ : ByteArray), .bool false, .string (⟨#[]⟩ : ByteArray), .int .i64 0, .bool false]) ?_ 0 _ rfl; (with_reducible repeat (first | refine blk_drewN ?_ _ | refine blk_drew ?_ | refine blk_alloc ?_ _)); exact BK119.out) hb); have n2_ := Aside0.mk (below_step (by repeat (first | (with_reducible first | exact HB.out | apply below_alloc | apply pw_below_drewN | apply below_drew1 | refine below_set ?_ GE117.out | refine below_set ?_ GE119.out) | exact HB.out)) hb); clear BK117; clear BK119; clear HB; have BK117 := n0_; have BK119 := n1_; have HB := n2_; clear n0_ n1_ n2_; (try clear hb); (try clear hb2); (try clear hk); (try clear hi)))
              go_roundg k1
              case measure => have := HK1.out; omega
              case rel => exact ⟨(wrap64 (x8_1 + 1)), (by first | rfl | (simp; done) | (simp [*]; done)), H', ⟨by have := HK1.out; omega⟩, ⟨by (with_reducible repeat (first | refine blk_drewN ?_ _ | refine blk_drew ?_ | refine blk_alloc ?_ _)); exact BK117.out⟩, ⟨by repeat (first | (with_reducible first | exact HB.out | apply below_alloc | apply pw_below_drewN | apply below_drew1 | refine below_set ?_ GE117.out | refine below_set ?_ GE119.out) | exact HB.out)⟩⟩
            · replace c8 := Bool.eq_false_iff.mpr c8
              subst c8
              have H1 : (some false) = some r := by rw [if_neg (show ¬ (false = true) by decide)] at H; exact H
              clear H
              have H := H1
              clear H1
              obtain rfl := Option.some.inj H
              have p118 : 0 ≤ (x8_1 : Int) := of_decide_eq_true (by first | (with_reducible assumption) | assumption)
              have q118 : x8_1 < (l0_5.length : Int) := of_decide_eq_true (by first | (with_reducible assumption) | assumption)
              obtain ⟨ad118, e118, hx118_0, hx118_1, hx118_2, hx118_3, hx118_4, hx118_5⟩ := at_T78 HR0_5.out x8_1 p118 q118
              cases e118
              replace hx118_0 := (HB.out.cell (World.block_lt_of_cell? w _ hx118_0)).trans hx118_0
              replace hx118_1 := (HB.out.cell (World.block_lt_of_cell? w _ hx118_1)).trans hx118_1
              replace hx118_2 := (HB.out.cell (World.block_lt_of_cell? w _ hx118_2)).trans hx118_2
              replace hx118_3 := (HB.out.cell (World.block_lt_of_cell? w _ hx118_3)).trans hx118_3
              replace hx118_4 := (HB.out.cell (World.block_lt_of_cell? w _ hx118_4)).trans hx118_4
              replace hx118_5 := (HB.out.cell (World.block_lt_of_cell? w _ hx118_5)).trans hx118_5
              replace p118 := eq_true p118
              replace q118 := eq_true q118
              go_wp2_with (first | ((with_reducible refine gate_dst (N := 4) rfl ?_); (try (refine gate_guard (by rfl) ?_; dsimp only)); refine box_event ?hg (N := 4) ?hd (cs := #[.string (⟨#[]⟩ : ByteArray), .string (⟨#[]⟩ : ByteArray), .bool false, .string (⟨#[]⟩ : ByteArray), .int .i64 0, .bool false]) (t := 78) ?hr ?_; (case hd => rfl); (case hg => rfl); (case hr => first | (go_simp; done) | (go_simp; rfl)); intro gb119 hg w13 hbox hb; have n0_ := Aside0.mk (blk_below (g := gb117) (o := .cells #[.int .i64 a0_0, .string a0_1, .bool a0_2, .string a0_3, .int .i64 a0_4, .slice (some ad118) l0_5.length c0_5, .int .i64 a0_6, .int .i64 a0_7] 42 (0, 0)) (by (with_reducible repeat (first | refine blk_drewN ?_ _ | refine blk_drew ?_ | refine blk_alloc ?_ _)); exact BK117.out) hb); have n1_ := Aside0.mk (below_step (by repeat (first | (with_reducible first | exact HB.out | apply below_alloc | apply pw_below_drewN | apply below_drew1 | refine below_set ?_ GE117.out) | exact HB.out)) hb); have n2_ := Aside0.mk (hbox); have n3_ := Aside0.mk ((by rw [hg]; exact (below_size (by repeat (first | (with_reducible first | exact HB.out | apply below_alloc | apply pw_below_drewN | apply below_drew1 | refine below_set ?_ GE117.out) | exact HB.out))) : w.heap.size ≤ gb119)); have n4_ := Aside0.mk ((by rw [hg]; exact (below_size (by repeat (first | (with_reducible first | exact HB.out | apply below_alloc | apply pw_below_drewN | apply below_drew1 | refine below_set ?_ GE117.out) | exact HB.out))) : w.heap.size ≤ gb119)); have n5_ := Aside0.mk ((by rw [hg]; exact Nat.ne_of_lt (blk_lt (g := gb117) (o := .cells #[.int .i64 a0_0, .string a0_1, .bool a0_2, .string a0_3, .int .i64 a0_4, .slice (some ad118) l0_5.length c0_5, .int .i64 a0_6, .int .i64 a0_7] 42 (0, 0)) (by (with_reducible repeat (first | refine blk_drewN ?_ _ | refine blk_drew ?_ | refine blk_alloc ?_ _)); exact BK117.out)) : gb117 ≠ gb119)); have n6_ := Aside0.mk ((by rw [hg]; exact Nat.ne_of_gt (blk_lt (g := gb117) (o := .cells #[.int .i64 a0_0, .string a0_1, .bool a0_2, .string a0_3, .int .i64 a0_4, .slice (some ad118) l0_5.length c0_5, .int .i64 a0_6, .int .i64 a0_7] 42 (0, 0)) (by (with_reducible repeat (first | refine blk_drewN ?_ _ | refine blk_drew ?_ | refine blk_alloc ?_ _)); exact BK117.out)) : gb119 ≠ gb117)); clear BK117; clear HB; have BK117 := n0_; have HB := n1_; have BK119 := n2_; have GW119 := n3_; have GE119 := n4_; have NB117_119 := n5_; have NB119_117 := n6_; clear n0_ n1_ n2_ n3_ n4_ n5_ n6_; clear hb hbox hg; have hnb14 := NB119_117.out; have hnc14 := NB117_119.out; have hcz15_0 : w13.cell? ⟨gb119, 0, none⟩ = some (.string (⟨#[]⟩ : ByteArray)) := (blk_cell BK119.out 0).trans rfl; have hcz15_1 : w13.cell? ⟨gb119, 1, none⟩ = some (.string (⟨#[]⟩ : ByteArray)) := (blk_cell BK119.out 1).trans rfl; have hcz15_2 : w13.cell? ⟨gb119, 2, none⟩ = some (.bool false) := (blk_cell BK119.out 2).trans rfl; have hcz15_3 : w13.cell? ⟨gb119, 3, none⟩ = some (.string (⟨#[]⟩ : ByteArray)) := (blk_cell BK119.out 3).trans rfl; have hcz15_4 : w13.cell? ⟨gb119, 4, none⟩ = some (.int .i64 0) := (blk_cell BK119.out 4).trans rfl; have hcz15_5 : w13.cell? ⟨gb119, 5, none⟩ = some (.bool false) := (blk_cell BK119.out 5).trans rfl; have hfz15_0 := blk_frozen BK119.out 0; have hfz15_1 := blk_frozen BK119.out 1; have hfz15_2 := blk_frozen BK119.out 2; have hfz15_3 := blk_frozen BK119.out 3; have hfz15_4 := blk_frozen BK119.out 4; have hfz15_5 := blk_frozen BK119.out 5) | ((with_reducible refine gate_callee (f := 7) rfl ?_); refine goesL_ (some 14) rfl rfl Tryz.func7 (by kernel_rfl) rfl #[.agg #[.bool ((rd_T78 l0_5 x8_1).f2.f0), .string ((rd_T78 l0_5 x8_1).f2.f1), .int .i64 ((rd_T78 l0_5 x8_1).f2.f2)]] rfl (by (try simp only [List.map_toArray, List.map_cons, List.map_nil]); first | done | rfl | (simp only [List.length_drop, List.length_take]; rfl)) ?_; (with_reducible refine (polyglotlaw02_Right.calls k1 ((rd_T78 l0_5 x8_1).f2.f0) ((rd_T78 l0_5 x8_1).f2.f1) ((rd_T78 l0_5 x8_1).f2.f2) false _ A7.out).mono ?_); rintro e w16 ⟨rfl, hb⟩; refine ⟨_, rfl, ?_⟩; have n0_ := Aside0.mk (blk_below (g := gb117) (o := .cells #[.int .i64 a0_0, .string a0_1, .bool a0_2, .string a0_3, .int .i64 a0_4, .slice (some ad118) l0_5.length c0_5, .int .i64 a0_6, .int .i64 a0_7] 42 (0, 0)) (by (with_reducible repeat (first | refine blk_drewN ?_ _ | refine blk_drew ?_ | refine blk_alloc ?_ _)); refine blk_far ?_ NB117_119.out _; (with_reducible repeat (first | refine blk_drewN ?_ _ | refine blk_drew ?_ | refine blk_alloc ?_ _)); refine blk_far ?_ NB117_119.out _; (with_reducible repeat (first | refine blk_drewN ?_ _ | refine blk_drew ?_ | refine blk_alloc ?_ _)); refine blk_far ?_ NB117_119.out _; (with_reducible repeat (first | refine blk_drewN ?_ _ | refine blk_drew ?_ | refine blk_alloc ?_ _)); refine blk_far ?_ NB117_119.out _; (with_reducible repeat (first | refine blk_drewN ?_ _ | refine blk_drew ?_ | refine blk_alloc ?_ _)); refine blk_far ?_ NB117_119.out _; (with_reducible repeat (first | refine blk_drewN ?_ _ | refine blk_drew ?_ | refine blk_alloc ?_ _)); refine blk_far ?_ NB117_119.out _; (with_reducible repeat (first | refine blk_drewN ?_ _ | refine blk_drew ?_ | refine blk_alloc ?_ _)); exact BK117.out) hb); have n1_ := Aside0.mk (blk_below (g := gb119) (o := .cells #[.string ((rd_T78 l0_5 x8_1).f0), .string ((rd_T78 l0_5 x8_1).f1), .bool ((rd_T78 l0_5 x8_1).f2.f0), .string ((rd_T78 l0_5 x8_1).f2.f1), .int .i64 ((rd_T78 l0_5 x8_1).f2.f2), .bool ((rd_T78 l0_5 x8_1).f3)] 78 (0, 0)) (by (with_reducible repeat (first | refine blk_drewN ?_ _ | refine blk_drew ?_ | refine blk_alloc ?_ _)); refine blk_put (cs := #[.string ((rd_T78 l0_5 x8_1).f0), .string ((rd_T78 l0_5 x8_1).f1), .bool ((rd_T78 l0_5 x8_1).f2.f0), .string ((rd_T78 l0_5 x8_1).f2.f1), .int .i64 ((rd_T78 l0_5 x8_1).f2.f2), .bool false]) ?_ 5 _ rfl; (with_reducible repeat (first | refine blk_drewN ?_ _ | refine blk_drew ?_ | refine blk_alloc ?_ _)); refine blk_put (cs := #[.string ((rd_T78 l0_5 x8_1).f0), .string ((rd_T78 l0_5 x8_1).f1), .bool ((rd_T78 l0_5 x8_1).f2.f0), .string ((rd_T78 l0_5 x8_1).f2.f1), .int .i64 0, .bool false]) ?_ 4 _ rfl; (with_reducible repeat (first | refine blk_drewN ?_ _ | refine blk_drew ?_ | refine blk_alloc ?_ _)); refine blk_put (cs := #[.string ((rd_T78 l0_5 x8_1).f0), .string ((rd_T78 l0_5 x8_1).f1), .bool ((rd_T78 l0_5 x8_1).f2.f0), .string (⟨#[]⟩ : ByteArray), .int .i64 0, .bool false]) ?_ 3 _ rfl; (with_reducible repeat (first | refine blk_drewN ?_ _ | refine blk_drew ?_ | refine blk_alloc ?_ _)); refine blk_put (cs := #[.string ((rd_T78 l0_5 x8_1).f0), .string ((rd_T78 l0_5 x8_1).f1), .bool false, .string (⟨#[]⟩ : ByteArray), .int .i64 0, .bool false]) ?_ 2 _ rfl; (with_reducible repeat (first | refine blk_drewN ?_ _ | refine blk_drew ?_ | refine blk_alloc ?_ _)); refine blk_put (cs := #[.string ((rd_T78 l0_5 x8_1).f0), .string (⟨#[]⟩ : ByteArray), .bool false, .string (⟨#[]⟩ : ByteArray), .int .i64 0, .bool false]) ?_ 1 _ rfl; (with_reducible repeat (first | refine blk_drewN ?_ _ | refine blk_drew ?_ | refine blk_alloc ?_ _)); refine blk_put (cs := #[.string (⟨#[]⟩ : ByteArray), .string (⟨#[]⟩ : ByteArray), .bool false, .string (⟨#[]⟩ : ByteArray), .int .i64 0, .bool false]) ?_ 0 _ rfl; (with_reducible repeat (first | refine blk_drewN ?_ _ | refine blk_drew ?_ | refine blk_alloc ?_ _)); exact BK119.out) hb); have n2_ := Aside0.mk (below_step (by repeat (first | (with_reducible first | exact HB.out | apply below_alloc | apply pw_below_drewN | apply below_drew1 | refine below_set ?_ GE117.out | refine below_set ?_ GE119.out) | exact HB.out)) hb); clear BK117; clear BK119; clear HB; have BK117 := n0_; have BK119 := n1_; have HB := n2_; clear n0_ n1_ n2_; (try clear hb); (try clear hb2); (try clear hk); (try clear hi)))
              go_ret
              exact ⟨by first | rfl | (simp [errW_none, errW_some] <;> rfl) | (simp [*, errW_none, errW_some] <;> rfl), by repeat (first | (with_reducible first | exact HB.out | apply below_alloc | apply pw_below_drewN | apply below_drew1 | refine below_set ?_ GE117.out | refine below_set ?_ GE119.out) | exact HB.out)⟩
          · rw [if_neg c6] at H
            exact absurd H (by simp)
        · rw [if_neg c5] at H
          exact absurd H (by simp)
      · rw [if_neg c4] at H
        have c4b0 : decide (x8_1 < (l0_5.length : Int)) = false := decide_eq_false c4
        clear c4
        replace H := Option.bind_eq_some_iff.mp H
        obtain ⟨t121, A170, H⟩ := H
        replace H : (if t121 = true then (if (l0_5.length : Int) ≤ 20 then (some (decide ((a0_1.size : Int) ≤ 60))) else (some false)) else (some false)) = some r := H
        have A17 := Aside0.mk A170
        clear A170
        by_cases c18 : t121 = true
        · subst c18
          have H1 : (if (l0_5.length : Int) ≤ 20 then (some (decide ((a0_1.size : Int) ≤ 60))) else (some false)) = some r := by rw [if_pos rfl] at H; exact H
          clear H
          have H := H1
          clear H1
          by_cases c19 : (l0_5.length : Int) ≤ 20
          · rw [if_pos c19] at H
            have c19b0 : decide ((l0_5.length : Int) ≤ 20) = true := decide_eq_true c19
            have c19b1 : decide (l0_5.length ≤ 20) = true := decide_eq_true (by omega)
            clear c19
            obtain rfl := Option.some.inj H
            have hcz20_0 : wr.cell? ⟨gb117, 0, none⟩ = some (.int .i64 a0_0) := (blk_cell BK117.out 0).trans rfl
            have hcz20_1 : wr.cell? ⟨gb117, 1, none⟩ = some (.string a0_1) := (blk_cell BK117.out 1).trans rfl
            have hcz20_2 : wr.cell? ⟨gb117, 2, none⟩ = some (.bool a0_2) := (blk_cell BK117.out 2).trans rfl
            have hcz20_3 : wr.cell? ⟨gb117, 3, none⟩ = some (.string a0_3) := (blk_cell BK117.out 3).trans rfl
            have hcz20_4 : wr.cell? ⟨gb117, 4, none⟩ = some (.int .i64 a0_4) := (blk_cell BK117.out 4).trans rfl
            have hcz20_5 : wr.cell? ⟨gb117, 5, none⟩ = some (.slice A0_5 l0_5.length c0_5) := (blk_cell BK117.out 5).trans rfl
            have hcz20_6 : wr.cell? ⟨gb117, 6, none⟩ = some (.int .i64 a0_6) := (blk_cell BK117.out 6).trans rfl
            have hcz20_7 : wr.cell? ⟨gb117, 7, none⟩ = some (.int .i64 a0_7) := (blk_cell BK117.out 7).trans rfl
            have hfz20_0 := blk_frozen BK117.out 0
            have hfz20_1 := blk_frozen BK117.out 1
            have hfz20_2 := blk_frozen BK117.out 2
            have hfz20_3 := blk_frozen BK117.out 3
            have hfz20_4 := blk_frozen BK117.out 4
            have hfz20_5 := blk_frozen BK117.out 5
            have hfz20_6 := blk_frozen BK117.out 6
            have hfz20_7 := blk_frozen BK117.out 7
            go_wp2_with (first | ((with_reducible refine gate_callee (f := 7) rfl ?_); refine goesL_ (some 19) rfl rfl Tryz.func7 (by kernel_rfl) rfl #[.agg #[.bool a0_2, .string a0_3, .int .i64 a0_4]] rfl (by (try simp only [List.map_toArray, List.map_cons, List.map_nil]); first | done | rfl | (simp only [List.length_drop, List.length_take]; rfl)) ?_; (with_reducible refine (polyglotlaw02_Right.calls k1 a0_2 a0_3 a0_4 true _ A17.out).mono ?_); rintro e w21 ⟨rfl, hb⟩; refine ⟨_, rfl, ?_⟩; have n0_ := Aside0.mk (blk_below (g := gb117) (o := .cells #[.int .i64 a0_0, .string a0_1, .bool a0_2, .string a0_3, .int .i64 a0_4, .slice A0_5 l0_5.length c0_5, .int .i64 a0_6, .int .i64 a0_7] 42 (0, 0)) (by (with_reducible repeat (first | refine blk_drewN ?_ _ | refine blk_drew ?_ | refine blk_alloc ?_ _)); exact BK117.out) hb); have n1_ := Aside0.mk (below_step (by repeat (first | (with_reducible first | exact HB.out | apply below_alloc | apply pw_below_drewN | apply below_drew1 | refine below_set ?_ GE117.out) | exact HB.out)) hb); clear BK117; clear HB; have BK117 := n0_; have HB := n1_; clear n0_ n1_; (try clear hb); (try clear hb2); (try clear hk); (try clear hi); have hcz22_0 : w21.cell? ⟨gb117, 0, none⟩ = some (.int .i64 a0_0) := (blk_cell BK117.out 0).trans rfl; have hcz22_1 : w21.cell? ⟨gb117, 1, none⟩ = some (.string a0_1) := (blk_cell BK117.out 1).trans rfl; have hcz22_2 : w21.cell? ⟨gb117, 2, none⟩ = some (.bool a0_2) := (blk_cell BK117.out 2).trans rfl; have hcz22_3 : w21.cell? ⟨gb117, 3, none⟩ = some (.string a0_3) := (blk_cell BK117.out 3).trans rfl; have hcz22_4 : w21.cell? ⟨gb117, 4, none⟩ = some (.int .i64 a0_4) := (blk_cell BK117.out 4).trans rfl; have hcz22_5 : w21.cell? ⟨gb117, 5, none⟩ = some (.slice A0_5 l0_5.length c0_5) := (blk_cell BK117.out 5).trans rfl; have hcz22_6 : w21.cell? ⟨gb117, 6, none⟩ = some (.int .i64 a0_6) := (blk_cell BK117.out 6).trans rfl; have hcz22_7 : w21.cell? ⟨gb117, 7, none⟩ = some (.int .i64 a0_7) := (blk_cell BK117.out 7).trans rfl; have hfz22_0 := blk_frozen BK117.out 0; have hfz22_1 := blk_frozen BK117.out 1; have hfz22_2 := blk_frozen BK117.out 2; have hfz22_3 := blk_frozen BK117.out 3; have hfz22_4 := blk_frozen BK117.out 4; have hfz22_5 := blk_frozen BK117.out 5; have hfz22_6 := blk_frozen BK117.out 6; have hfz22_7 := blk_frozen BK117.out 7))
            go_ret
            exact ⟨by first | rfl | (simp [errW_none, errW_some] <;> rfl) | (simp [*, errW_none, errW_some] <;> rfl), by repeat (first | (with_reducible first | exact HB.out | apply below_alloc | apply pw_below_drewN | apply below_drew1 | refine below_set ?_ GE117.out) | exact HB.out)⟩
          · rw [if_neg c19] at H
            have c19b0 : decide ((l0_5.length : Int) ≤ 20) = false := decide_eq_false c19
            have c19b1 : decide (l0_5.length ≤ 20) = false := decide_eq_false (by omega)
            clear c19
            obtain rfl := Option.some.inj H
            have hcz23_0 : wr.cell? ⟨gb117, 0, none⟩ = some (.int .i64 a0_0) := (blk_cell BK117.out 0).trans rfl
            have hcz23_1 : wr.cell? ⟨gb117, 1, none⟩ = some (.string a0_1) := (blk_cell BK117.out 1).trans rfl
            have hcz23_2 : wr.cell? ⟨gb117, 2, none⟩ = some (.bool a0_2) := (blk_cell BK117.out 2).trans rfl
            have hcz23_3 : wr.cell? ⟨gb117, 3, none⟩ = some (.string a0_3) := (blk_cell BK117.out 3).trans rfl
            have hcz23_4 : wr.cell? ⟨gb117, 4, none⟩ = some (.int .i64 a0_4) := (blk_cell BK117.out 4).trans rfl
            have hcz23_5 : wr.cell? ⟨gb117, 5, none⟩ = some (.slice A0_5 l0_5.length c0_5) := (blk_cell BK117.out 5).trans rfl
            have hcz23_6 : wr.cell? ⟨gb117, 6, none⟩ = some (.int .i64 a0_6) := (blk_cell BK117.out 6).trans rfl
            have hcz23_7 : wr.cell? ⟨gb117, 7, none⟩ = some (.int .i64 a0_7) := (blk_cell BK117.out 7).trans rfl
            have hfz23_0 := blk_frozen BK117.out 0
            have hfz23_1 := blk_frozen BK117.out 1
            have hfz23_2 := blk_frozen BK117.out 2
            have hfz23_3 := blk_frozen BK117.out 3
            have hfz23_4 := blk_frozen BK117.out 4
            have hfz23_5 := blk_frozen BK117.out 5
            have hfz23_6 := blk_frozen BK117.out 6
            have hfz23_7 := blk_frozen BK117.out 7
            go_wp2_with (first | ((with_reducible refine gate_callee (f := 7) rfl ?_); refine goesL_ (some 19) rfl rfl Tryz.func7 (by kernel_rfl) rfl #[.agg #[.bool a0_2, .string a0_3, .int .i64 a0_4]] rfl (by (try simp only [List.map_toArray, List.map_cons, List.map_nil]); first | done | rfl | (simp only [List.length_drop, List.length_take]; rfl)) ?_; (with_reducible refine (polyglotlaw02_Right.calls k1 a0_2 a0_3 a0_4 true _ A17.out).mono ?_); rintro e w24 ⟨rfl, hb⟩; refine ⟨_, rfl, ?_⟩; have n0_ := Aside0.mk (blk_below (g := gb117) (o := .cells #[.int .i64 a0_0, .string a0_1, .bool a0_2, .string a0_3, .int .i64 a0_4, .slice A0_5 l0_5.length c0_5, .int .i64 a0_6, .int .i64 a0_7] 42 (0, 0)) (by (with_reducible repeat (first | refine blk_drewN ?_ _ | refine blk_drew ?_ | refine blk_alloc ?_ _)); exact BK117.out) hb); have n1_ := Aside0.mk (below_step (by repeat (first | (with_reducible first | exact HB.out | apply below_alloc | apply pw_below_drewN | apply below_drew1 | refine below_set ?_ GE117.out) | exact HB.out)) hb); clear BK117; clear HB; have BK117 := n0_; have HB := n1_; clear n0_ n1_; (try clear hb); (try clear hb2); (try clear hk); (try clear hi); have hcz25_0 : w24.cell? ⟨gb117, 0, none⟩ = some (.int .i64 a0_0) := (blk_cell BK117.out 0).trans rfl; have hcz25_1 : w24.cell? ⟨gb117, 1, none⟩ = some (.string a0_1) := (blk_cell BK117.out 1).trans rfl; have hcz25_2 : w24.cell? ⟨gb117, 2, none⟩ = some (.bool a0_2) := (blk_cell BK117.out 2).trans rfl; have hcz25_3 : w24.cell? ⟨gb117, 3, none⟩ = some (.string a0_3) := (blk_cell BK117.out 3).trans rfl; have hcz25_4 : w24.cell? ⟨gb117, 4, none⟩ = some (.int .i64 a0_4) := (blk_cell BK117.out 4).trans rfl; have hcz25_5 : w24.cell? ⟨gb117, 5, none⟩ = some (.slice A0_5 l0_5.length c0_5) := (blk_cell BK117.out 5).trans rfl; have hcz25_6 : w24.cell? ⟨gb117, 6, none⟩ = some (.int .i64 a0_6) := (blk_cell BK117.out 6).trans rfl; have hcz25_7 : w24.cell? ⟨gb117, 7, none⟩ = some (.int .i64 a0_7) := (blk_cell BK117.out 7).trans rfl; have hfz25_0 := blk_frozen BK117.out 0; have hfz25_1 := blk_frozen BK117.out 1; have hfz25_2 := blk_frozen BK117.out 2; have hfz25_3 := blk_frozen BK117.out 3; have hfz25_4 := blk_frozen BK117.out 4; have hfz25_5 := blk_frozen BK117.out 5; have hfz25_6 := blk_frozen BK117.out 6; have hfz25_7 := blk_frozen BK117.out 7))
            go_ret
            exact ⟨by first | rfl | (simp [errW_none, errW_some] <;> rfl) | (simp [*, errW_none, errW_some] <;> rfl), by repeat (first | (with_reducible first | exact HB.out | apply below_alloc | apply pw_below_drewN | apply below_drew1 | refine below_set ?_ GE117.out) | exact HB.out)⟩
        · replace c18 := Bool.eq_false_iff.mpr c18
          subst c18
          have H1 : (some false) = some r := by rw [if_neg (show ¬ (false = true) by decide)] at H; exact H
          clear H
          have H := H1
          clear H1
          obtain rfl := Option.some.inj H
          have hcz26_0 : wr.cell? ⟨gb117, 0, none⟩ = some (.int .i64 a0_0) := (blk_cell BK117.out 0).trans rfl
          have hcz26_1 : wr.cell? ⟨gb117, 1, none⟩ = some (.string a0_1) := (blk_cell BK117.out 1).trans rfl
          have hcz26_2 : wr.cell? ⟨gb117, 2, none⟩ = some (.bool a0_2) := (blk_cell BK117.out 2).trans rfl
          have hcz26_3 : wr.cell? ⟨gb117, 3, none⟩ = some (.string a0_3) := (blk_cell BK117.out 3).trans rfl
          have hcz26_4 : wr.cell? ⟨gb117, 4, none⟩ = some (.int .i64 a0_4) := (blk_cell BK117.out 4).trans rfl
          have hcz26_5 : wr.cell? ⟨gb117, 5, none⟩ = some (.slice A0_5 l0_5.length c0_5) := (blk_cell BK117.out 5).trans rfl
          have hcz26_6 : wr.cell? ⟨gb117, 6, none⟩ = some (.int .i64 a0_6) := (blk_cell BK117.out 6).trans rfl
          have hcz26_7 : wr.cell? ⟨gb117, 7, none⟩ = some (.int .i64 a0_7) := (blk_cell BK117.out 7).trans rfl
          have hfz26_0 := blk_frozen BK117.out 0
          have hfz26_1 := blk_frozen BK117.out 1
          have hfz26_2 := blk_frozen BK117.out 2
          have hfz26_3 := blk_frozen BK117.out 3
          have hfz26_4 := blk_frozen BK117.out 4
          have hfz26_5 := blk_frozen BK117.out 5
          have hfz26_6 := blk_frozen BK117.out 6
          have hfz26_7 := blk_frozen BK117.out 7
          go_wp2_with (first | ((with_reducible refine gate_callee (f := 7) rfl ?_); refine goesL_ (some 19) rfl rfl Tryz.func7 (by kernel_rfl) rfl #[.agg #[.bool a0_2, .string a0_3, .int .i64 a0_4]] rfl (by (try simp only [List.map_toArray, List.map_cons, List.map_nil]); first | done | rfl | (simp only [List.length_drop, List.length_take]; rfl)) ?_; (with_reducible refine (polyglotlaw02_Right.calls k1 a0_2 a0_3 a0_4 false _ A17.out).mono ?_); rintro e w27 ⟨rfl, hb⟩; refine ⟨_, rfl, ?_⟩; have n0_ := Aside0.mk (blk_below (g := gb117) (o := .cells #[.int .i64 a0_0, .string a0_1, .bool a0_2, .string a0_3, .int .i64 a0_4, .slice A0_5 l0_5.length c0_5, .int .i64 a0_6, .int .i64 a0_7] 42 (0, 0)) (by (with_reducible repeat (first | refine blk_drewN ?_ _ | refine blk_drew ?_ | refine blk_alloc ?_ _)); exact BK117.out) hb); have n1_ := Aside0.mk (below_step (by repeat (first | (with_reducible first | exact HB.out | apply below_alloc | apply pw_below_drewN | apply below_drew1 | refine below_set ?_ GE117.out) | exact HB.out)) hb); clear BK117; clear HB; have BK117 := n0_; have HB := n1_; clear n0_ n1_; (try clear hb); (try clear hb2); (try clear hk); (try clear hi)))
          go_ret
          exact ⟨by first | rfl | (simp [errW_none, errW_some] <;> rfl) | (simp [*, errW_none, errW_some] <;> rfl), by repeat (first | (with_reducible first | exact HB.out | apply below_alloc | apply pw_below_drewN | apply below_drew1 | refine below_set ?_ GE117.out) | exact HB.out)⟩
end Go.Proofs.YtgjboghnnhcgiaaGreatDoor.Z
namespace Go.Proofs.YtgjboghnnhcgiaaGreatDoor
open Go.RowKit
set_option linter.unusedVariables false
set_option linter.unusedSimpArgs false
set_option maxRecDepth 100000 in
set_option maxHeartbeats 4000000 in
theorem make_num (kd : Int) (tx : ByteArray) (n : Bool) (D : ByteArray) (k : Int) (A : Option Addr) (ln c : Nat) (se st : Int) (hk : Go.bits .and .i64 kd 3 = 1) (mi mf xf : Int) (pl rk : Bool) (w : World)
    (cO : ∀ W, Below w.heap.size w W → Calls Tryz.prog 19 #[.slice A ln c] W fun e w' => e = .returned (optV mi mf xf pl rk) ∧ Below W.heap.size W w') :
    Calls Tryz.prog 17 #[.agg #[.int .i64 kd, .string tx, .bool n, .string D, .int .i64 k, .slice A ln c, .int .i64 se, .int .i64 st]] w fun e w' => e = .returned (.agg (valC 1 ⟨#[]⟩ n D k mi mf xf pl rk 0 0)) ∧ Below w.heap.size w w' := by
  have h0 := Own.two w (.cells #[.int .i64 kd, .string tx, .bool n, .string D, .int .i64 k, .slice A ln c, .int .i64 se, .int .i64 st] 42) (.cells #[.int .i64 (0), .string ⟨#[]⟩, .bool false, .string ⟨#[]⟩, .int .i64 (0), .int .i64 (0), .int .i64 (0), .int .i64 (0), .bool false, .bool false, .int .i64 (0), .int .i64 (0)] 31)
  have cN := num14_any n D k
  unfold valC decV optV at *
  go_enter Tryz.func17, Tryz.ntmps17
  go_upto_region 1 with (fail)
  generalize World.alloc (World.alloc w _) _ = W0 at *
  have p0 := h0.c 1 0 rfl rfl
  have p2 := h0.c 1 2 rfl rfl
  have p3 := h0.c 1 3 rfl rfl
  have p4 := h0.c 1 4 rfl rfl
  go_upto_region 4 with (go_at_call 8; refine (cN _).mono ?_; rintro e W3 ⟨rfl, b3⟩; have h3 := h0.step b3)
  have h4 := h3.alloc (.cells #[.int .i64 (1), .string ⟨#[]⟩, .bool n, .string D, .int .i64 (k), .int .i64 (1), .int .i64 (0), .int .i64 (3), .bool false, .bool false, .int .i64 (0), .int .i64 (0)] 31)
  clear h0 h3 b3 cN p0 p2 p3 p4
  generalize W3.alloc _ = W4 at *
  generalize W3.heap.size = g at *
  have p5 := h4.c 2 5 rfl rfl
  have r5 := h4.c 0 5 rfl rfl
  have f5 := h4.fz 0 5 rfl
  have r6 := h4.c 0 6 rfl rfl
  have f6 := h4.fz 0 6 rfl
  have r7 := h4.c 0 7 rfl rfl
  have f7 := h4.fz 0 7 rfl
  have r8 := h4.c 0 8 rfl rfl
  have f8 := h4.fz 0 8 rfl
  have r9 := h4.c 0 9 rfl rfl
  have f9 := h4.fz 0 9 rfl
  go_upto_region 5 with (go_at_call 19; refine (cO _ h4.bel).mono ?_; rintro e W5 ⟨rfl, b5⟩; have h5 := h4.step b5; have s5 := h5.c 0 5 rfl rfl; have g5 := h5.fz 0 5 rfl; have s6 := h5.c 0 6 rfl rfl; have g6 := h5.fz 0 6 rfl; have s7 := h5.c 0 7 rfl rfl; have g7 := h5.fz 0 7 rfl; have s8 := h5.c 0 8 rfl rfl; have g8 := h5.fz 0 8 rfl; have s9 := h5.c 0 9 rfl rfl; have g9 := h5.fz 0 9 rfl)
  have h6 : Own w [(g, .cells #[.int .i64 (1), .string ⟨#[]⟩, .bool n, .string D, .int .i64 (k), .int .i64 (mi), .int .i64 (mf), .int .i64 (xf), .bool pl, .bool rk, .int .i64 (0), .int .i64 (0)] 31 (0, 0)), (w.heap.size + 1, .cells #[.int .i64 (0), .string ⟨#[]⟩, .bool false, .string ⟨#[]⟩, .int .i64 (0), .int .i64 (0), .int .i64 (0), .int .i64 (0), .bool false, .bool false, .int .i64 (0), .int .i64 (0)] 31 (0, 0)), (w.heap.size, .cells #[.int .i64 kd, .string tx, .bool n, .string D, .int .i64 k, .slice A ln c, .int .i64 se, .int .i64 st] 42 (0, 0))] (((((W5.setCell ⟨g, 5, none⟩ (.int .i64 mi)).setCell ⟨g, 6, none⟩ (.int .i64 mf)).setCell ⟨g, 7, none⟩ (.int .i64 xf)).setCell ⟨g, 8, none⟩ (.bool pl)).setCell ⟨g, 9, none⟩ (.bool rk)) := ((((h5.set 0 5 (.int .i64 mi) rfl).set 0 6 (.int .i64 mf) rfl).set 0 7 (.int .i64 xf) rfl).set 0 8 (.bool pl) rfl).set 0 9 (.bool rk) rfl
  clear h4 h5 b5 cO p5 r5 f5 s5 g5 r6 f6 s6 g6 r7 f7 s7 g7 r8 f8 s8 g8 r9 f9 s9 g9
  generalize (((((W5.setCell ⟨g, 5, none⟩ (.int .i64 mi)).setCell ⟨g, 6, none⟩ (.int .i64 mf)).setCell ⟨g, 7, none⟩ (.int .i64 xf)).setCell ⟨g, 8, none⟩ (.bool pl)).setCell ⟨g, 9, none⟩ (.bool rk)) = W7 at *
  have p0 := h6.c 0 0 rfl rfl
  have p1 := h6.c 0 1 rfl rfl
  have p2 := h6.c 0 2 rfl rfl
  have p3 := h6.c 0 3 rfl rfl
  have p4 := h6.c 0 4 rfl rfl
  have p5 := h6.c 0 5 rfl rfl
  have p6 := h6.c 0 6 rfl rfl
  have p7 := h6.c 0 7 rfl rfl
  have p8 := h6.c 0 8 rfl rfl
  have p9 := h6.c 0 9 rfl rfl
  have p10 := h6.c 0 10 rfl rfl
  have p11 := h6.c 0 11 rfl rfl
  have r0 := h6.c 1 0 rfl rfl
  have r1 := h6.c 1 1 rfl rfl
  have r2 := h6.c 1 2 rfl rfl
  have r3 := h6.c 1 3 rfl rfl
  have r4 := h6.c 1 4 rfl rfl
  have r5 := h6.c 1 5 rfl rfl
  have r6 := h6.c 1 6 rfl rfl
  have r7 := h6.c 1 7 rfl rfl
  have r8 := h6.c 1 8 rfl rfl
  have r9 := h6.c 1 9 rfl rfl
  have r10 := h6.c 1 10 rfl rfl
  have r11 := h6.c 1 11 rfl rfl
  have f0 := h6.fz 1 0 rfl
  have f1 := h6.fz 1 1 rfl
  have f2 := h6.fz 1 2 rfl
  have f3 := h6.fz 1 3 rfl
  have f4 := h6.fz 1 4 rfl
  have f5 := h6.fz 1 5 rfl
  have f6 := h6.fz 1 6 rfl
  have f7 := h6.fz 1 7 rfl
  have f8 := h6.fz 1 8 rfl
  have f9 := h6.fz 1 9 rfl
  have f10 := h6.fz 1 10 rfl
  have f11 := h6.fz 1 11 rfl
  have h7 : Own w [(g, .cells #[.int .i64 (1), .string ⟨#[]⟩, .bool n, .string D, .int .i64 (k), .int .i64 (mi), .int .i64 (mf), .int .i64 (xf), .bool pl, .bool rk, .int .i64 (0), .int .i64 (0)] 31 (0, 0)), (w.heap.size + 1, .cells #[.int .i64 (1), .string ⟨#[]⟩, .bool n, .string D, .int .i64 (k), .int .i64 (mi), .int .i64 (mf), .int .i64 (xf), .bool pl, .bool rk, .int .i64 (0), .int .i64 (0)] 31 (0, 0)), (w.heap.size, .cells #[.int .i64 kd, .string tx, .bool n, .string D, .int .i64 k, .slice A ln c, .int .i64 se, .int .i64 st] 42 (0, 0))] ((((((((((((W7.setCell ⟨w.heap.size + 1, 0, none⟩ (.int .i64 (1))).setCell ⟨w.heap.size + 1, 1, none⟩ (.string ⟨#[]⟩)).setCell ⟨w.heap.size + 1, 2, none⟩ (.bool n)).setCell ⟨w.heap.size + 1, 3, none⟩ (.string D)).setCell ⟨w.heap.size + 1, 4, none⟩ (.int .i64 (k))).setCell ⟨w.heap.size + 1, 5, none⟩ (.int .i64 (mi))).setCell ⟨w.heap.size + 1, 6, none⟩ (.int .i64 (mf))).setCell ⟨w.heap.size + 1, 7, none⟩ (.int .i64 (xf))).setCell ⟨w.heap.size + 1, 8, none⟩ (.bool pl)).setCell ⟨w.heap.size + 1, 9, none⟩ (.bool rk)).setCell ⟨w.heap.size + 1, 10, none⟩ (.int .i64 (0))).setCell ⟨w.heap.size + 1, 11, none⟩ (.int .i64 (0))) := Own.setAll h6 1 [.int .i64 (1), .string ⟨#[]⟩, .bool n, .string D, .int .i64 (k), .int .i64 (mi), .int .i64 (mf), .int .i64 (xf), .bool pl, .bool rk, .int .i64 (0), .int .i64 (0)] rfl rfl
  have bel := h7.bel
  have q0 := h7.c 1 0 rfl rfl
  have q1 := h7.c 1 1 rfl rfl
  have q2 := h7.c 1 2 rfl rfl
  have q3 := h7.c 1 3 rfl rfl
  have q4 := h7.c 1 4 rfl rfl
  have q5 := h7.c 1 5 rfl rfl
  have q6 := h7.c 1 6 rfl rfl
  have q7 := h7.c 1 7 rfl rfl
  have q8 := h7.c 1 8 rfl rfl
  have q9 := h7.c 1 9 rfl rfl
  have q10 := h7.c 1 10 rfl rfl
  have q11 := h7.c 1 11 rfl rfl
  clear h6 h7
  go_wp2
  refine bodyPost_ret (v := .agg #[.int .i64 (1), .string ⟨#[]⟩, .bool n, .string D, .int .i64 (k), .int .i64 (mi), .int .i64 (mf), .int .i64 (xf), .bool pl, .bool rk, .int .i64 (0), .int .i64 (0)]) (by simp [results, Tryz.results17, go_sem, q0, q1, q2, q3, q4, q5, q6, q7, q8, q9, q10, q11]) rfl ?_
  exact ⟨rfl, bel⟩
end Go.Proofs.YtgjboghnnhcgiaaGreatDoor
namespace Go.Proofs.YtgjboghnnhcgiaaGreatDoor.Z
open Go.RowKit Go.Proofs.YtgjboghnnhcgiaaGreatDoor Go.Proofs.YtgjboghnnhcgiaaGreatDoor.GV Go.Proofs.YtgjboghnnhcgiaaGreatDoorW.PrintWords
set_option linter.unusedVariables false
set_option linter.unusedSimpArgs false
def polyglotlaw14_Make_Value.f (k : Nat) (a0_0 : Int) (a0_1 : ByteArray) (a0_2 : Bool) (a0_3 : ByteArray) (a0_4 : Int) (l0_5 : List S78) (a0_6 a0_7 : Int) : Option (Int × ByteArray × Bool × ByteArray × Int × Int × Int × Int × Bool × Bool × Int × Int) :=
  if Go.bits .and .i64 a0_0 3 = 1 then (polyglotlaw12_Opts.f k l0_5).bind fun o => some (1, ⟨#[]⟩, a0_2, a0_3, a0_4, o.1, o.2.1, o.2.2.1, o.2.2.2.1, o.2.2.2.2, 0, 0) else none
theorem polyglotlaw14_Make_Value.mono : ∀ a0 a1 a2 a3 a4 a5 a6 a7 k, LeO (polyglotlaw14_Make_Value.f k a0 a1 a2 a3 a4 a5 a6 a7) (polyglotlaw14_Make_Value.f (k + 1) a0 a1 a2 a3 a4 a5 a6 a7) := by
  intro a0 a1 a2 a3 a4 a5 a6 a7 k r h
  unfold polyglotlaw14_Make_Value.f at h ⊢
  by_cases c : Go.bits .and .i64 a0 3 = 1
  · rw [if_pos c] at h ⊢
    cases ho : polyglotlaw12_Opts.f k a5 with
    | none => rw [ho] at h; cases h
    | some o => rw [polyglotlaw12_Opts.mono a5 k o ho]; rw [ho] at h; exact h
  · rw [if_neg c] at h; cases h
theorem polyglotlaw14_Make_Value.calls (k : Nat) (a0_0 : Int) (a0_1 : ByteArray) (a0_2 : Bool) (a0_3 : ByteArray) (a0_4 : Int) (A0_5 : Option Addr) (c0_5 : Nat) (l0_5 : List S78) (a0_6 a0_7 : Int)
    (r1 : Int) (r2 : ByteArray) (r3 : Bool) (r4 : ByteArray) (r5 r6 r7 r8 : Int) (r9 r10 : Bool) (r11 r12 : Int) (w : World) (hr0_5 : Kd.C k78 w A0_5 l0_5.length l0_5) (hc0_5 : l0_5.length ≤ c0_5)
    (h : polyglotlaw14_Make_Value.f k a0_0 a0_1 a0_2 a0_3 a0_4 l0_5 a0_6 a0_7 = some (r1, r2, r3, r4, r5, r6, r7, r8, r9, r10, r11, r12)) :
    Calls Tryz.prog 17 #[.agg #[.int .i64 a0_0, .string a0_1, .bool a0_2, .string a0_3, .int .i64 a0_4, .slice A0_5 l0_5.length c0_5, .int .i64 a0_6, .int .i64 a0_7]] w fun e w' =>
      e = .returned (.agg #[.int .i64 r1, .string r2, .bool r3, .string r4, .int .i64 r5, .int .i64 r6, .int .i64 r7, .int .i64 r8, .bool r9, .bool r10, .int .i64 r11, .int .i64 r12]) ∧ Below w.heap.size w w' := by
  unfold polyglotlaw14_Make_Value.f at h
  by_cases c : Go.bits .and .i64 a0_0 3 = 1
  · rw [if_pos c] at h
    cases ho : polyglotlaw12_Opts.f k l0_5 with
    | none => rw [ho] at h; cases h
    | some o =>
      obtain ⟨o1, o2, o3, o4, o5⟩ := o
      rw [ho, Option.bind_some] at h
      have h := Option.some.inj h
      simp only [Prod.mk.injEq] at h
      obtain ⟨rfl, rfl, rfl, rfl, rfl, rfl, rfl, rfl, rfl, rfl, rfl, rfl⟩ := h
      exact make_num a0_0 a0_1 a0_2 a0_3 a0_4 A0_5 l0_5.length c0_5 a0_6 a0_7 c o1 o2 o3 o4 o5 w (fun W hW => polyglotlaw12_Opts.calls k A0_5 c0_5 l0_5 o1 o2 o3 o4 o5 W (Kd.C_below hr0_5 hW) hc0_5 ho)
  · rw [if_neg c] at h; cases h
end Go.Proofs.YtgjboghnnhcgiaaGreatDoor.Z
namespace Go.Proofs.YtgjboghnnhcgiaaGreatDoor.Z
open Go.RowKit Go.Proofs.YtgjboghnnhcgiaaGreatDoor.GV Go.Proofs.YtgjboghnnhcgiaaGreatDoor.U Go.Proofs.YtgjboghnnhcgiaaGreatDoorW.PrintWords Go.Proofs.YtgjboghnnhcgiaaGreatDoorW.PrintLast Go.Proofs.YtgjboghnnhcgiaaGreatDoorW.PrintMore
attribute [local go_sem] max2_int min2_int max_two min_two max_three min_three max_four min_four
set_option linter.unusedVariables false
set_option linter.unusedSimpArgs false
def polyglotlaw14_ValueOnes.l0 : Nat → ByteArray → Int → List ByteArray → Int → Int → Int → ByteArray → Bool → ByteArray → Int → List (S78) → Int → Int → Option (Bool)
  | 0, _, _, _, _, _, _, _, _, _, _, _, _, _ => none
  | k + 1, x1, x5, x14, x15, x16, x123000, x123001, x123002, x123003, x123004, x123005, x123006, x123007 => if x16 < x15 then (if 0 ≤ x16 then (if x16 < (x14.length : Int) then ((polyglotlaw14_Make_Value.f k x123000 x123001 x123002 x123003 x123004 x123005 x123006 x123007).bind fun bt142 => ((value_Value_Is.f k bt142.1 bt142.2.1 bt142.2.2.1 bt142.2.2.2.1 bt142.2.2.2.2.1 bt142.2.2.2.2.2.1 bt142.2.2.2.2.2.2.1 bt142.2.2.2.2.2.2.2.1 bt142.2.2.2.2.2.2.2.2.1 bt142.2.2.2.2.2.2.2.2.2.1 bt142.2.2.2.2.2.2.2.2.2.2.1 bt142.2.2.2.2.2.2.2.2.2.2.2 (rdOf ByteArray.empty x14 x16) x1).bind fun t154 => (if t154 = true then (polyglotlaw14_ValueOnes.l0 k x1 (wrap64 (x5 + 1)) x14 x15 (wrap64 (x16 + 1)) x123000 x123001 x123002 x123003 x123004 x123005 x123006 x123007) else (polyglotlaw14_ValueOnes.l0 k x1 x5 x14 x15 (wrap64 (x16 + 1)) x123000 x123001 x123002 x123003 x123004 x123005 x123006 x123007)))) else (none)) else (none)) else (if x5 = 1 then ((polyglotlaw14_Make_Value.f k x123000 x123001 x123002 x123003 x123004 x123005 x123006 x123007).bind fun bt128 => ((value_Value_Is.f k bt128.1 bt128.2.1 bt128.2.2.1 bt128.2.2.2.1 bt128.2.2.2.2.1 bt128.2.2.2.2.2.1 bt128.2.2.2.2.2.2.1 bt128.2.2.2.2.2.2.2.1 bt128.2.2.2.2.2.2.2.2.1 bt128.2.2.2.2.2.2.2.2.2.1 bt128.2.2.2.2.2.2.2.2.2.2.1 bt128.2.2.2.2.2.2.2.2.2.2.2 (⟨#[]⟩ : ByteArray) x1).bind fun t140 => (some (!t140)))) else (some false))
def polyglotlaw14_ValueOnes.f (k : Nat) (a0_0 : Int) (a0_1 : ByteArray) (a0_2 : Bool) (a0_3 : ByteArray) (a0_4 : Int) (l0_5 : List (S78)) (a0_6 : Int) (a0_7 : Int) (a1 : ByteArray) : Option (Bool) := (polyglotlaw14_head.f).bind fun t123 => (if t123 = true then ((polyglotlaw14_Make_Right.f k a0_0 a0_1 a0_2 a0_3 a0_4 l0_5 a0_6 a0_7).bind fun t124 => (if t124 = true then ((some (([(⟨#[122, 101, 114, 111]⟩ : ByteArray), (⟨#[111, 110, 101]⟩ : ByteArray), (⟨#[116, 119, 111]⟩ : ByteArray), (⟨#[102, 101, 119]⟩ : ByteArray), (⟨#[109, 97, 110, 121]⟩ : ByteArray), (⟨#[111, 116, 104, 101, 114]⟩ : ByteArray)] : List ByteArray) : List ByteArray)).bind fun y125 => (polyglotlaw14_ValueOnes.l0 k a1 0 y125 (y125.length : Int) 0 1 a0_1 a0_2 a0_3 a0_4 l0_5 a0_6 a0_7)) else (some true))) else (some false))
theorem polyglotlaw14_ValueOnes.mono_l : ∀ k, (∀ y0 y1 y2 y3 y4 y5 y6 y7 y8 y9 y10 y11 y12, LeO (polyglotlaw14_ValueOnes.l0 k y0 y1 y2 y3 y4 y5 y6 y7 y8 y9 y10 y11 y12) (polyglotlaw14_ValueOnes.l0 (k + 1) y0 y1 y2 y3 y4 y5 y6 y7 y8 y9 y10 y11 y12))
  | 0 => fun _ _ _ _ _ _ _ _ _ _ _ _ _ r h => by simp [polyglotlaw14_ValueOnes.l0] at h
  | k + 1 => by
    have ih0 := polyglotlaw14_ValueOnes.mono_l k
    · intro y0 y1 y2 y3 y4 y5 y6 y7 y8 y9 y10 y11 y12
      unfold polyglotlaw14_ValueOnes.l0
      repeat' first
      | (with_reducible exact ih0 _ _ _ _ _ _ _ _ _ _ _ _ _)
      | (with_reducible exact polyglotlaw14_Make_Right.mono _ _ _ _ _ _ _ _ _)
      | (with_reducible exact polyglotlaw14_Make_Value.mono _ _ _ _ _ _ _ _ _)
      | (with_reducible exact value_Value_Is.mono _ _ _ _ _ _ _ _ _ _ _ _ _ _ _)
      | (with_reducible exact LeO.refl _)
      | (with_reducible exact LeO.none _)
      | (with_reducible refine LeO.ite ?_ ?_)
      | (with_reducible refine LeO.bind ?_ (fun _ => ?_))
      | exact ih0 _ _ _ _ _ _ _ _ _ _ _ _ _
      | exact polyglotlaw14_Make_Right.mono _ _ _ _ _ _ _ _ _
      | exact polyglotlaw14_Make_Value.mono _ _ _ _ _ _ _ _ _
      | exact value_Value_Is.mono _ _ _ _ _ _ _ _ _ _ _ _ _ _ _
      | exact LeO.none _
      | refine LeO.ite ?_ ?_
      | refine LeO.bind ?_ (fun _ => ?_)
set_option maxHeartbeats 8000000 in
set_option maxRecDepth 100000 in
theorem polyglotlaw14_ValueOnes.calls (k : Nat) (a0_0 : Int) (a0_1 : ByteArray) (a0_2 : Bool) (a0_3 : ByteArray) (a0_4 : Int) (A0_5 : Option Addr) (c0_5 : Nat) (l0_5 : List (S78)) (a0_6 : Int) (a0_7 : Int) (a1 : ByteArray) (r : Bool) (w : World) (hr0_5 : Kd.C k78 w A0_5 l0_5.length l0_5) (hc0_5 : l0_5.length ≤ c0_5) (h : polyglotlaw14_ValueOnes.f k a0_0 a0_1 a0_2 a0_3 a0_4 l0_5 a0_6 a0_7 a1 = some r) (HT0_ : Tab_ w := by exact Tab_.step HT0_ (by repeat (first | (with_reducible first | exact HB.out | apply below_alloc | apply pw_below_drewN | apply below_drew1 | refine below_set ?_ (Aside0.out (by assumption))) | exact HB.out))) :
    Calls Tryz.prog 5 #[.agg #[.int .i64 a0_0, .string a0_1, .bool a0_2, .string a0_3, .int .i64 a0_4, .slice A0_5 l0_5.length c0_5, .int .i64 a0_6, .int .i64 a0_7], .string a1] w fun e w' => e = .returned (.bool r) ∧ Below w.heap.size w w' := by
  have hu42 := Tryz.underlying42
  have HR0_5 := Aside0.mk hr0_5
  have HC0_5 := Aside0.mk hc0_5
  clear hr0_5 hc0_5
  have HB := Aside0.mk (Below.refl w.heap.size w)
  have H : ((polyglotlaw14_head.f).bind fun t123 => (if t123 = true then ((polyglotlaw14_Make_Right.f k a0_0 a0_1 a0_2 a0_3 a0_4 l0_5 a0_6 a0_7).bind fun t124 => (if t124 = true then ((some (([(⟨#[122, 101, 114, 111]⟩ : ByteArray), (⟨#[111, 110, 101]⟩ : ByteArray), (⟨#[116, 119, 111]⟩ : ByteArray), (⟨#[102, 101, 119]⟩ : ByteArray), (⟨#[109, 97, 110, 121]⟩ : ByteArray), (⟨#[111, 116, 104, 101, 114]⟩ : ByteArray)] : List ByteArray) : List ByteArray)).bind fun y125 => (polyglotlaw14_ValueOnes.l0 k a1 0 y125 (y125.length : Int) 0 1 a0_1 a0_2 a0_3 a0_4 l0_5 a0_6 a0_7)) else (some true))) else (some false))) = some r := h
  clear h
  replace H := Option.bind_eq_some_iff.mp H
  obtain ⟨t123, A30, H⟩ := H
  replace H : (if t123 = true then ((polyglotlaw14_Make_Right.f k a0_0 a0_1 a0_2 a0_3 a0_4 l0_5 a0_6 a0_7).bind fun t124 => (if t124 = true then ((some (([(⟨#[122, 101, 114, 111]⟩ : ByteArray), (⟨#[111, 110, 101]⟩ : ByteArray), (⟨#[116, 119, 111]⟩ : ByteArray), (⟨#[102, 101, 119]⟩ : ByteArray), (⟨#[109, 97, 110, 121]⟩ : ByteArray), (⟨#[111, 116, 104, 101, 114]⟩ : ByteArray)] : List ByteArray) : List ByteArray)).bind fun y125 => (polyglotlaw14_ValueOnes.l0 k a1 0 y125 (y125.length : Int) 0 1 a0_1 a0_2 a0_3 a0_4 l0_5 a0_6 a0_7)) else (some true))) else (some false)) = some r := H
  have A3 := Aside0.mk A30
  clear A30
  by_cases c4 : t123 = true
  · subst c4
    have H1 : ((polyglotlaw14_Make_Right.f k a0_0 a0_1 a0_2 a0_3 a0_4 l0_5 a0_6 a0_7).bind fun t124 => (if t124 = true then ((some (([(⟨#[122, 101, 114, 111]⟩ : ByteArray), (⟨#[111, 110, 101]⟩ : ByteArray), (⟨#[116, 119, 111]⟩ : ByteArray), (⟨#[102, 101, 119]⟩ : ByteArray), (⟨#[109, 97, 110, 121]⟩ : ByteArray), (⟨#[111, 116, 104, 101, 114]⟩ : ByteArray)] : List ByteArray) : List ByteArray)).bind fun y125 => (polyglotlaw14_ValueOnes.l0 k a1 0 y125 (y125.length : Int) 0 1 a0_1 a0_2 a0_3 a0_4 l0_5 a0_6 a0_7)) else (some true))) = some r := by rw [if_pos rfl] at H; exact H
    clear H
    have H := H1
    clear H1
    replace H := Option.bind_eq_some_iff.mp H
    obtain ⟨t124, A50, H⟩ := H
    replace H : (if t124 = true then ((some (([(⟨#[122, 101, 114, 111]⟩ : ByteArray), (⟨#[111, 110, 101]⟩ : ByteArray), (⟨#[116, 119, 111]⟩ : ByteArray), (⟨#[102, 101, 119]⟩ : ByteArray), (⟨#[109, 97, 110, 121]⟩ : ByteArray), (⟨#[111, 116, 104, 101, 114]⟩ : ByteArray)] : List ByteArray) : List ByteArray)).bind fun y125 => (polyglotlaw14_ValueOnes.l0 k a1 0 y125 (y125.length : Int) 0 1 a0_1 a0_2 a0_3 a0_4 l0_5 a0_6 a0_7)) else (some true)) = some r := H
    have A5 := Aside0.mk A50
    clear A50
    by_cases c6 : t124 = true
    · subst c6
      have H1 : ((some (([(⟨#[122, 101, 114, 111]⟩ : ByteArray), (⟨#[111, 110, 101]⟩ : ByteArray), (⟨#[116, 119, 111]⟩ : ByteArray), (⟨#[102, 101, 119]⟩ : ByteArray), (⟨#[109, 97, 110, 121]⟩ : ByteArray), (⟨#[111, 116, 104, 101, 114]⟩ : ByteArray)] : List ByteArray) : List ByteArray)).bind fun y125 => (polyglotlaw14_ValueOnes.l0 k a1 0 y125 (y125.length : Int) 0 1 a0_1 a0_2 a0_3 a0_4 l0_5 a0_6 a0_7)) = some r := by rw [if_pos rfl] at H; exact H
      clear H
      have H := H1
      clear H1
      obtain ⟨y125, hy125⟩ : ∃ y_ : List ByteArray, y_ = (([(⟨#[122, 101, 114, 111]⟩ : ByteArray), (⟨#[111, 110, 101]⟩ : ByteArray), (⟨#[116, 119, 111]⟩ : ByteArray), (⟨#[102, 101, 119]⟩ : ByteArray), (⟨#[109, 97, 110, 121]⟩ : ByteArray), (⟨#[111, 116, 104, 101, 114]⟩ : ByteArray)] : List ByteArray)) := ⟨_, rfl⟩
      replace H : (polyglotlaw14_ValueOnes.l0 k a1 0 y125 (y125.length : Int) 0 1 a0_1 a0_2 a0_3 a0_4 l0_5 a0_6 a0_7) = some r := by first | (rw [hy125]; with_reducible exact H) | (have H2_ := (Option.bind_some _ _).symm.trans H; rw [hy125]; with_reducible exact H2_) | (have H2_ := (Option.bind_some _ _).symm.trans H; with_reducible exact H2_) | with_reducible exact H | (rw [hy125]; exact H) | exact H
      have Ny125 := Aside0.mk hy125
      clear hy125
      have H' := Aside0.mk H
      clear H
      go_enter Tryz.func5, Tryz.ntmps5
      go_wp2_with (first | ((with_reducible refine gate_dst (N := 2) rfl ?_); refine box_event ?hg (N := 2) ?hd (cs := #[.int .i64 a0_0, .string a0_1, .bool a0_2, .string a0_3, .int .i64 a0_4, .slice A0_5 l0_5.length c0_5, .int .i64 a0_6, .int .i64 a0_7]) (t := 42) ?hr ?_; (case hd => rfl); (case hg => rfl); (case hr => first | (go_simp; done) | (go_simp; rfl)); intro gb122 hg w7 hbox hb; have n0_ := Aside0.mk (below_step (by repeat (first | (with_reducible first | exact HB.out | apply below_alloc | apply pw_below_drewN | apply below_drew1) | exact HB.out)) hb); have n1_ := Aside0.mk (hbox); have n2_ := Aside0.mk ((by rw [hg]; exact (below_size (by repeat (first | (with_reducible first | exact HB.out | apply below_alloc | apply pw_below_drewN | apply below_drew1) | exact HB.out))) : w.heap.size ≤ gb122)); have n3_ := Aside0.mk ((by rw [hg]; exact (below_size (by repeat (first | (with_reducible first | exact HB.out | apply below_alloc | apply pw_below_drewN | apply below_drew1) | exact HB.out))) : w.heap.size ≤ gb122)); clear HB; have HB := n0_; have BK122 := n1_; have GW122 := n2_; have GE122 := n3_; clear n0_ n1_ n2_ n3_; clear hb hbox hg) | ((with_reducible refine gate_callee (f := 6) rfl ?_); refine goesL_ (some 8) rfl rfl Tryz.func6 (by kernel_rfl) rfl #[] rfl (by (try simp only [List.map_toArray, List.map_cons, List.map_nil]); first | done | rfl | (simp only [List.length_drop, List.length_take]; rfl)) ?_; (with_reducible refine (polyglotlaw14_head.calls  true _ A3.out).mono ?_); rintro e w8 ⟨rfl, hb⟩; refine ⟨_, rfl, ?_⟩; have n0_ := Aside0.mk (blk_below (g := gb122) (o := .cells #[.int .i64 a0_0, .string a0_1, .bool a0_2, .string a0_3, .int .i64 a0_4, .slice A0_5 l0_5.length c0_5, .int .i64 a0_6, .int .i64 a0_7] 42 (0, 0)) (by (with_reducible repeat (first | refine blk_drewN ?_ _ | refine blk_drew ?_ | refine blk_alloc ?_ _)); exact BK122.out) hb); have n1_ := Aside0.mk (below_step (by repeat (first | (with_reducible first | exact HB.out | apply below_alloc | apply pw_below_drewN | apply below_drew1 | refine below_set ?_ GE122.out) | exact HB.out)) hb); clear BK122; clear HB; have BK122 := n0_; have HB := n1_; clear n0_ n1_; (try clear hb); (try clear hb2); (try clear hk); (try clear hi); have hcz9_0 : w8.cell? ⟨gb122, 0, none⟩ = some (.int .i64 a0_0) := (blk_cell BK122.out 0).trans rfl; have hcz9_1 : w8.cell? ⟨gb122, 1, none⟩ = some (.string a0_1) := (blk_cell BK122.out 1).trans rfl; have hcz9_2 : w8.cell? ⟨gb122, 2, none⟩ = some (.bool a0_2) := (blk_cell BK122.out 2).trans rfl; have hcz9_3 : w8.cell? ⟨gb122, 3, none⟩ = some (.string a0_3) := (blk_cell BK122.out 3).trans rfl; have hcz9_4 : w8.cell? ⟨gb122, 4, none⟩ = some (.int .i64 a0_4) := (blk_cell BK122.out 4).trans rfl; have hcz9_5 : w8.cell? ⟨gb122, 5, none⟩ = some (.slice A0_5 l0_5.length c0_5) := (blk_cell BK122.out 5).trans rfl; have hcz9_6 : w8.cell? ⟨gb122, 6, none⟩ = some (.int .i64 a0_6) := (blk_cell BK122.out 6).trans rfl; have hcz9_7 : w8.cell? ⟨gb122, 7, none⟩ = some (.int .i64 a0_7) := (blk_cell BK122.out 7).trans rfl; have hfz9_0 := blk_frozen BK122.out 0; have hfz9_1 := blk_frozen BK122.out 1; have hfz9_2 := blk_frozen BK122.out 2; have hfz9_3 := blk_frozen BK122.out 3; have hfz9_4 := blk_frozen BK122.out 4; have hfz9_5 := blk_frozen BK122.out 5; have hfz9_6 := blk_frozen BK122.out 6; have hfz9_7 := blk_frozen BK122.out 7) | ((with_reducible refine gate_callee (f := 16) rfl ?_); refine goesL_ (some 11) rfl rfl Tryz.func16 (by kernel_rfl) rfl #[.agg #[.int .i64 a0_0, .string a0_1, .bool a0_2, .string a0_3, .int .i64 a0_4, .slice A0_5 l0_5.length c0_5, .int .i64 a0_6, .int .i64 a0_7]] rfl (by (try simp only [List.map_toArray, List.map_cons, List.map_nil]); first | done | rfl | (simp only [List.length_drop, List.length_take]; rfl)) ?_; (with_reducible refine (polyglotlaw14_Make_Right.calls k a0_0 a0_1 a0_2 a0_3 a0_4 _ _ l0_5 a0_6 a0_7 true _ ?side1 ?side2 A5.out).mono ?_); (case side1 => repeat (first | exact (Kd.C_below HR0_5.out HB.out) | (with_reducible refine Kd.C_alloc ?_ _) | (with_reducible refine Kd.C_drewN ?_ _) | (with_reducible refine Kd.C_drew ?_))); (case side2 => exact HC0_5.out); rintro e w10 ⟨rfl, hb⟩; refine ⟨_, rfl, ?_⟩; have n0_ := Aside0.mk (blk_below (g := gb122) (o := .cells #[.int .i64 a0_0, .string a0_1, .bool a0_2, .string a0_3, .int .i64 a0_4, .slice A0_5 l0_5.length c0_5, .int .i64 a0_6, .int .i64 a0_7] 42 (0, 0)) (by (with_reducible repeat (first | refine blk_drewN ?_ _ | refine blk_drew ?_ | refine blk_alloc ?_ _)); exact BK122.out) hb); have n1_ := Aside0.mk (below_step (by repeat (first | (with_reducible first | exact HB.out | apply below_alloc | apply pw_below_drewN | apply below_drew1 | refine below_set ?_ GE122.out) | exact HB.out)) hb); clear BK122; clear HB; have BK122 := n0_; have HB := n1_; clear n0_ n1_; (try clear hb); (try clear hb2); (try clear hk); (try clear hi); have hcz11_0 : w10.cell? ⟨gb122, 0, none⟩ = some (.int .i64 a0_0) := (blk_cell BK122.out 0).trans rfl; have hcz11_1 : w10.cell? ⟨gb122, 1, none⟩ = some (.string a0_1) := (blk_cell BK122.out 1).trans rfl; have hcz11_2 : w10.cell? ⟨gb122, 2, none⟩ = some (.bool a0_2) := (blk_cell BK122.out 2).trans rfl; have hcz11_3 : w10.cell? ⟨gb122, 3, none⟩ = some (.string a0_3) := (blk_cell BK122.out 3).trans rfl; have hcz11_4 : w10.cell? ⟨gb122, 4, none⟩ = some (.int .i64 a0_4) := (blk_cell BK122.out 4).trans rfl; have hcz11_5 : w10.cell? ⟨gb122, 5, none⟩ = some (.slice A0_5 l0_5.length c0_5) := (blk_cell BK122.out 5).trans rfl; have hcz11_6 : w10.cell? ⟨gb122, 6, none⟩ = some (.int .i64 a0_6) := (blk_cell BK122.out 6).trans rfl; have hcz11_7 : w10.cell? ⟨gb122, 7, none⟩ = some (.int .i64 a0_7) := (blk_cell BK122.out 7).trans rfl; have hfz11_0 := blk_frozen BK122.out 0; have hfz11_1 := blk_frozen BK122.out 1; have hfz11_2 := blk_frozen BK122.out 2; have hfz11_3 := blk_frozen BK122.out 3; have hfz11_4 := blk_frozen BK122.out 4; have hfz11_5 := blk_frozen BK122.out 5; have hfz11_6 := blk_frozen BK122.out 6; have hfz11_7 := blk_frozen BK122.out 7) | ((with_reducible refine gate_dst (N := 14) rfl ?_); refine Kd.R_lit Kd.string _ 9 ?hg (N := 14) ?hd (xs := ([(⟨#[122, 101, 114, 111]⟩ : ByteArray), (⟨#[111, 110, 101]⟩ : ByteArray), (⟨#[116, 119, 111]⟩ : ByteArray), (⟨#[102, 101, 119]⟩ : ByteArray), (⟨#[109, 97, 110, 121]⟩ : ByteArray), (⟨#[111, 116, 104, 101, 114]⟩ : ByteArray)] : List ByteArray)) (inner := [.string (⟨#[122, 101, 114, 111]⟩ : ByteArray), .string (⟨#[111, 110, 101]⟩ : ByteArray), .string (⟨#[116, 119, 111]⟩ : ByteArray), .string (⟨#[102, 101, 119]⟩ : ByteArray), .string (⟨#[109, 97, 110, 121]⟩ : ByteArray), .string (⟨#[111, 116, 104, 101, 114]⟩ : ByteArray)]) (ok := fun _ => True) (okp := fun _ => True) ?hr ?hp (fun _ hk => hk) trivial (Below.refl _ _) (Nat.le_refl _) (by simp) ?_; (case hd => rfl); (case hg => rfl); (case hr => first | (go_simp; done) | (go_simp; rfl)); (case hp => exact (Reps.one (show Kd.M Kd.string _ _ _ (⟨#[122, 101, 114, 111]⟩ : ByteArray) [.string (⟨#[122, 101, 114, 111]⟩ : ByteArray)] from rfl) (Reps.one (show Kd.M Kd.string _ _ _ (⟨#[111, 110, 101]⟩ : ByteArray) [.string (⟨#[111, 110, 101]⟩ : ByteArray)] from rfl) (Reps.one (show Kd.M Kd.string _ _ _ (⟨#[116, 119, 111]⟩ : ByteArray) [.string (⟨#[116, 119, 111]⟩ : ByteArray)] from rfl) (Reps.one (show Kd.M Kd.string _ _ _ (⟨#[102, 101, 119]⟩ : ByteArray) [.string (⟨#[102, 101, 119]⟩ : ByteArray)] from rfl) (Reps.one (show Kd.M Kd.string _ _ _ (⟨#[109, 97, 110, 121]⟩ : ByteArray) [.string (⟨#[109, 97, 110, 121]⟩ : ByteArray)] from rfl) (Reps.one (show Kd.M Kd.string _ _ _ (⟨#[111, 116, 104, 101, 114]⟩ : ByteArray) [.string (⟨#[111, 116, 104, 101, 114]⟩ : ByteArray)] from rfl) (Reps.none _ _)))))))); intro v126 w12 ho13 hb hg_ hnew_; clear hg_ hnew_; (first | rw [← Ny125.out] at ho13 | (simp only [Int.reduceToNat] at ho13; rw [← Ny125.out] at ho13)); have n0_ := Aside0.mk (Kd.R_lower ho13 (below_size (by repeat (first | (with_reducible first | exact HB.out | apply below_alloc | apply pw_below_drewN | apply below_drew1 | refine below_set ?_ GE122.out) | exact HB.out)))); have n1_ := Aside0.mk (blk_below (g := gb122) (o := .cells #[.int .i64 1, .string a0_1, .bool a0_2, .string a0_3, .int .i64 a0_4, .slice A0_5 l0_5.length c0_5, .int .i64 a0_6, .int .i64 a0_7] 42 (0, 0)) (by (with_reducible repeat (first | refine blk_drewN ?_ _ | refine blk_drew ?_ | refine blk_alloc ?_ _)); refine blk_put (cs := #[.int .i64 a0_0, .string a0_1, .bool a0_2, .string a0_3, .int .i64 a0_4, .slice A0_5 l0_5.length c0_5, .int .i64 a0_6, .int .i64 a0_7]) ?_ 0 _ rfl; (with_reducible repeat (first | refine blk_drewN ?_ _ | refine blk_drew ?_ | refine blk_alloc ?_ _)); exact BK122.out) hb); have n2_ := Aside0.mk (below_step (by repeat (first | (with_reducible first | exact HB.out | apply below_alloc | apply pw_below_drewN | apply below_drew1 | refine below_set ?_ GE122.out) | exact HB.out)) hb); clear BK122; clear HB; have HO127 := n0_; have BK122 := n1_; have HB := n2_; clear n0_ n1_ n2_; clear hb ho13; obtain ⟨Ao14, co14, eo14⟩ := Kd.R_slice HO127.out; subst eo14))
      go_loopg [5, 16] k (fun kq v5 v16 w' => ∃ (x5_1 : Int) (x16_1 : Int), v5 = .int .i64 x5_1 ∧ v16 = .int .i64 x16_1 ∧ Aside0 (polyglotlaw14_ValueOnes.l0 kq a1 x5_1 y125 (y125.length : Int) x16_1 1 a0_1 a0_2 a0_3 a0_4 l0_5 a0_6 a0_7 = some r) ∧ Aside0 (kq ≤ k) ∧ Aside0 (Kd.R Kd.string 9 w' w.heap.size (fun _ => True) (.slice Ao14 y125.length co14) y125) ∧ Aside0 (w'.heap[gb122]? = some (.cells #[.int .i64 1, .string a0_1, .bool a0_2, .string a0_3, .int .i64 a0_4, (.slice A0_5 l0_5.length c0_5), .int .i64 a0_6, .int .i64 a0_7] 42 (0, 0))) ∧ Aside0 (Below w.heap.size w w'))
      case atStart => exact ⟨(0), (0), (by first | rfl | (simp; done) | (simp [*]; done)), (by first | rfl | (simp; done) | (simp [*]; done)), H', ⟨Nat.le_refl _⟩, ⟨by (with_reducible repeat (first | apply Kd.R_alloc | apply Kd.R_drewN | apply Kd.R_drew)); exact HO127.out⟩, ⟨by (with_reducible repeat (first | refine blk_drewN ?_ _ | refine blk_drew ?_ | refine blk_alloc ?_ _)); exact BK122.out⟩, ⟨by repeat (first | (with_reducible first | exact HB.out | apply below_alloc | apply pw_below_drewN | apply below_drew1 | refine below_set ?_ GE122.out) | exact HB.out)⟩⟩
      case round =>
        clear H'
        try clear c1
        try clear p2
        try clear c4
        try clear c5
        try clear c6
        try clear hcz11_0
        try clear hcz11_1
        try clear hcz11_2
        try clear hcz11_3
        try clear hcz11_4
        try clear hcz11_5
        try clear hcz11_6
        try clear hcz11_7
        try clear hcz9_0
        try clear hcz9_1
        try clear hcz9_2
        try clear hcz9_3
        try clear hcz9_4
        try clear hcz9_5
        try clear hcz9_6
        try clear hcz9_7
        try clear hfz11_0
        try clear hfz11_1
        try clear hfz11_2
        try clear hfz11_3
        try clear hfz11_4
        try clear hfz11_5
        try clear hfz11_6
        try clear hfz11_7
        try clear hfz9_0
        try clear hfz9_1
        try clear hfz9_2
        try clear hfz9_3
        try clear hfz9_4
        try clear hfz9_5
        try clear hfz9_6
        try clear hfz9_7
        obtain ⟨x5_1, x16_1, rfl, rfl, HA, HK1, HO_14, BK122, HB⟩ := hrel
        cases gk with
        | zero => exact absurd HA.out (by simp [polyglotlaw14_ValueOnes.l0])
        | succ k1 =>
          have H := HA.out
          clear HA
          simp only [polyglotlaw14_ValueOnes.l0] at H
          by_cases c15 : x16_1 < (y125.length : Int)
          · rw [if_pos c15] at H
            have c15b0 : decide (x16_1 < (y125.length : Int)) = true := decide_eq_true c15
            clear c15
            by_cases c16 : 0 ≤ x16_1
            · rw [if_pos c16] at H
              have c16b0 : decide (0 ≤ x16_1) = true := decide_eq_true c16
              clear c16
              by_cases c17 : x16_1 < (y125.length : Int)
              · rw [if_pos c17] at H
                have c17b0 : decide (x16_1 < (y125.length : Int)) = true := decide_eq_true c17
                clear c17
                replace H := Option.bind_eq_some_iff.mp H
                obtain ⟨⟨t142, t143, t144, t145, t146, t147, t148, t149, t150, t151, t152, t153⟩, A180, H⟩ := H
                replace H : ((value_Value_Is.f k1 t142 t143 t144 t145 t146 t147 t148 t149 t150 t151 t152 t153 (rdOf ByteArray.empty y125 x16_1) a1).bind fun t154 => (if t154 = true then (polyglotlaw14_ValueOnes.l0 k1 a1 (wrap64 (x5_1 + 1)) y125 (y125.length : Int) (wrap64 (x16_1 + 1)) 1 a0_1 a0_2 a0_3 a0_4 l0_5 a0_6 a0_7) else (polyglotlaw14_ValueOnes.l0 k1 a1 x5_1 y125 (y125.length : Int) (wrap64 (x16_1 + 1)) 1 a0_1 a0_2 a0_3 a0_4 l0_5 a0_6 a0_7))) = some r := H
                have A18 := Aside0.mk A180
                clear A180
                replace H := Option.bind_eq_some_iff.mp H
                obtain ⟨t154, A190, H⟩ := H
                replace H : (if t154 = true then (polyglotlaw14_ValueOnes.l0 k1 a1 (wrap64 (x5_1 + 1)) y125 (y125.length : Int) (wrap64 (x16_1 + 1)) 1 a0_1 a0_2 a0_3 a0_4 l0_5 a0_6 a0_7) else (polyglotlaw14_ValueOnes.l0 k1 a1 x5_1 y125 (y125.length : Int) (wrap64 (x16_1 + 1)) 1 a0_1 a0_2 a0_3 a0_4 l0_5 a0_6 a0_7)) = some r := H
                have A19 := Aside0.mk A190
                clear A190
                by_cases c20 : t154 = true
                · subst c20
                  have H1 : (polyglotlaw14_ValueOnes.l0 k1 a1 (wrap64 (x5_1 + 1)) y125 (y125.length : Int) (wrap64 (x16_1 + 1)) 1 a0_1 a0_2 a0_3 a0_4 l0_5 a0_6 a0_7) = some r := by rw [if_pos rfl] at H; exact H
                  clear H
                  have H := H1
                  clear H1
                  have H' := Aside0.mk H
                  clear H
                  have p141 : 0 ≤ (x16_1 : Int) := of_decide_eq_true (by first | (with_reducible assumption) | assumption)
                  have q141 : x16_1 < (y125.length : Int) := of_decide_eq_true (by first | (with_reducible assumption) | assumption)
                  obtain ⟨ad141, e141, hx141_0⟩ := Kd.at_string (Kd.R_reads' HO_14.out).2.2 x16_1 p141 q141
                  cases e141
                  replace p141 := eq_true p141
                  replace q141 := eq_true q141
                  have hcz21_0 : wr.cell? ⟨gb122, 0, none⟩ = some (.int .i64 1) := (blk_cell BK122.out 0).trans rfl
                  have hcz21_1 : wr.cell? ⟨gb122, 1, none⟩ = some (.string a0_1) := (blk_cell BK122.out 1).trans rfl
                  have hcz21_2 : wr.cell? ⟨gb122, 2, none⟩ = some (.bool a0_2) := (blk_cell BK122.out 2).trans rfl
                  have hcz21_3 : wr.cell? ⟨gb122, 3, none⟩ = some (.string a0_3) := (blk_cell BK122.out 3).trans rfl
                  have hcz21_4 : wr.cell? ⟨gb122, 4, none⟩ = some (.int .i64 a0_4) := (blk_cell BK122.out 4).trans rfl
                  have hcz21_5 : wr.cell? ⟨gb122, 5, none⟩ = some (.slice A0_5 l0_5.length c0_5) := (blk_cell BK122.out 5).trans rfl
                  have hcz21_6 : wr.cell? ⟨gb122, 6, none⟩ = some (.int .i64 a0_6) := (blk_cell BK122.out 6).trans rfl
                  have hcz21_7 : wr.cell? ⟨gb122, 7, none⟩ = some (.int .i64 a0_7) := (blk_cell BK122.out 7).trans rfl
                  have hfz21_0 := blk_frozen BK122.out 0
                  have hfz21_1 := blk_frozen BK122.out 1
                  have hfz21_2 := blk_frozen BK122.out 2
                  have hfz21_3 := blk_frozen BK122.out 3
                  have hfz21_4 := blk_frozen BK122.out 4
                  have hfz21_5 := blk_frozen BK122.out 5
                  have hfz21_6 := blk_frozen BK122.out 6
                  have hfz21_7 := blk_frozen BK122.out 7
                  go_wp2_with (first | ((with_reducible refine gate_callee (f := 17) rfl ?_); refine goesL_ (some 21) rfl rfl Tryz.func17 (by kernel_rfl) rfl #[.agg #[.int .i64 1, .string a0_1, .bool a0_2, .string a0_3, .int .i64 a0_4, .slice A0_5 l0_5.length c0_5, .int .i64 a0_6, .int .i64 a0_7]] rfl (by (try simp only [List.map_toArray, List.map_cons, List.map_nil]); first | done | rfl | (simp only [List.length_drop, List.length_take]; rfl)) ?_; (with_reducible refine (polyglotlaw14_Make_Value.calls k1 1 a0_1 a0_2 a0_3 a0_4 _ _ l0_5 a0_6 a0_7 t142 t143 t144 t145 t146 t147 t148 t149 t150 t151 t152 t153 _ ?side1 ?side2 A18.out).mono ?_); (case side1 => repeat (first | exact (Kd.C_below HR0_5.out HB.out) | (with_reducible refine Kd.C_alloc ?_ _) | (with_reducible refine Kd.C_drewN ?_ _) | (with_reducible refine Kd.C_drew ?_))); (case side2 => exact HC0_5.out); rintro e w22 ⟨rfl, hb⟩; refine ⟨_, rfl, ?_⟩; have n0_ := Aside0.mk (Kd.R_below (by (with_reducible repeat (first | apply Kd.R_alloc | apply Kd.R_drewN | apply Kd.R_drew)); exact HO_14.out) hb); have n1_ := Aside0.mk (blk_below (g := gb122) (o := .cells #[.int .i64 1, .string a0_1, .bool a0_2, .string a0_3, .int .i64 a0_4, .slice A0_5 l0_5.length c0_5, .int .i64 a0_6, .int .i64 a0_7] 42 (0, 0)) (by (with_reducible repeat (first | refine blk_drewN ?_ _ | refine blk_drew ?_ | refine blk_alloc ?_ _)); exact BK122.out) hb); have n2_ := Aside0.mk (below_step (by repeat (first | (with_reducible first | exact HB.out | apply below_alloc | apply pw_below_drewN | apply below_drew1 | refine below_set ?_ GE122.out) | exact HB.out)) hb); clear HO_14; clear BK122; clear HB; have HO_14 := n0_; have BK122 := n1_; have HB := n2_; clear n0_ n1_ n2_; (try clear hb); (try clear hb2); (try clear hk); (try clear hi)) | ((with_reducible refine gate_callee (f := 12) rfl ?_); refine goesL_ (some 24) rfl rfl Tryz.func12 (by kernel_rfl) rfl #[.agg #[.int .i64 t142, .string t143, .bool t144, .string t145, .int .i64 t146, .int .i64 t147, .int .i64 t148, .int .i64 t149, .bool t150, .bool t151, .int .i64 t152, .int .i64 t153], .string (rdOf ByteArray.empty y125 x16_1), .string a1] rfl (by (try simp only [List.map_toArray, List.map_cons, List.map_nil]); first | done | rfl | (simp only [List.length_drop, List.length_take]; rfl)) ?_; (with_reducible refine (value_Value_Is.calls k1 t142 t143 t144 t145 t146 t147 t148 t149 t150 t151 t152 t153 (rdOf ByteArray.empty y125 x16_1) a1 true _ A19.out).mono ?_); rintro e w23 ⟨rfl, hb⟩; refine ⟨_, rfl, ?_⟩; have n0_ := Aside0.mk (Kd.R_below (by (with_reducible repeat (first | apply Kd.R_alloc | apply Kd.R_drewN | apply Kd.R_drew)); exact HO_14.out) hb); have n1_ := Aside0.mk (blk_below (g := gb122) (o := .cells #[.int .i64 1, .string a0_1, .bool a0_2, .string a0_3, .int .i64 a0_4, .slice A0_5 l0_5.length c0_5, .int .i64 a0_6, .int .i64 a0_7] 42 (0, 0)) (by (with_reducible repeat (first | refine blk_drewN ?_ _ | refine blk_drew ?_ | refine blk_alloc ?_ _)); exact BK122.out) hb); have n2_ := Aside0.mk (below_step (by repeat (first | (with_reducible first | exact HB.out | apply below_alloc | apply pw_below_drewN | apply below_drew1 | refine below_set ?_ GE122.out) | exact HB.out)) hb); clear HO_14; clear BK122; clear HB; have HO_14 := n0_; have BK122 := n1_; have HB := n2_; clear n0_ n1_ n2_; (try clear hb); (try clear hb2); (try clear hk); (try clear hi)))
                  go_roundg k1
                  case measure => have := HK1.out; omega
                  case rel => exact ⟨(wrap64 (x5_1 + 1)), (wrap64 (x16_1 + 1)), (by first | rfl | (simp; done) | (simp [*]; done)), (by first | rfl | (simp; done) | (simp [*]; done)), H', ⟨by have := HK1.out; omega⟩, ⟨by (with_reducible repeat (first | apply Kd.R_alloc | apply Kd.R_drewN | apply Kd.R_drew)); exact HO_14.out⟩, ⟨by (with_reducible repeat (first | refine blk_drewN ?_ _ | refine blk_drew ?_ | refine blk_alloc ?_ _)); exact BK122.out⟩, ⟨by repeat (first | (with_reducible first | exact HB.out | apply below_alloc | apply pw_below_drewN | apply below_drew1 | refine below_set ?_ GE122.out) | exact HB.out)⟩⟩
                · replace c20 := Bool.eq_false_iff.mpr c20
                  subst c20
                  have H1 : (polyglotlaw14_ValueOnes.l0 k1 a1 x5_1 y125 (y125.length : Int) (wrap64 (x16_1 + 1)) 1 a0_1 a0_2 a0_3 a0_4 l0_5 a0_6 a0_7) = some r := by rw [if_neg (show ¬ (false = true) by decide)] at H; exact H
                  clear H
                  have H := H1
                  clear H1
                  have H' := Aside0.mk H
                  clear H
                  have p141 : 0 ≤ (x16_1 : Int) := of_decide_eq_true (by first | (with_reducible assumption) | assumption)
                  have q141 : x16_1 < (y125.length : Int) := of_decide_eq_true (by first | (with_reducible assumption) | assumption)
                  obtain ⟨ad141, e141, hx141_0⟩ := Kd.at_string (Kd.R_reads' HO_14.out).2.2 x16_1 p141 q141
                  cases e141
                  replace p141 := eq_true p141
                  replace q141 := eq_true q141
                  have hcz24_0 : wr.cell? ⟨gb122, 0, none⟩ = some (.int .i64 1) := (blk_cell BK122.out 0).trans rfl
                  have hcz24_1 : wr.cell? ⟨gb122, 1, none⟩ = some (.string a0_1) := (blk_cell BK122.out 1).trans rfl
                  have hcz24_2 : wr.cell? ⟨gb122, 2, none⟩ = some (.bool a0_2) := (blk_cell BK122.out 2).trans rfl
                  have hcz24_3 : wr.cell? ⟨gb122, 3, none⟩ = some (.string a0_3) := (blk_cell BK122.out 3).trans rfl
                  have hcz24_4 : wr.cell? ⟨gb122, 4, none⟩ = some (.int .i64 a0_4) := (blk_cell BK122.out 4).trans rfl
                  have hcz24_5 : wr.cell? ⟨gb122, 5, none⟩ = some (.slice A0_5 l0_5.length c0_5) := (blk_cell BK122.out 5).trans rfl
                  have hcz24_6 : wr.cell? ⟨gb122, 6, none⟩ = some (.int .i64 a0_6) := (blk_cell BK122.out 6).trans rfl
                  have hcz24_7 : wr.cell? ⟨gb122, 7, none⟩ = some (.int .i64 a0_7) := (blk_cell BK122.out 7).trans rfl
                  have hfz24_0 := blk_frozen BK122.out 0
                  have hfz24_1 := blk_frozen BK122.out 1
                  have hfz24_2 := blk_frozen BK122.out 2
                  have hfz24_3 := blk_frozen BK122.out 3
                  have hfz24_4 := blk_frozen BK122.out 4
                  have hfz24_5 := blk_frozen BK122.out 5
                  have hfz24_6 := blk_frozen BK122.out 6
                  have hfz24_7 := blk_frozen BK122.out 7
                  go_wp2_with (first | ((with_reducible refine gate_callee (f := 17) rfl ?_); refine goesL_ (some 21) rfl rfl Tryz.func17 (by kernel_rfl) rfl #[.agg #[.int .i64 1, .string a0_1, .bool a0_2, .string a0_3, .int .i64 a0_4, .slice A0_5 l0_5.length c0_5, .int .i64 a0_6, .int .i64 a0_7]] rfl (by (try simp only [List.map_toArray, List.map_cons, List.map_nil]); first | done | rfl | (simp only [List.length_drop, List.length_take]; rfl)) ?_; (with_reducible refine (polyglotlaw14_Make_Value.calls k1 1 a0_1 a0_2 a0_3 a0_4 _ _ l0_5 a0_6 a0_7 t142 t143 t144 t145 t146 t147 t148 t149 t150 t151 t152 t153 _ ?side1 ?side2 A18.out).mono ?_); (case side1 => repeat (first | exact (Kd.C_below HR0_5.out HB.out) | (with_reducible refine Kd.C_alloc ?_ _) | (with_reducible refine Kd.C_drewN ?_ _) | (with_reducible refine Kd.C_drew ?_))); (case side2 => exact HC0_5.out); rintro e w25 ⟨rfl, hb⟩; refine ⟨_, rfl, ?_⟩; have n0_ := Aside0.mk (Kd.R_below (by (with_reducible repeat (first | apply Kd.R_alloc | apply Kd.R_drewN | apply Kd.R_drew)); exact HO_14.out) hb); have n1_ := Aside0.mk (blk_below (g := gb122) (o := .cells #[.int .i64 1, .string a0_1, .bool a0_2, .string a0_3, .int .i64 a0_4, .slice A0_5 l0_5.length c0_5, .int .i64 a0_6, .int .i64 a0_7] 42 (0, 0)) (by (with_reducible repeat (first | refine blk_drewN ?_ _ | refine blk_drew ?_ | refine blk_alloc ?_ _)); exact BK122.out) hb); have n2_ := Aside0.mk (below_step (by repeat (first | (with_reducible first | exact HB.out | apply below_alloc | apply pw_below_drewN | apply below_drew1 | refine below_set ?_ GE122.out) | exact HB.out)) hb); clear HO_14; clear BK122; clear HB; have HO_14 := n0_; have BK122 := n1_; have HB := n2_; clear n0_ n1_ n2_; (try clear hb); (try clear hb2); (try clear hk); (try clear hi)) | ((with_reducible refine gate_callee (f := 12) rfl ?_); refine goesL_ (some 24) rfl rfl Tryz.func12 (by kernel_rfl) rfl #[.agg #[.int .i64 t142, .string t143, .bool t144, .string t145, .int .i64 t146, .int .i64 t147, .int .i64 t148, .int .i64 t149, .bool t150, .bool t151, .int .i64 t152, .int .i64 t153], .string (rdOf ByteArray.empty y125 x16_1), .string a1] rfl (by (try simp only [List.map_toArray, List.map_cons, List.map_nil]); first | done | rfl | (simp only [List.length_drop, List.length_take]; rfl)) ?_; (with_reducible refine (value_Value_Is.calls k1 t142 t143 t144 t145 t146 t147 t148 t149 t150 t151 t152 t153 (rdOf ByteArray.empty y125 x16_1) a1 false _ A19.out).mono ?_); rintro e w26 ⟨rfl, hb⟩; refine ⟨_, rfl, ?_⟩; have n0_ := Aside0.mk (Kd.R_below (by (with_reducible repeat (first | apply Kd.R_alloc | apply Kd.R_drewN | apply Kd.R_drew)); exact HO_14.out) hb); have n1_ := Aside0.mk (blk_below (g := gb122) (o := .cells #[.int .i64 1, .string a0_1, .bool a0_2, .string a0_3, .int .i64 a0_4, .slice A0_5 l0_5.length c0_5, .int .i64 a0_6, .int .i64 a0_7] 42 (0, 0)) (by (with_reducible repeat (first | refine blk_drewN ?_ _ | refine blk_drew ?_ | refine blk_alloc ?_ _)); exact BK122.out) hb); have n2_ := Aside0.mk (below_step (by repeat (first | (with_reducible first | exact HB.out | apply below_alloc | apply pw_below_drewN | apply below_drew1 | refine below_set ?_ GE122.out) | exact HB.out)) hb); clear HO_14; clear BK122; clear HB; have HO_14 := n0_; have BK122 := n1_; have HB := n2_; clear n0_ n1_ n2_; (try clear hb); (try clear hb2); (try clear hk); (try clear hi)))
                  go_roundg k1
                  case measure => have := HK1.out; omega
                  case rel => exact ⟨(x5_1), (wrap64 (x16_1 + 1)), (by first | rfl | (simp; done) | (simp [*]; done)), (by first | rfl | (simp; done) | (simp [*]; done)), H', ⟨by have := HK1.out; omega⟩, ⟨by (with_reducible repeat (first | apply Kd.R_alloc | apply Kd.R_drewN | apply Kd.R_drew)); exact HO_14.out⟩, ⟨by (with_reducible repeat (first | refine blk_drewN ?_ _ | refine blk_drew ?_ | refine blk_alloc ?_ _)); exact BK122.out⟩, ⟨by repeat (first | (with_reducible first | exact HB.out | apply below_alloc | apply pw_below_drewN | apply below_drew1 | refine below_set ?_ GE122.out) | exact HB.out)⟩⟩
              · rw [if_neg c17] at H
                exact absurd H (by simp)
            · rw [if_neg c16] at H
              exact absurd H (by simp)
          · rw [if_neg c15] at H
            have c15b0 : decide (x16_1 < (y125.length : Int)) = false := decide_eq_false c15
            clear c15
            by_cases c27 : x5_1 = 1
            · rw [if_pos c27] at H
              have c27b0 : (x5_1 == 1) = true := beq_iff_eq.mpr c27
              have c27b1 : (x5_1 != 1) = false := bne_eq_false_iff_eq.mpr c27
              clear c27
              replace H := Option.bind_eq_some_iff.mp H
              obtain ⟨⟨t128, t129, t130, t131, t132, t133, t134, t135, t136, t137, t138, t139⟩, A280, H⟩ := H
              replace H : ((value_Value_Is.f k1 t128 t129 t130 t131 t132 t133 t134 t135 t136 t137 t138 t139 (⟨#[]⟩ : ByteArray) a1).bind fun t140 => (some (!t140))) = some r := H
              have A28 := Aside0.mk A280
              clear A280
              replace H := Option.bind_eq_some_iff.mp H
              obtain ⟨t140, A290, H⟩ := H
              replace H : (some (!t140)) = some r := H
              have A29 := Aside0.mk A290
              clear A290
              obtain rfl := Option.some.inj H
              have hcz30_0 : wr.cell? ⟨gb122, 0, none⟩ = some (.int .i64 1) := (blk_cell BK122.out 0).trans rfl
              have hcz30_1 : wr.cell? ⟨gb122, 1, none⟩ = some (.string a0_1) := (blk_cell BK122.out 1).trans rfl
              have hcz30_2 : wr.cell? ⟨gb122, 2, none⟩ = some (.bool a0_2) := (blk_cell BK122.out 2).trans rfl
              have hcz30_3 : wr.cell? ⟨gb122, 3, none⟩ = some (.string a0_3) := (blk_cell BK122.out 3).trans rfl
              have hcz30_4 : wr.cell? ⟨gb122, 4, none⟩ = some (.int .i64 a0_4) := (blk_cell BK122.out 4).trans rfl
              have hcz30_5 : wr.cell? ⟨gb122, 5, none⟩ = some (.slice A0_5 l0_5.length c0_5) := (blk_cell BK122.out 5).trans rfl
              have hcz30_6 : wr.cell? ⟨gb122, 6, none⟩ = some (.int .i64 a0_6) := (blk_cell BK122.out 6).trans rfl
              have hcz30_7 : wr.cell? ⟨gb122, 7, none⟩ = some (.int .i64 a0_7) := (blk_cell BK122.out 7).trans rfl
              have hfz30_0 := blk_frozen BK122.out 0
              have hfz30_1 := blk_frozen BK122.out 1
              have hfz30_2 := blk_frozen BK122.out 2
              have hfz30_3 := blk_frozen BK122.out 3
              have hfz30_4 := blk_frozen BK122.out 4
              have hfz30_5 := blk_frozen BK122.out 5
              have hfz30_6 := blk_frozen BK122.out 6
              have hfz30_7 := blk_frozen BK122.out 7
              go_wp2_with (first | (go_at_call 17; (with_reducible refine (polyglotlaw14_Make_Value.calls k1 1 a0_1 a0_2 a0_3 a0_4 _ _ l0_5 a0_6 a0_7 t128 t129 t130 t131 t132 t133 t134 t135 t136 t137 t138 t139 _ ?side1 ?side2 A28.out).mono ?_); (case side1 => repeat (first | exact (Kd.C_below HR0_5.out HB.out) | (with_reducible refine Kd.C_alloc ?_ _) | (with_reducible refine Kd.C_drewN ?_ _) | (with_reducible refine Kd.C_drew ?_))); (case side2 => exact HC0_5.out); rintro e w31 ⟨rfl, hb⟩; have n0_ := Aside0.mk (Kd.R_below (by (with_reducible repeat (first | apply Kd.R_alloc | apply Kd.R_drewN | apply Kd.R_drew)); exact HO_14.out) hb); have n1_ := Aside0.mk (blk_below (g := gb122) (o := .cells #[.int .i64 1, .string a0_1, .bool a0_2, .string a0_3, .int .i64 a0_4, .slice A0_5 l0_5.length c0_5, .int .i64 a0_6, .int .i64 a0_7] 42 (0, 0)) (by (with_reducible repeat (first | refine blk_drewN ?_ _ | refine blk_drew ?_ | refine blk_alloc ?_ _)); exact BK122.out) hb); have n2_ := Aside0.mk (below_step (by repeat (first | (with_reducible first | exact HB.out | apply below_alloc | apply pw_below_drewN | apply below_drew1 | refine below_set ?_ GE122.out) | exact HB.out)) hb); clear HO_14; clear BK122; clear HB; have HO_14 := n0_; have BK122 := n1_; have HB := n2_; clear n0_ n1_ n2_; (try clear hb); (try clear hb2); (try clear hk); (try clear hi)) | (go_at_call 12; (with_reducible refine (value_Value_Is.calls k1 t128 t129 t130 t131 t132 t133 t134 t135 t136 t137 t138 t139 (⟨#[]⟩ : ByteArray) a1 t140 _ A29.out).mono ?_); rintro e w32 ⟨rfl, hb⟩; have n0_ := Aside0.mk (Kd.R_below (by (with_reducible repeat (first | apply Kd.R_alloc | apply Kd.R_drewN | apply Kd.R_drew)); exact HO_14.out) hb); have n1_ := Aside0.mk (blk_below (g := gb122) (o := .cells #[.int .i64 1, .string a0_1, .bool a0_2, .string a0_3, .int .i64 a0_4, .slice A0_5 l0_5.length c0_5, .int .i64 a0_6, .int .i64 a0_7] 42 (0, 0)) (by (with_reducible repeat (first | refine blk_drewN ?_ _ | refine blk_drew ?_ | refine blk_alloc ?_ _)); exact BK122.out) hb); have n2_ := Aside0.mk (below_step (by repeat (first | (with_reducible first | exact HB.out | apply below_alloc | apply pw_below_drewN | apply below_drew1 | refine below_set ?_ GE122.out) | exact HB.out)) hb); clear HO_14; clear BK122; clear HB; have HO_14 := n0_; have BK122 := n1_; have HB := n2_; clear n0_ n1_ n2_; (try clear hb); (try clear hb2); (try clear hk); (try clear hi)))
              go_ret
              exact ⟨by first | rfl | (simp [errW_none, errW_some] <;> rfl) | (simp [*, errW_none, errW_some] <;> rfl), by repeat (first | (with_reducible first | exact HB.out | apply below_alloc | apply pw_below_drewN | apply below_drew1 | refine below_set ?_ GE122.out) | exact HB.out)⟩
            · rw [if_neg c27] at H
              have c27b0 : (x5_1 == 1) = false := beq_eq_false_iff_ne.mpr c27
              have c27b1 : (x5_1 != 1) = true := bne_iff_ne.mpr c27
              obtain rfl := Option.some.inj H
              go_wp2
              go_ret
              exact ⟨by first | rfl | (simp [errW_none, errW_some] <;> rfl) | (simp [*, errW_none, errW_some] <;> rfl), by repeat (first | (with_reducible first | exact HB.out | apply below_alloc | apply pw_below_drewN | apply below_drew1 | refine below_set ?_ GE122.out) | exact HB.out)⟩
    · replace c6 := Bool.eq_false_iff.mpr c6
      subst c6
      have H1 : (some true) = some r := by rw [if_neg (show ¬ (false = true) by decide)] at H; exact H
      clear H
      have H := H1
      clear H1
      obtain rfl := Option.some.inj H
      go_enter Tryz.func5, Tryz.ntmps5
      go_wp2_with (first | ((with_reducible refine gate_dst (N := 2) rfl ?_); refine box_event ?hg (N := 2) ?hd (cs := #[.int .i64 a0_0, .string a0_1, .bool a0_2, .string a0_3, .int .i64 a0_4, .slice A0_5 l0_5.length c0_5, .int .i64 a0_6, .int .i64 a0_7]) (t := 42) ?hr ?_; (case hd => rfl); (case hg => rfl); (case hr => first | (go_simp; done) | (go_simp; rfl)); intro gb122 hg w33 hbox hb; have n0_ := Aside0.mk (below_step (by repeat (first | (with_reducible first | exact HB.out | apply below_alloc | apply pw_below_drewN | apply below_drew1) | exact HB.out)) hb); have n1_ := Aside0.mk (hbox); have n2_ := Aside0.mk ((by rw [hg]; exact (below_size (by repeat (first | (with_reducible first | exact HB.out | apply below_alloc | apply pw_below_drewN | apply below_drew1) | exact HB.out))) : w.heap.size ≤ gb122)); have n3_ := Aside0.mk ((by rw [hg]; exact (below_size (by repeat (first | (with_reducible first | exact HB.out | apply below_alloc | apply pw_below_drewN | apply below_drew1) | exact HB.out))) : w.heap.size ≤ gb122)); clear HB; have HB := n0_; have BK122 := n1_; have GW122 := n2_; have GE122 := n3_; clear n0_ n1_ n2_ n3_; clear hb hbox hg) | ((with_reducible refine gate_callee (f := 6) rfl ?_); refine goesL_ (some 8) rfl rfl Tryz.func6 (by kernel_rfl) rfl #[] rfl (by (try simp only [List.map_toArray, List.map_cons, List.map_nil]); first | done | rfl | (simp only [List.length_drop, List.length_take]; rfl)) ?_; (with_reducible refine (polyglotlaw14_head.calls  true _ A3.out).mono ?_); rintro e w34 ⟨rfl, hb⟩; refine ⟨_, rfl, ?_⟩; have n0_ := Aside0.mk (blk_below (g := gb122) (o := .cells #[.int .i64 a0_0, .string a0_1, .bool a0_2, .string a0_3, .int .i64 a0_4, .slice A0_5 l0_5.length c0_5, .int .i64 a0_6, .int .i64 a0_7] 42 (0, 0)) (by (with_reducible repeat (first | refine blk_drewN ?_ _ | refine blk_drew ?_ | refine blk_alloc ?_ _)); exact BK122.out) hb); have n1_ := Aside0.mk (below_step (by repeat (first | (with_reducible first | exact HB.out | apply below_alloc | apply pw_below_drewN | apply below_drew1 | refine below_set ?_ GE122.out) | exact HB.out)) hb); clear BK122; clear HB; have BK122 := n0_; have HB := n1_; clear n0_ n1_; (try clear hb); (try clear hb2); (try clear hk); (try clear hi); have hcz35_0 : w34.cell? ⟨gb122, 0, none⟩ = some (.int .i64 a0_0) := (blk_cell BK122.out 0).trans rfl; have hcz35_1 : w34.cell? ⟨gb122, 1, none⟩ = some (.string a0_1) := (blk_cell BK122.out 1).trans rfl; have hcz35_2 : w34.cell? ⟨gb122, 2, none⟩ = some (.bool a0_2) := (blk_cell BK122.out 2).trans rfl; have hcz35_3 : w34.cell? ⟨gb122, 3, none⟩ = some (.string a0_3) := (blk_cell BK122.out 3).trans rfl; have hcz35_4 : w34.cell? ⟨gb122, 4, none⟩ = some (.int .i64 a0_4) := (blk_cell BK122.out 4).trans rfl; have hcz35_5 : w34.cell? ⟨gb122, 5, none⟩ = some (.slice A0_5 l0_5.length c0_5) := (blk_cell BK122.out 5).trans rfl; have hcz35_6 : w34.cell? ⟨gb122, 6, none⟩ = some (.int .i64 a0_6) := (blk_cell BK122.out 6).trans rfl; have hcz35_7 : w34.cell? ⟨gb122, 7, none⟩ = some (.int .i64 a0_7) := (blk_cell BK122.out 7).trans rfl; have hfz35_0 := blk_frozen BK122.out 0; have hfz35_1 := blk_frozen BK122.out 1; have hfz35_2 := blk_frozen BK122.out 2; have hfz35_3 := blk_frozen BK122.out 3; have hfz35_4 := blk_frozen BK122.out 4; have hfz35_5 := blk_frozen BK122.out 5; have hfz35_6 := blk_frozen BK122.out 6; have hfz35_7 := blk_frozen BK122.out 7) | ((with_reducible refine gate_callee (f := 16) rfl ?_); refine goesL_ (some 11) rfl rfl Tryz.func16 (by kernel_rfl) rfl #[.agg #[.int .i64 a0_0, .string a0_1, .bool a0_2, .string a0_3, .int .i64 a0_4, .slice A0_5 l0_5.length c0_5, .int .i64 a0_6, .int .i64 a0_7]] rfl (by (try simp only [List.map_toArray, List.map_cons, List.map_nil]); first | done | rfl | (simp only [List.length_drop, List.length_take]; rfl)) ?_; (with_reducible refine (polyglotlaw14_Make_Right.calls k a0_0 a0_1 a0_2 a0_3 a0_4 _ _ l0_5 a0_6 a0_7 false _ ?side1 ?side2 A5.out).mono ?_); (case side1 => repeat (first | exact (Kd.C_below HR0_5.out HB.out) | (with_reducible refine Kd.C_alloc ?_ _) | (with_reducible refine Kd.C_drewN ?_ _) | (with_reducible refine Kd.C_drew ?_))); (case side2 => exact HC0_5.out); rintro e w36 ⟨rfl, hb⟩; refine ⟨_, rfl, ?_⟩; have n0_ := Aside0.mk (blk_below (g := gb122) (o := .cells #[.int .i64 a0_0, .string a0_1, .bool a0_2, .string a0_3, .int .i64 a0_4, .slice A0_5 l0_5.length c0_5, .int .i64 a0_6, .int .i64 a0_7] 42 (0, 0)) (by (with_reducible repeat (first | refine blk_drewN ?_ _ | refine blk_drew ?_ | refine blk_alloc ?_ _)); exact BK122.out) hb); have n1_ := Aside0.mk (below_step (by repeat (first | (with_reducible first | exact HB.out | apply below_alloc | apply pw_below_drewN | apply below_drew1 | refine below_set ?_ GE122.out) | exact HB.out)) hb); clear BK122; clear HB; have BK122 := n0_; have HB := n1_; clear n0_ n1_; (try clear hb); (try clear hb2); (try clear hk); (try clear hi)))
      go_ret
      exact ⟨by first | rfl | (simp [errW_none, errW_some] <;> rfl) | (simp [*, errW_none, errW_some] <;> rfl), by repeat (first | (with_reducible first | exact HB.out | apply below_alloc | apply pw_below_drewN | apply below_drew1 | refine below_set ?_ GE122.out) | exact HB.out)⟩
  · replace c4 := Bool.eq_false_iff.mpr c4
    subst c4
    have H1 : (some false) = some r := by rw [if_neg (show ¬ (false = true) by decide)] at H; exact H
    clear H
    have H := H1
    clear H1
    obtain rfl := Option.some.inj H
    go_enter Tryz.func5, Tryz.ntmps5
    go_wp2_with (first | ((with_reducible refine gate_dst (N := 2) rfl ?_); refine box_event ?hg (N := 2) ?hd (cs := #[.int .i64 a0_0, .string a0_1, .bool a0_2, .string a0_3, .int .i64 a0_4, .slice A0_5 l0_5.length c0_5, .int .i64 a0_6, .int .i64 a0_7]) (t := 42) ?hr ?_; (case hd => rfl); (case hg => rfl); (case hr => first | (go_simp; done) | (go_simp; rfl)); intro gb122 hg w37 hbox hb; have n0_ := Aside0.mk (below_step (by repeat (first | (with_reducible first | exact HB.out | apply below_alloc | apply pw_below_drewN | apply below_drew1) | exact HB.out)) hb); have n1_ := Aside0.mk (hbox); have n2_ := Aside0.mk ((by rw [hg]; exact (below_size (by repeat (first | (with_reducible first | exact HB.out | apply below_alloc | apply pw_below_drewN | apply below_drew1) | exact HB.out))) : w.heap.size ≤ gb122)); have n3_ := Aside0.mk ((by rw [hg]; exact (below_size (by repeat (first | (with_reducible first | exact HB.out | apply below_alloc | apply pw_below_drewN | apply below_drew1) | exact HB.out))) : w.heap.size ≤ gb122)); clear HB; have HB := n0_; have BK122 := n1_; have GW122 := n2_; have GE122 := n3_; clear n0_ n1_ n2_ n3_; clear hb hbox hg) | ((with_reducible refine gate_callee (f := 6) rfl ?_); refine goesL_ (some 8) rfl rfl Tryz.func6 (by kernel_rfl) rfl #[] rfl (by (try simp only [List.map_toArray, List.map_cons, List.map_nil]); first | done | rfl | (simp only [List.length_drop, List.length_take]; rfl)) ?_; (with_reducible refine (polyglotlaw14_head.calls  false _ A3.out).mono ?_); rintro e w38 ⟨rfl, hb⟩; refine ⟨_, rfl, ?_⟩; have n0_ := Aside0.mk (blk_below (g := gb122) (o := .cells #[.int .i64 a0_0, .string a0_1, .bool a0_2, .string a0_3, .int .i64 a0_4, .slice A0_5 l0_5.length c0_5, .int .i64 a0_6, .int .i64 a0_7] 42 (0, 0)) (by (with_reducible repeat (first | refine blk_drewN ?_ _ | refine blk_drew ?_ | refine blk_alloc ?_ _)); exact BK122.out) hb); have n1_ := Aside0.mk (below_step (by repeat (first | (with_reducible first | exact HB.out | apply below_alloc | apply pw_below_drewN | apply below_drew1 | refine below_set ?_ GE122.out) | exact HB.out)) hb); clear BK122; clear HB; have BK122 := n0_; have HB := n1_; clear n0_ n1_; (try clear hb); (try clear hb2); (try clear hk); (try clear hi)))
    go_ret
    exact ⟨by first | rfl | (simp [errW_none, errW_some] <;> rfl) | (simp [*, errW_none, errW_some] <;> rfl), by repeat (first | (with_reducible first | exact HB.out | apply below_alloc | apply pw_below_drewN | apply below_drew1 | refine below_set ?_ GE122.out) | exact HB.out)⟩
end Go.Proofs.YtgjboghnnhcgiaaGreatDoor.Z
namespace Go.Proofs.YtgjboghnnhcgiaaGreatDoor.PN
open Go.RowKit Go.Proofs.YtgjboghnnhcgiaaGreatDoor Go.Proofs.YtgjboghnnhcgiaaGreatDoor.G Go.Proofs.YtgjboghnnhcgiaaGreatDoor.R Go.Proofs.YtgjboghnnhcgiaaGreatDoorW.PrintWords
set_option linter.unusedVariables false
set_option linter.unusedSimpArgs false
theorem w64 (x : Int) (h0 : -9223372036854775808 ≤ x) (h1 : x ≤ 9223372036854775807) : wrap64 x = x := by unfold wrap64; omega
theorem bt_at (s : ByteArray) (i : Nat) (h : i < s.size) : bt s (i : Int) = (s[i]'h).toNat := by
  unfold bt
  rw [Int.toNat_natCast, dif_pos h]
def Dig (D : ByteArray) : Prop := ∀ j (h : j < D.size), 48 ≤ (D[j]'h).toNat ∧ (D[j]'h).toNat ≤ 57
theorem digB_of {D : ByteArray} (h : Dig D) : digB D = true := by
  refine List.all_eq_true.2 fun c hc => ?_
  obtain ⟨i, hi, rfl⟩ := List.getElem_of_mem hc
  have h2 : 48 ≤ (D.data.toList[i]'hi).toNat ∧ (D.data.toList[i]'hi).toNat ≤ 57 := h i (by rw [Lib.size_eq]; exact hi)
  show (decide _ && decide _) = true
  rw [decide_eq_true h2.1, decide_eq_true h2.2]
  rfl
def Norm (D : ByteArray) (s : Int) : Prop := (D.size : Int) = s + 1 ∨ ∀ h : 0 < D.size, (D[0]'h).toNat ≠ 48
theorem digit_f (c : Nat) : polyglotlaw02_digit.f (c : Int) = some (decide (48 ≤ c) && decide (c ≤ 57)) := by
  unfold polyglotlaw02_digit.f
  by_cases h : 48 ≤ c
  · rw [if_pos (by omega), decide_eq_true h, Bool.true_and]
    exact congrArg some (by rw [decide_eq_decide]; omega)
  · rw [if_neg (by omega), decide_eq_false h, Bool.false_and]
theorem right_loop (n : Bool) (D : ByteArray) (sc : Int) (h60 : D.size ≤ 60) (h0 : 0 < D.size) (s0 : 0 ≤ sc) (s1 : sc < D.size) : ∀ (d i : Nat), D.size - i ≤ d → i ≤ D.size → (∀ j (h : j < D.size), j < i → 48 ≤ (D[j]'h).toNat ∧ (D[j]'h).toNat ≤ 57) →
    ∃ b, polyglotlaw02_Right.l0 (d + 1) (i : Int) n D sc = some b ∧ (b = true → Dig D ∧ Norm D sc) := by
  have fin : ∀ (i k : Nat), D.size ≤ i → (∀ j (h : j < D.size), j < i → 48 ≤ (D[j]'h).toNat ∧ (D[j]'h).toNat ≤ 57) → ∃ b, polyglotlaw02_Right.l0 (k + 1) (i : Int) n D sc = some b ∧ (b = true → Dig D ∧ Norm D sc) := by
    intro i k h1 h3
    have hd : Dig D := fun j hj => h3 j hj (by omega)
    have hb := bt_at D 0 h0
    rw [Int.natCast_zero] at hb
    rw [polyglotlaw02_Right.l0, if_neg (by omega), if_pos (by omega), hb]
    split
    · refine ⟨_, rfl, fun h => ⟨hd, .inl ?_⟩⟩
      rw [beq_iff_eq, w64 _ (by omega) (by omega)] at h
      exact h
    · rename_i hne
      exact ⟨_, rfl, fun _ => ⟨hd, .inr fun _ => by omega⟩⟩
  intro d
  induction d with
  | zero => intro i h1 h2 h3; exact fin i 0 (by omega) h3
  | succ d ih =>
    intro i h1 h2 h3
    by_cases hi : i < D.size
    · rw [polyglotlaw02_Right.l0, if_pos (by omega), if_pos (by omega), bt_at D i hi, digit_f, Option.bind_some]
      by_cases hg : (decide (48 ≤ (D[i]'hi).toNat) && decide ((D[i]'hi).toNat ≤ 57)) = true
      · rw [if_pos hg, w64 _ (by omega) (by omega), show (i : Int) + 1 = ((i + 1 : Nat) : Int) by omega]
        refine ih (i + 1) (by omega) (by omega) ?_
        intro j hj hji
        by_cases e : j = i
        · subst e; simpa using hg
        · exact h3 j hj (by omega)
      · rw [if_neg hg]
        exact ⟨false, rfl, fun h => by cases h⟩
    · exact fin i (d + 1) (by omega) h3
theorem right_ok (n : Bool) (D : ByteArray) (sc : Int) (k : Nat) (hk : 100 ≤ k) : ∃ b, polyglotlaw02_Right.f k n D sc = some b ∧ (b = true → okN D sc = true ∧ Norm D sc) := by
  obtain ⟨j, rfl⟩ : ∃ j, k = j + 61 + 1 := ⟨k - 62, by omega⟩
  have hj : ∀ x, polyglotlaw02_Right.j0 (j + 61 + 1) true n D x = some false := fun x => by rw [polyglotlaw02_Right.j0, if_pos rfl]
  unfold polyglotlaw02_Right.f
  by_cases h1 : sc < 0
  · rw [if_pos h1, hj]; exact ⟨false, rfl, fun h => by cases h⟩
  rw [if_neg h1]
  by_cases h2 : sc ≥ D.size
  · rw [if_pos h2, hj]; exact ⟨false, rfl, fun h => by cases h⟩
  rw [if_neg h2]
  by_cases h3 : D.size > 60
  · rw [show decide ((D.size : Int) > 60) = true from decide_eq_true (by omega), hj]; exact ⟨false, rfl, fun h => by cases h⟩
  rw [show decide ((D.size : Int) > 60) = false from decide_eq_false (by omega), polyglotlaw02_Right.j0, if_neg (by decide)]
  obtain ⟨b, hb, hd⟩ := right_loop n D sc (by omega) (by omega) (by omega) (by omega) (j + 60) 0 (by omega) (by omega) (fun _ _ h => by omega)
  refine ⟨b, hb, fun h => ⟨?_, (hd h).2⟩⟩
  unfold okN
  rw [digB_of (hd h).1, decide_eq_true (by omega), decide_eq_true (by omega), decide_eq_true (by omega)]
  rfl
end Go.Proofs.YtgjboghnnhcgiaaGreatDoor.PN
namespace Go.Proofs.YtgjboghnnhcgiaaGreatDoor.PN
open Go.RowKit Go.Proofs.YtgjboghnnhcgiaaGreatDoor Go.Proofs.YtgjboghnnhcgiaaGreatDoor.G
set_option linter.unusedVariables false
set_option linter.unusedSimpArgs false
def Inv (m f x : Int) : Prop := 1 ≤ m ∧ m ≤ 20 ∧ 0 ≤ f ∧ f ≤ x ∧ x ≤ 20
theorem stN_inv {m f x : Int} (h : Inv m f x) (nm : ByteArray) (n : Int) : Inv (stN m f x nm n).2.1 (stN m f x nm n).2.2.1 (stN m f x nm n).2.2.2 := by
  obtain ⟨h1, h2, h3, h4, h5⟩ := h
  unfold stN
  by_cases c1 : n < 0
  · rw [if_pos c1]; exact ⟨h1, h2, h3, h4, h5⟩
  rw [if_neg c1]
  by_cases c2 : 20 < n
  · rw [if_pos c2]; exact ⟨h1, h2, h3, h4, h5⟩
  rw [if_neg c2]
  by_cases c3 : isMI nm = true ∧ 0 < n
  · rw [if_pos c3]; exact ⟨by show 1 ≤ n; omega, by show n ≤ 20; omega, h3, h4, h5⟩
  rw [if_neg c3]
  by_cases c4 : isMF nm = true
  · rw [if_pos c4]
    refine ⟨h1, h2, by show 0 ≤ n; omega, ?_, ?_⟩
    · show n ≤ if x < n then n else x
      split <;> omega
    · show (if x < n then n else x) ≤ 20
      split <;> omega
  rw [if_neg c4]
  by_cases c5 : isXF nm = true
  · rw [if_pos c5]
    refine ⟨h1, h2, ?_, ?_, by show n ≤ 20; omega⟩
    · show 0 ≤ if n < f then n else f
      split <;> omega
    · show (if n < f then n else f) ≤ n
      split <;> omega
  rw [if_neg c5]; exact ⟨h1, h2, h3, h4, h5⟩
theorem stS_inv {m f x : Int} (h : Inv m f x) (p r : Bool) (nm tx : ByteArray) (n : Int) (it : Bool) : Inv (stS m f x p r nm tx n it).2.1 (stS m f x p r nm tx n it).2.2.1 (stS m f x p r nm tx n it).2.2.2.1 := by
  unfold stS
  split
  · exact stN_inv h nm n
  · split
    · exact h
    · split
      · exact h
      · exact h
end Go.Proofs.YtgjboghnnhcgiaaGreatDoor.PN

namespace Go.Proofs.YtgjboghnnhcgiaaGreatDoor.PU
open Go.RowKit Go.Proofs.YtgjboghnnhcgiaaGreatDoor Go.Proofs.YtgjboghnnhcgiaaGreatDoor.G Go.Proofs.YtgjboghnnhcgiaaGreatDoor.U Go.Proofs.YtgjboghnnhcgiaaGreatDoor.R Go.Proofs.YtgjboghnnhcgiaaGreatDoorW.PrintWords
set_option linter.unusedVariables false
set_option linter.unusedSimpArgs false
abbrev bl (s : ByteArray) : List UInt8 := s.data.toList
theorem sz (s : ByteArray) : s.size = (bl s).length := Lib.size_eq s
theorem bl_mk (l : List UInt8) : bl ⟨l.toArray⟩ = l := rfl
theorem w64 (x : Int) (h0 : -9223372036854775808 ≤ x) (h1 : x ≤ 9223372036854775807) : wrap64 x = x := by unfold wrap64; omega
theorem bt_nat (s : ByteArray) (i : Nat) (c : UInt8) (h : (bl s)[i]? = some c) : bt s (i : Int) = c.toNat := by
  obtain ⟨hl, e⟩ := List.getElem?_eq_some_iff.1 h
  have hl' : i < s.size := by rw [sz]; exact hl
  unfold bt
  rw [Int.toNat_natCast, dif_pos hl']
  rw [← e]
  rfl
def isDig (c : UInt8) : Bool := decide (48 ≤ c.toNat) && decide (c.toNat ≤ 57)
theorem digit_f (c : UInt8) : polyglotlaw02_digit.f (c.toNat : Int) = some (isDig c) := by
  unfold polyglotlaw02_digit.f isDig
  by_cases h : 48 ≤ c.toNat
  · rw [if_pos (by omega)]
    simp [h]
    omega
  · rw [if_neg (by omega)]
    simp [h]
end Go.Proofs.YtgjboghnnhcgiaaGreatDoor.PU
namespace Go.Proofs.YtgjboghnnhcgiaaGreatDoor.S
open Go.RowKit Go.Proofs.YtgjboghnnhcgiaaGreatDoor Go.Proofs.YtgjboghnnhcgiaaGreatDoor.G Go.Proofs.YtgjboghnnhcgiaaGreatDoor.U Go.Proofs.YtgjboghnnhcgiaaGreatDoor.R Go.Proofs.YtgjboghnnhcgiaaGreatDoor.PU Go.Proofs.YtgjboghnnhcgiaaGreatDoorW.PrintWords
set_option linter.unusedVariables false
set_option linter.unusedSimpArgs false
abbrev digs (l : List UInt8) : Bool := l.all isDig
def stripTo (m : Nat) : List UInt8 → List UInt8
  | [] => []
  | c :: t => if m < t.length + 1 ∧ c = 48 then stripTo m t else c :: t
theorem stripTo_len (m : Nat) : ∀ L, (stripTo m L).length ≤ L.length ∧ (m ≤ L.length → m ≤ (stripTo m L).length)
  | [] => ⟨Nat.le_refl _, fun h => h⟩
  | c :: t => by
    have ih := stripTo_len m t
    unfold stripTo
    split
    · rw [List.length_cons]; exact ⟨by omega, fun h => ih.2 (by omega)⟩
    · exact ⟨Nat.le_refl _, fun h => h⟩
theorem stripTo_digs (m : Nat) : ∀ L, digs L = true → digs (stripTo m L) = true
  | [], h => h
  | c :: t, h => by
    unfold stripTo
    split
    · exact stripTo_digs m t (by simp [digs] at h ⊢; exact h.2)
    · exact h
theorem dw48 (l : List UInt8) : l = List.replicate (l.length - (Lib.trimLeftS l [48]).length) 48 ++ Lib.trimLeftS l [48] := by
  induction l with
  | nil => rfl
  | cons c t ih =>
    unfold Lib.trimLeftS at ih ⊢
    rw [List.dropWhile_cons]
    by_cases h : ([48] : List UInt8).contains c = true
    · rw [if_pos h]
      have hc : c = 48 := by simpa using h
      have hl : (t.dropWhile fun x => ([48] : List UInt8).contains x).length ≤ t.length := (List.dropWhile_suffix _).length_le
      rw [List.length_cons, show t.length + 1 - (t.dropWhile fun x => ([48] : List UInt8).contains x).length = (t.length - (t.dropWhile fun x => ([48] : List UInt8).contains x).length) + 1 by omega, List.replicate_succ, List.cons_append, ← ih, hc]
    · rw [if_neg h]
      simp
theorem strip_eq (m : Nat) : ∀ L : List UInt8, m ≤ L.length → 1 ≤ m → (if (Lib.trimLeftS L [48]).length < m then List.replicate (m - (Lib.trimLeftS L [48]).length) 48 ++ Lib.trimLeftS L [48] else Lib.trimLeftS L [48]) = stripTo m L
  | [], h, h1 => by simp at h; omega
  | c :: t, h, h1 => by
    rw [List.length_cons] at h
    by_cases hc : c = 48
    · have e : Lib.trimLeftS (c :: t) [48] = Lib.trimLeftS t [48] := by
        unfold Lib.trimLeftS
        rw [List.dropWhile_cons, if_pos (by simpa using hc)]
      rw [e]
      unfold stripTo
      by_cases hm : m < t.length + 1
      · rw [if_pos (⟨hm, hc⟩ : m < t.length + 1 ∧ c = 48)]
        exact strip_eq m t (by omega) h1
      · rw [if_neg (fun h => hm h.1 : ¬ (m < t.length + 1 ∧ c = 48))]
        have hd := dw48 (c :: t)
        rw [e, List.length_cons] at hd
        have hl : (Lib.trimLeftS t [48]).length ≤ t.length := (List.dropWhile_suffix _).length_le
        rw [if_pos (by omega), show m - (Lib.trimLeftS t [48]).length = t.length + 1 - (Lib.trimLeftS t [48]).length by omega]
        exact hd.symm
    · have e : Lib.trimLeftS (c :: t) [48] = c :: t := by
        unfold Lib.trimLeftS
        rw [List.dropWhile_cons, if_neg (by simpa using hc)]
      rw [e, if_neg (by rw [List.length_cons]; omega)]
      unfold stripTo
      rw [if_neg (fun h => hc h.2 : ¬ (m < t.length + 1 ∧ c = 48))]
theorem make0_ok (n : Bool) (D : ByteArray) (sc : Nat) (h : sc + 1 ≤ (bl D).length) (hl : (bl D).length ≤ 1000) : dec_make0.f n D sc = some (n, ⟨(stripTo (sc + 1) (bl D)).toArray⟩, (sc : Int)) := by
  have hT : strings_TrimLeft.f D ⟨#[48]⟩ = some ⟨(Lib.trimLeftS (bl D) [48]).toArray⟩ := by
    unfold strings_TrimLeft.f
    rw [if_pos ⟨by decide, by decide⟩]
  have hlt : (Lib.trimLeftS (bl D) [48]).length ≤ (bl D).length := (List.dropWhile_suffix _).length_le
  have hst := strip_eq (sc + 1) (bl D) h (by omega)
  unfold dec_make0.f
  rw [hT, Option.bind_some, sz, bl_mk, w64 ((sc : Int) + 1) (by omega) (by omega), w64 _ (by omega) (by omega)]
  by_cases hc : (Lib.trimLeftS (bl D) [48]).length < sc + 1
  · rw [if_pos hc] at hst
    rw [if_pos (by omega)]
    have hR : strings_Repeat.f ⟨#[48]⟩ ((sc : Int) + 1 - ((Lib.trimLeftS (bl D) [48]).length : Int)) = some ⟨(List.replicate (sc + 1 - (Lib.trimLeftS (bl D) [48]).length) 48).toArray⟩ := by
      unfold strings_Repeat.f
      have e : ((sc : Int) + 1 - ((Lib.trimLeftS (bl D) [48]).length : Int)).toNat = sc + 1 - (Lib.trimLeftS (bl D) [48]).length := by omega
      rw [if_pos ⟨by omega, by omega, by rw [e]; show 1 * _ ≤ _; omega⟩, e]
      rw [show (⟨#[48]⟩ : ByteArray).data.toList = [48] from rfl, repeatL_one]
    rw [hR, Option.bind_some, if_pos (by rw [sz, bl_mk, List.length_replicate]; omega), ← hst]
    congr 3
  · rw [if_neg hc] at hst
    rw [if_neg (by omega), ← hst]
end Go.Proofs.YtgjboghnnhcgiaaGreatDoor.S
namespace Go.Proofs.YtgjboghnnhcgiaaGreatDoor.S
open Go.RowKit Go.Proofs.YtgjboghnnhcgiaaGreatDoor Go.Proofs.YtgjboghnnhcgiaaGreatDoor.G Go.Proofs.YtgjboghnnhcgiaaGreatDoor.U Go.Proofs.YtgjboghnnhcgiaaGreatDoor.R Go.Proofs.YtgjboghnnhcgiaaGreatDoor.PU Go.Proofs.YtgjboghnnhcgiaaGreatDoorW.PrintWords Go.Proofs.YtgjboghnnhcgiaaGreatDoorW.PrintMore
set_option linter.unusedVariables false
set_option linter.unusedSimpArgs false
def dv (c : UInt8) : Nat := c.toNat - 48
def val (l : List UInt8) : Nat := l.foldl (fun n c => n * 10 + dv c) 0
theorem val_fold : ∀ (l : List UInt8) (n : Nat), l.foldl (fun n c => n * 10 + dv c) n = n * 10 ^ l.length + val l
  | [], n => by simp [val]
  | c :: t, n => by
    show t.foldl (fun n c => n * 10 + dv c) (n * 10 + dv c) = n * 10 ^ (t.length + 1) + t.foldl (fun n c => n * 10 + dv c) (0 * 10 + dv c)
    rw [val_fold t, val_fold t (0 * 10 + dv c), Nat.pow_succ, Nat.add_mul, Nat.add_mul, Nat.mul_assoc, Nat.mul_comm 10, Nat.zero_mul, Nat.zero_add, Nat.add_assoc]
theorem val_cons (c : UInt8) (t : List UInt8) : val (c :: t) = dv c * 10 ^ t.length + val t := by
  show t.foldl (fun n c => n * 10 + dv c) (0 * 10 + dv c) = _
  rw [val_fold, Nat.zero_mul, Nat.zero_add]
theorem val_app (a b : List UInt8) : val (a ++ b) = val a * 10 ^ b.length + val b := by
  show (a ++ b).foldl _ 0 = _
  rw [List.foldl_append, val_fold]
  rfl
theorem dig_le {c : UInt8} (h : isDig c = true) : 48 ≤ c.toNat ∧ c.toNat ≤ 57 := by simpa [isDig] using h
theorem digs_cons {c : UInt8} {t : List UInt8} (h : digs (c :: t) = true) : isDig c = true ∧ digs t = true := by simpa [digs] using h
theorem digs_of {a : List UInt8} (h : ∀ c ∈ a, isDig c = true) : digs a = true := List.all_eq_true.2 h
theorem digs_at {a : List UInt8} (h : digs a = true) : ∀ c ∈ a, isDig c = true := List.all_eq_true.1 h
theorem digs_rep (n : Nat) : digs (List.replicate n 48) = true := digs_of fun c hc => by rw [List.eq_of_mem_replicate hc]; rfl
theorem val_lt : ∀ {l : List UInt8}, digs l = true → val l < 10 ^ l.length
  | [], _ => by simp [val]
  | c :: t, h => by
    obtain ⟨hc, ht⟩ := digs_cons h
    have ih := val_lt ht
    have hd := dig_le hc
    have h9 : dv c * 10 ^ t.length ≤ 9 * 10 ^ t.length := Nat.mul_le_mul_right _ (by unfold dv; omega)
    rw [val_cons, List.length_cons, Nat.pow_succ]
    omega
theorem val_rep : ∀ n, val (List.replicate n 48) = 0
  | 0 => rfl
  | n + 1 => by rw [List.replicate_succ, val_cons, val_rep n, show dv 48 = 0 from rfl, Nat.zero_mul]
theorem two (P a b x y : Nat) (hx : x < P) (hy : y < P) : (a * P + x < b * P + y ↔ a < b ∨ a = b ∧ x < y) ∧ (a * P + x = b * P + y ↔ a = b ∧ x = y) := by
  rcases Nat.lt_trichotomy a b with h | h | h
  · have := Nat.mul_le_mul_right P (show a + 1 ≤ b from h)
    rw [Nat.add_mul] at this
    omega
  · subst h; omega
  · have := Nat.mul_le_mul_right P (show b + 1 ≤ a from h)
    rw [Nat.add_mul] at this
    omega
def sgn (a b : Nat) : Int := if a < b then -1 else if a = b then 0 else 1
theorem less_val : ∀ {x y : List UInt8}, digs x = true → digs y = true → x.length = y.length → (Op.bytesLess x y = true ↔ val x < val y) ∧ (x = y ↔ val x = val y)
  | [], [], _, _, _ => by simp [Op.bytesLess]
  | [], _ :: _, _, _, h => by simp at h
  | _ :: _, [], _, _, h => by simp at h
  | a :: x, b :: y, hx, hy, hl => by
    obtain ⟨ha, hx⟩ := digs_cons hx
    obtain ⟨hb, hy⟩ := digs_cons hy
    have hl : x.length = y.length := by simpa using hl
    obtain ⟨ih1, ih2⟩ := less_val hx hy hl
    have hxl := val_lt hx
    have hyl := val_lt hy
    rw [← hl] at hyl
    have h2 := two (10 ^ x.length) (dv a) (dv b) (val x) (val y) hxl hyl
    have hda := dig_le ha
    have hdb := dig_le hb
    have he : a = b ↔ dv a = dv b := by
      rw [← UInt8.toNat_inj]; unfold dv; omega
    have hlt : a < b ↔ dv a < dv b := by
      rw [UInt8.lt_iff_toNat_lt]; unfold dv; omega
    rw [val_cons, val_cons, ← hl, h2.1, h2.2]
    constructor
    · show (decide (a < b) || (a == b && Op.bytesLess x y)) = true ↔ _
      rw [Bool.or_eq_true, Bool.and_eq_true, decide_eq_true_iff, beq_iff_eq, hlt, he, ih1]
    · rw [List.cons.injEq, he, ih2]
theorem cmpS_val {x y : List UInt8} (hx : digs x = true) (hy : digs y = true) (hl : x.length = y.length) : cmpS x y = sgn (val x) (val y) := by
  obtain ⟨h1, h2⟩ := less_val hx hy hl
  unfold cmpS sgn
  by_cases h : val x < val y
  · rw [if_pos (h1.2 h), if_pos h]
  · rw [if_neg (fun hh => h (h1.1 hh)), if_neg h]
    by_cases e : val x = val y
    · rw [if_pos (by rw [beq_iff_eq]; exact h2.2 e), if_pos e]
    · rw [if_neg (by rw [beq_iff_eq]; exact fun hh => e (h2.1 hh)), if_neg e]
structure Num (D : List UInt8) (sc : Nat) : Prop where
  dig : digs D = true
  lt : sc < D.length
  max : D.length ≤ 150
def V (D : List UInt8) (sc : Nat) : Nat := val D * 10 ^ (200 - sc)
def S (neg : Bool) (v : Nat) : Int := if neg = true then -(v : Int) else v
theorem right_loop (n : Bool) (A : List UInt8) (sc : Int) (hA : A.length ≤ 60) (h0 : 0 < A.length) : ∀ (d i : Nat), A.length - i ≤ d → i ≤ A.length → (∀ c ∈ A.take i, isDig c = true) →
    ∃ b, polyglotlaw02_Right.l0 (d + 1) (i : Int) n ⟨A.toArray⟩ sc = some b ∧ (b = true → digs A = true) := by
  have hz : (⟨A.toArray⟩ : ByteArray).size = A.length := sz _
  have fin : ∀ (i k : Nat), A.length ≤ i → i ≤ A.length → (∀ c ∈ A.take i, isDig c = true) → ∃ b, polyglotlaw02_Right.l0 (k + 1) (i : Int) n ⟨A.toArray⟩ sc = some b ∧ (b = true → digs A = true) := by
    intro i k h1 h2 h3
    have hd : digs A = true := digs_of (by rw [List.take_of_length_le h1] at h3; exact h3)
    rw [polyglotlaw02_Right.l0, hz, if_neg (by omega), if_pos (by omega)]
    split
    · exact ⟨_, rfl, fun _ => hd⟩
    · exact ⟨_, rfl, fun _ => hd⟩
  intro d
  induction d with
  | zero => intro i h1 h2 h3; exact fin i 0 (by omega) h2 h3
  | succ d ih =>
    intro i h1 h2 h3
    by_cases hi : i < A.length
    · have hc : (bl ⟨A.toArray⟩)[i]? = some A[i] := List.getElem?_eq_getElem hi
      rw [polyglotlaw02_Right.l0, hz, if_pos (by omega), if_pos (by omega), bt_nat _ i _ hc, digit_f, Option.bind_some]
      by_cases hg : isDig A[i] = true
      · rw [if_pos hg, w64 _ (by omega) (by omega), show (i : Int) + 1 = ((i + 1 : Nat) : Int) by omega]
        refine ih (i + 1) (by omega) (by omega) ?_
        intro c hcm
        rw [List.take_add_one, List.mem_append] at hcm
        rcases hcm with h | h
        · exact h3 c h
        · rw [List.getElem?_eq_getElem hi] at h
          have : c = A[i] := by simpa using h
          rw [this]; exact hg
      · rw [if_neg hg]
        exact ⟨false, rfl, fun h => by cases h⟩
    · exact fin i (d + 1) (by omega) h2 h3
theorem dv_succ {c : UInt8} (h : isDig c = true) (h9 : c.toNat < 57) : dv (c.toNat + 1).toUInt8 = dv c + 1 ∧ isDig (c.toNat + 1).toUInt8 = true := by
  have hd := dig_le h
  have e : ((c.toNat + 1).toUInt8).toNat = c.toNat + 1 := by
    show (c.toNat + 1) % 256 = _
    omega
  constructor
  · unfold dv; rw [e]; omega
  · unfold isDig; rw [e]; simp; omega
theorem inc_ok : ∀ (r : List UInt8), digs r = true → val (incR r).reverse = val r.reverse + 1 ∧ digs (incR r) = true ∧ r.length ≤ (incR r).length ∧ (incR r).length ≤ r.length + 1
  | [], _ => ⟨rfl, rfl, by decide, by decide⟩
  | c :: t, h => by
    obtain ⟨hc, ht⟩ := digs_cons h
    have hd := dig_le hc
    have e : incR (c :: t) = if c.toNat < 57 then (c.toNat + 1).toUInt8 :: t else 48 :: incR t := rfl
    rw [e, List.reverse_cons, val_app, val_cons c [], show val [] = 0 from rfl]
    by_cases h9 : c.toNat < 57
    · obtain ⟨h1, h2⟩ := dv_succ hc h9
      rw [if_pos h9, List.reverse_cons, val_app, val_cons _ [], h1, show val [] = 0 from rfl]
      refine ⟨by simp; omega, by simp [digs] at ht ⊢; exact ⟨h2, ht⟩, by simp, by simp⟩
    · obtain ⟨i1, i2, i3, i4⟩ := inc_ok t ht
      rw [if_neg h9, List.reverse_cons, val_app, val_cons 48 [], i1, show val [] = 0 from rfl, show dv 48 = 0 from rfl]
      refine ⟨by unfold dv; simp; omega, by simp [digs] at i2 ⊢; exact ⟨rfl, i2⟩, by simp; omega, by simp; omega⟩
theorem incL_ok {l : List UInt8} (h : digs l = true) : val (incL l) = val l + 1 ∧ digs (incL l) = true ∧ l.length ≤ (incL l).length ∧ (incL l).length ≤ l.length + 1 := by
  have hr : digs l.reverse = true := digs_of fun c hc => digs_at h c (List.mem_reverse.1 hc)
  obtain ⟨h1, h2, h3, h4⟩ := inc_ok l.reverse hr
  rw [List.reverse_reverse] at h1
  rw [List.length_reverse] at h3 h4
  unfold incL
  refine ⟨h1, digs_of fun c hc => digs_at h2 c (List.mem_reverse.1 hc), by rw [List.length_reverse]; exact h3, by rw [List.length_reverse]; exact h4⟩
theorem strip_val (m : Nat) : ∀ L, val (stripTo m L) = val L
  | [] => rfl
  | c :: t => by
    unfold stripTo
    split
    · rename_i h
      rw [strip_val m t, val_cons, h.2, show dv 48 = 0 from rfl, Nat.zero_mul, Nat.zero_add]
    · rfl
def q (v u : Nat) : Nat := if u < 2 * (v % u) ∨ 2 * (v % u) = u ∧ v / u % 2 = 1 then v / u + 1 else v / u
theorem q_mul {v u c : Nat} (hc : 0 < c) : q (v * c) (u * c) = q v u := by
  unfold q
  rw [Nat.mul_div_mul_right _ _ hc, Nat.mul_mod_mul_right, ← Nat.mul_assoc]
  have e1 : u * c < 2 * (v % u) * c ↔ u < 2 * (v % u) := Nat.mul_lt_mul_right hc
  have e2 : 2 * (v % u) * c = u * c ↔ 2 * (v % u) = u := Nat.mul_left_inj (by omega)
  rw [if_iff (or_congr e1 (and_congr e2 Iff.rfl))]
theorem q_whole {n u : Nat} (hu : 0 < u) : q (n * u) u = n := by
  unfold q
  rw [Nat.mul_mod_left, Nat.mul_div_cancel _ hu, if_neg (by omega)]
theorem last_odd {D : List UInt8} (h : digs D = true) (n : Nat) (h0 : 0 < n) (hn : n ≤ D.length) : ((D.getD (n - 1) 0).toNat - 48) % 2 = val (D.take n) % 2 := by
  obtain ⟨i, rfl⟩ : ∃ i, n = i + 1 := ⟨n - 1, by omega⟩
  have hc : D[i]? = some D[i] := List.getElem?_eq_getElem (by omega)
  rw [Nat.add_sub_cancel, List.getD_eq_getElem?_getD, hc, List.take_add_one, hc, val_app]
  show dv D[i] % 2 = (val (D.take i) * 10 ^ 1 + (0 * 10 + dv D[i])) % 2
  omega
theorem roundL_ok {D : List UInt8} {k s : Nat} (h : digs D = true) (hk : k < D.length) (hs : s < k) :
    val (roundL D k s) = q (val D) (10 ^ (k - s)) ∧ digs (roundL D k s) = true ∧ s + 1 ≤ (roundL D k s).length ∧ (roundL D k s).length ≤ D.length + 1 := by
  obtain ⟨m, hm⟩ : ∃ m, k - s = m + 1 := ⟨k - s - 1, by omega⟩
  have hkm : k = s + m + 1 := by omega
  have hkeep : digs (D.take (D.length - (k - s))) = true := digs_of fun c hc => digs_at h c (List.mem_of_mem_take hc)
  have hrest : digs (D.drop (D.length - (k - s))) = true := digs_of fun c hc => digs_at h c (List.mem_of_mem_drop hc)
  have hrl : (D.drop (D.length - (k - s))).length = m + 1 := by rw [List.length_drop]; omega
  have hhalf : digs (53 :: List.replicate m 48) = true := by
    have := digs_rep m
    simp only [digs, List.all_cons, Bool.and_eq_true] at this ⊢
    exact ⟨rfl, this⟩
  have hvh : val (53 :: List.replicate m 48) = 5 * 10 ^ m := by rw [val_cons, val_rep, List.length_replicate, Nat.add_zero]; rfl
  have hcmp := cmpS_val hrest hhalf (by rw [hrl, List.length_cons, List.length_replicate])
  rw [hvh] at hcmp
  have hodd := last_odd h (D.length - (k - s)) (by omega) (by omega)
  have hv : val D = val (D.take (D.length - (k - s))) * 10 ^ (m + 1) + val (D.drop (D.length - (k - s))) := by
    conv => lhs; rw [← List.take_append_drop (D.length - (k - s)) D]
    rw [val_app, hrl]
  have hlt := val_lt hrest
  rw [hrl] at hlt
  have hkl : (D.take (D.length - (k - s))).length = D.length - (k - s) := by rw [List.length_take]; omega
  unfold roundL
  rw [show k - s - 1 = m by omega, hcmp, hodd, hm] at *
  generalize D.take (D.length - (m + 1)) = KP at *
  generalize val (D.drop (D.length - (m + 1))) = r at *
  have hdiv : val D / 10 ^ (m + 1) = val KP := by rw [hv, Nat.mul_comm, Nat.mul_add_div (Nat.pow_pos (by decide)), Nat.div_eq_of_lt hlt, Nat.add_zero]
  have hmod : val D % 10 ^ (m + 1) = r := by rw [hv, Nat.mul_comm, Nat.mul_add_mod, Nat.mod_eq_of_lt hlt]
  have hp : 10 ^ (m + 1) = 10 * 10 ^ m := by rw [Nat.pow_succ, Nat.mul_comm]
  have hq : (sgn r (5 * 10 ^ m) > 0 ∨ sgn r (5 * 10 ^ m) = 0 ∧ val KP % 2 = 1) ↔ (10 ^ (m + 1) < 2 * r ∨ 2 * r = 10 ^ (m + 1) ∧ val KP % 2 = 1) := by
    rw [hp]
    unfold sgn
    rcases Nat.lt_trichotomy r (5 * 10 ^ m) with h | h | h
    · rw [if_pos h]; omega
    · rw [if_neg (by omega), if_pos h]; omega
    · rw [if_neg (by omega), if_neg (by omega)]; omega
  rw [if_iff hq]
  unfold q
  rw [hdiv, hmod]
  obtain ⟨i1, i2, i3, i4⟩ := incL_ok hkeep
  split
  · exact ⟨i1, i2, by omega, by omega⟩
  · exact ⟨rfl, hkeep, by omega, by omega⟩
theorem round_ok (n : Bool) {A : List UInt8} {sa : Nat} (ha : Num A sa) (hA : A.length ≤ 60) (s : Int) (hs : s ≤ 60) :
    ∃ (R : List UInt8) (r : Nat), dec_Dec_Round.f n ⟨A.toArray⟩ (sa : Int) s = some (n, ⟨R.toArray⟩, (r : Int)) ∧ Num R r ∧ V R r = q (V A sa) (10 ^ (200 - (if s < 0 then (0 : Int) else s).toNat)) * 10 ^ (200 - (if s < 0 then (0 : Int) else s).toNat) := by
  obtain ⟨t, ht⟩ : ∃ t : Nat, (if s < 0 then (0 : Int) else s) = (t : Int) := ⟨(if s < 0 then (0 : Int) else s).toNat, by split <;> omega⟩
  have ht60 : t ≤ 60 := by split at ht <;> omega
  have hz : (⟨A.toArray⟩ : ByteArray).size = A.length := sz _
  have hlt := ha.lt
  have hrk : rndOk ⟨A.toArray⟩ (sa : Int) = true := by
    have hdB : digB ⟨A.toArray⟩ = true := ha.dig
    unfold rndOk
    rw [hdB, hz]
    simp
    omega
  have hu : 0 < 10 ^ (200 - t) := Nat.pow_pos (by decide)
  unfold dec_Dec_Round.f
  simp only [ht, Int.toNat_natCast]
  rw [if_pos hrk]
  by_cases hk : sa ≤ t
  · rw [if_pos (by omega)]
    refine ⟨A, sa, rfl, ha, ?_⟩
    have e : V A sa = (val A * 10 ^ (t - sa)) * 10 ^ (200 - t) := by
      unfold V
      rw [Nat.mul_assoc, ← Nat.pow_add, show t - sa + (200 - t) = 200 - sa by omega]
    rw [e, q_whole hu]
  · rw [if_neg (by omega)]
    obtain ⟨h1, h2, h3, h4⟩ := roundL_ok ha.dig hlt (show t < sa by omega)
    have hm := make0_ok n ⟨(roundL A sa t).toArray⟩ t (by rw [bl_mk]; exact h3) (by rw [bl_mk]; omega)
    rw [bl_mk] at hm
    refine ⟨stripTo (t + 1) (roundL A sa t), t, hm, ⟨stripTo_digs _ _ h2, (stripTo_len _ _).2 h3, Nat.le_trans (stripTo_len _ _).1 (by omega)⟩, ?_⟩
    unfold V
    rw [strip_val, h1, show 10 ^ (200 - t) = 10 ^ (sa - t) * 10 ^ (200 - sa) by rw [← Nat.pow_add]; congr 1; omega, q_mul (Nat.pow_pos (by decide))]
end Go.Proofs.YtgjboghnnhcgiaaGreatDoor.S
