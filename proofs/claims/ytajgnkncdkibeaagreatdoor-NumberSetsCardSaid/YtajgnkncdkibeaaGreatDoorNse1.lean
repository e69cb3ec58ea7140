/- whatever options, one by one: what they are then, or that it is none (Text 2 of 5: what the law's proof rests on, joined; walks printed by the kit's print over given contracts, walks and plain laws by hand.) -/
import Derived.IntWalk
import Derived.Lib.Hide
import Derived.Outline
import Derived.Deep.LoopGhost
import Derived.Deep.RegionHeld3
import Derived.Deep.WholeRow
import Derived.Deep.MidRow
import Derived.StillTailTactics
import Derived.Deep.DrawnRows
import Derived.MapKept
import Derived.WideKeyEntry
import Derived.Tactics2
import Derived.Defers
import Derived.Laws.Pointers
import Derived.Laws.LoneSync
import Derived.Laws.NewBlocks
import Derived.RegionTactic
import Derived.RegionCalls
import Derived.ChangeAlike
import Derived.Maps.Range
import Derived.Carry
import Derived.Deep.QuietTactic
import Derived.BigQuiet
import Derived.Lib.Small
import Derived.Laws.Cover1
import Derived.Laws.StructEq
import Derived.Test.YtajgnkncdkibeaaGreatDoorNse0
namespace Go.Proofs.YtajgnkncdkibeaaGreatDoor
open Go.RowKit
set_option linter.unusedVariables false
set_option linter.unusedSimpArgs false
def stS (mi mf xf : Int) (pl rk : Bool) (name text : ByteArray) (dg : Int) (isT : Bool) : Bool × Int × Int × Int × Bool × Bool :=
  if isT = false then ((stN mi mf xf name dg).1, (stN mi mf xf name dg).2.1, (stN mi mf xf name dg).2.2.1, (stN mi mf xf name dg).2.2.2, pl, rk)
  else if (name.toList == [117, 115, 101, 71, 114, 111, 117, 112, 105, 110, 103]) = true then ((text.toList == [102, 97, 108, 115, 101]) || (text.toList == [116, 114, 117, 101]), mi, mf, xf, (text.toList == [102, 97, 108, 115, 101]), rk)
  else if (name.toList == [116, 121, 112, 101]) = true then ((text.toList == [111, 114, 100, 105, 110, 97, 108]) || (text.toList == [99, 97, 114, 100, 105, 110, 97, 108]), mi, mf, xf, pl, (text.toList == [111, 114, 100, 105, 110, 97, 108]))
  else (false, mi, mf, xf, pl, rk)
def zO : Array Value := #[.int .i64 0, .int .i64 0, .int .i64 0, .bool false, .bool false]
set_option maxRecDepth 100000 in
set_option maxHeartbeats 4000000 in
theorem Set_any (mi mf xf : Int) (pl rk : Bool) (name text : ByteArray) (n : Bool) (D : ByteArray) (k : Int) (isT : Bool) (dg : Int)
    (cD : ∀ W, Calls Tryz.prog 19 #[decV n D k] W fun e w' => e = .returned (.int .i64 dg) ∧ Below W.heap.size W w') (w : World) :
    Calls Tryz.prog 8 #[optV mi mf xf pl rk, .string name, .string text, decV n D k, .bool isT] w fun e w' =>
      (∃ z mi1 mf1 xf1 pl1 rk1, stS mi mf xf pl rk name text dg isT = (z, mi1, mf1, xf1, pl1, rk1) ∧
        e = .returned (.tuple (if z = true then #[optV mi1 mf1 xf1 pl1 rk1, .int .i64 0] else #[optV 0 0 0 false false, .int .i64 1]))) ∧ Below w.heap.size w w' := by
  have h0 := Own.three w (.cells (optC mi mf xf pl rk) 26) (.cells #[.bool n, .string D, .int .i64 k] 29) (.cells zO 26)
  unfold decV optV at *
  unfold zO optC at h0
  unfold stS
  cases isT with
  | false =>
    rw [if_pos rfl]
    have cs := fun W => set_any w.heap.size mi mf xf pl rk name dg W
    unfold optC at cs
    generalize stN mi mf xf name dg = R at *
    obtain ⟨z, a, b, c⟩ := R
    dsimp only at cs ⊢
    go_enter Tryz.func8, Tryz.ntmps8
    go_upto_region 2 with (fail)
    generalize (((w.alloc (.cells #[.int .i64 mi, .int .i64 mf, .int .i64 xf, .bool pl, .bool rk] 26)).alloc (.cells #[.bool n, .string D, .int .i64 k] 29)).alloc (.cells #[.int .i64 0, .int .i64 0, .int .i64 0, .bool false, .bool false] 26)) = W0 at *
    have p0 := h0.c 1 0 rfl rfl
    have p1 := h0.c 1 1 rfl rfl
    have p2 := h0.c 1 2 rfl rfl
    go_upto_region 8 with (first | (go_at_call 19; refine (cD _).mono ?_; rintro e W1 ⟨rfl, b1⟩; have h1 := h0.step b1) | (go_at_call 18; refine (cs _ (h1.at (i := 2) rfl)).mono ?_; rintro e W2 ⟨rfl, t2⟩; have h2 := h1.turned 2 rfl t2))
    clear p0 p1 p2 cs cD
    have bel := h2.bel
    cases z with
    | false =>
      have r0 := h2.c 0 0 rfl rfl
      have r1 := h2.c 0 1 rfl rfl
      have r2 := h2.c 0 2 rfl rfl
      have r3 := h2.c 0 3 rfl rfl
      have r4 := h2.c 0 4 rfl rfl
      have f0 := h2.fz 0 0 rfl
      have f1 := h2.fz 0 1 rfl
      have f2 := h2.fz 0 2 rfl
      have f3 := h2.fz 0 3 rfl
      have f4 := h2.fz 0 4 rfl
      have h3 := ((((h2.set 0 0 (.int .i64 0) rfl).set 0 1 (.int .i64 0) rfl).set 0 2 (.int .i64 0) rfl).set 0 3 (.bool false) rfl).set 0 4 (.bool false) rfl
      have q0 := h3.c 0 0 rfl rfl
      have q1 := h3.c 0 1 rfl rfl
      have q2 := h3.c 0 2 rfl rfl
      have q3 := h3.c 0 3 rfl rfl
      have q4 := h3.c 0 4 rfl rfl
      go_wp2
      refine bodyPost_ret (v := .tuple #[.agg #[.int .i64 0, .int .i64 0, .int .i64 0, .bool false, .bool false], .int .i64 1]) (by simp [results, Tryz.results8, go_sem, q0, q1, q2, q3, q4]) rfl ?_
      exact ⟨⟨false, a, b, c, pl, rk, rfl, rfl⟩, h3.bel⟩
    | true =>
      have r0 := h2.c 0 0 rfl rfl
      have r1 := h2.c 0 1 rfl rfl
      have r2 := h2.c 0 2 rfl rfl
      have r3 := h2.c 0 3 rfl rfl
      have r4 := h2.c 0 4 rfl rfl
      have p0 := h2.c 2 0 rfl rfl
      have p1 := h2.c 2 1 rfl rfl
      have p2 := h2.c 2 2 rfl rfl
      have p3 := h2.c 2 3 rfl rfl
      have p4 := h2.c 2 4 rfl rfl
      have f0 := h2.fz 0 0 rfl
      have f1 := h2.fz 0 1 rfl
      have f2 := h2.fz 0 2 rfl
      have f3 := h2.fz 0 3 rfl
      have f4 := h2.fz 0 4 rfl
      have h3 := ((((h2.set 0 0 (.int .i64 a) rfl).set 0 1 (.int .i64 b) rfl).set 0 2 (.int .i64 c) rfl).set 0 3 (.bool pl) rfl).set 0 4 (.bool rk) rfl
      have q0 := h3.c 0 0 rfl rfl
      have q1 := h3.c 0 1 rfl rfl
      have q2 := h3.c 0 2 rfl rfl
      have q3 := h3.c 0 3 rfl rfl
      have q4 := h3.c 0 4 rfl rfl
      go_wp2
      refine bodyPost_ret (v := .tuple #[.agg #[.int .i64 a, .int .i64 b, .int .i64 c, .bool pl, .bool rk], .int .i64 0]) (by simp [results, Tryz.results8, go_sem, q0, q1, q2, q3, q4]) rfl ?_
      exact ⟨⟨true, a, b, c, pl, rk, rfl, rfl⟩, h3.bel⟩
  | true =>
    rw [if_neg (by decide)]
    clear cD
    by_cases h1 : (name.toList == [117, 115, 101, 71, 114, 111, 117, 112, 105, 110, 103]) = true
    · rw [if_pos h1]
      obtain ⟨x, hx⟩ : ∃ x, (text.toList == [102, 97, 108, 115, 101]) = x := ⟨_, rfl⟩
      obtain ⟨y, hy⟩ : ∃ y, (text.toList == [116, 114, 117, 101]) = y := ⟨_, rfl⟩
      simp only [hx, hy]
      go_enter Tryz.func8, Tryz.ntmps8
      go_upto_region 2 with (fail)
      generalize (((w.alloc (.cells #[.int .i64 mi, .int .i64 mf, .int .i64 xf, .bool pl, .bool rk] 26)).alloc (.cells #[.bool n, .string D, .int .i64 k] 29)).alloc (.cells #[.int .i64 0, .int .i64 0, .int .i64 0, .bool false, .bool false] 26)) = W0 at *
      have p3 := h0.c 2 3 rfl rfl
      have g3 := h0.fz 2 3 rfl
      have h2 := h0.set 2 3 (.bool x) rfl
      cases x with
      | true =>
        go_upto_region 8 with (fail)
        generalize W0.setCell ⟨w.heap.size, 3, none⟩ (.bool true) = W2 at *
        clear p3 g3 h0
        have r0 := h2.c 0 0 rfl rfl
        have r1 := h2.c 0 1 rfl rfl
        have r2 := h2.c 0 2 rfl rfl
        have r3 := h2.c 0 3 rfl rfl
        have r4 := h2.c 0 4 rfl rfl
        have p0 := h2.c 2 0 rfl rfl
        have p1 := h2.c 2 1 rfl rfl
        have p2 := h2.c 2 2 rfl rfl
        have p3 := h2.c 2 3 rfl rfl
        have p4 := h2.c 2 4 rfl rfl
        have f0 := h2.fz 0 0 rfl
        have f1 := h2.fz 0 1 rfl
        have f2 := h2.fz 0 2 rfl
        have f3 := h2.fz 0 3 rfl
        have f4 := h2.fz 0 4 rfl
        have h3 := (((((h2).set 0 0 (.int .i64 mi) rfl).set 0 1 (.int .i64 mf) rfl).set 0 2 (.int .i64 xf) rfl).set 0 3 (.bool true) rfl).set 0 4 (.bool rk) rfl
        have q0 := h3.c 0 0 rfl rfl
        have q1 := h3.c 0 1 rfl rfl
        have q2 := h3.c 0 2 rfl rfl
        have q3 := h3.c 0 3 rfl rfl
        have q4 := h3.c 0 4 rfl rfl
        go_wp2
        refine bodyPost_ret (v := .tuple #[.agg #[.int .i64 mi, .int .i64 mf, .int .i64 xf, .bool true, .bool rk], .int .i64 0]) (by simp [results, Tryz.results8, go_sem, q0, q1, q2, q3, q4]) rfl ?_
        exact ⟨⟨true, mi, mf, xf, true, rk, rfl, rfl⟩, h3.bel⟩
      | false =>
        cases y with
        | true =>
          go_upto_region 8 with (fail)
          generalize W0.setCell ⟨w.heap.size, 3, none⟩ (.bool false) = W2 at *
          clear p3 g3 h0
          have r0 := h2.c 0 0 rfl rfl
          have r1 := h2.c 0 1 rfl rfl
          have r2 := h2.c 0 2 rfl rfl
          have r3 := h2.c 0 3 rfl rfl
          have r4 := h2.c 0 4 rfl rfl
          have p0 := h2.c 2 0 rfl rfl
          have p1 := h2.c 2 1 rfl rfl
          have p2 := h2.c 2 2 rfl rfl
          have p3 := h2.c 2 3 rfl rfl
          have p4 := h2.c 2 4 rfl rfl
          have f0 := h2.fz 0 0 rfl
          have f1 := h2.fz 0 1 rfl
          have f2 := h2.fz 0 2 rfl
          have f3 := h2.fz 0 3 rfl
          have f4 := h2.fz 0 4 rfl
          have h3 := (((((h2).set 0 0 (.int .i64 mi) rfl).set 0 1 (.int .i64 mf) rfl).set 0 2 (.int .i64 xf) rfl).set 0 3 (.bool false) rfl).set 0 4 (.bool rk) rfl
          have q0 := h3.c 0 0 rfl rfl
          have q1 := h3.c 0 1 rfl rfl
          have q2 := h3.c 0 2 rfl rfl
          have q3 := h3.c 0 3 rfl rfl
          have q4 := h3.c 0 4 rfl rfl
          go_wp2
          refine bodyPost_ret (v := .tuple #[.agg #[.int .i64 mi, .int .i64 mf, .int .i64 xf, .bool false, .bool rk], .int .i64 0]) (by simp [results, Tryz.results8, go_sem, q0, q1, q2, q3, q4]) rfl ?_
          exact ⟨⟨true, mi, mf, xf, false, rk, rfl, rfl⟩, h3.bel⟩
        | false =>
          go_upto_region 8 with (fail)
          generalize W0.setCell ⟨w.heap.size, 3, none⟩ (.bool false) = W2 at *
          clear p3 g3 h0
          have r0 := h2.c 0 0 rfl rfl
          have r1 := h2.c 0 1 rfl rfl
          have r2 := h2.c 0 2 rfl rfl
          have r3 := h2.c 0 3 rfl rfl
          have r4 := h2.c 0 4 rfl rfl
          have f0 := h2.fz 0 0 rfl
          have f1 := h2.fz 0 1 rfl
          have f2 := h2.fz 0 2 rfl
          have f3 := h2.fz 0 3 rfl
          have f4 := h2.fz 0 4 rfl
          have h3 := (((((h2).set 0 0 (.int .i64 0) rfl).set 0 1 (.int .i64 0) rfl).set 0 2 (.int .i64 0) rfl).set 0 3 (.bool false) rfl).set 0 4 (.bool false) rfl
          have q0 := h3.c 0 0 rfl rfl
          have q1 := h3.c 0 1 rfl rfl
          have q2 := h3.c 0 2 rfl rfl
          have q3 := h3.c 0 3 rfl rfl
          have q4 := h3.c 0 4 rfl rfl
          go_wp2
          refine bodyPost_ret (v := .tuple #[.agg #[.int .i64 0, .int .i64 0, .int .i64 0, .bool false, .bool false], .int .i64 1]) (by simp [results, Tryz.results8, go_sem, q0, q1, q2, q3, q4]) rfl ?_
          exact ⟨⟨false, mi, mf, xf, false, rk, rfl, rfl⟩, h3.bel⟩
    rw [if_neg h1]
    have e1 : (name.toList == [117, 115, 101, 71, 114, 111, 117, 112, 105, 110, 103]) = false := by simpa using h1
    by_cases h2 : (name.toList == [116, 121, 112, 101]) = true
    · rw [if_pos h2]
      obtain ⟨x, hx⟩ : ∃ x, (text.toList == [111, 114, 100, 105, 110, 97, 108]) = x := ⟨_, rfl⟩
      obtain ⟨y, hy⟩ : ∃ y, (text.toList == [99, 97, 114, 100, 105, 110, 97, 108]) = y := ⟨_, rfl⟩
      simp only [hx, hy]
      go_enter Tryz.func8, Tryz.ntmps8
      go_upto_region 2 with (fail)
      generalize (((w.alloc (.cells #[.int .i64 mi, .int .i64 mf, .int .i64 xf, .bool pl, .bool rk] 26)).alloc (.cells #[.bool n, .string D, .int .i64 k] 29)).alloc (.cells #[.int .i64 0, .int .i64 0, .int .i64 0, .bool false, .bool false] 26)) = W0 at *
      have p4 := h0.c 2 4 rfl rfl
      have g4 := h0.fz 2 4 rfl
      have h2 := h0.set 2 4 (.bool x) rfl
      cases x with
      | true =>
        go_upto_region 8 with (fail)
        generalize W0.setCell ⟨w.heap.size, 4, none⟩ (.bool true) = W2 at *
        clear p4 g4 h0
        have r0 := h2.c 0 0 rfl rfl
        have r1 := h2.c 0 1 rfl rfl
        have r2 := h2.c 0 2 rfl rfl
        have r3 := h2.c 0 3 rfl rfl
        have r4 := h2.c 0 4 rfl rfl
        have p0 := h2.c 2 0 rfl rfl
        have p1 := h2.c 2 1 rfl rfl
        have p2 := h2.c 2 2 rfl rfl
        have p3 := h2.c 2 3 rfl rfl
        have p4 := h2.c 2 4 rfl rfl
        have f0 := h2.fz 0 0 rfl
        have f1 := h2.fz 0 1 rfl
        have f2 := h2.fz 0 2 rfl
        have f3 := h2.fz 0 3 rfl
        have f4 := h2.fz 0 4 rfl
        have h3 := (((((h2).set 0 0 (.int .i64 mi) rfl).set 0 1 (.int .i64 mf) rfl).set 0 2 (.int .i64 xf) rfl).set 0 3 (.bool pl) rfl).set 0 4 (.bool true) rfl
        have q0 := h3.c 0 0 rfl rfl
        have q1 := h3.c 0 1 rfl rfl
        have q2 := h3.c 0 2 rfl rfl
        have q3 := h3.c 0 3 rfl rfl
        have q4 := h3.c 0 4 rfl rfl
        go_wp2
        refine bodyPost_ret (v := .tuple #[.agg #[.int .i64 mi, .int .i64 mf, .int .i64 xf, .bool pl, .bool true], .int .i64 0]) (by simp [results, Tryz.results8, go_sem, q0, q1, q2, q3, q4]) rfl ?_
        exact ⟨⟨true, mi, mf, xf, pl, true, rfl, rfl⟩, h3.bel⟩
      | false =>
        cases y with
        | true =>
          go_upto_region 8 with (fail)
          generalize W0.setCell ⟨w.heap.size, 4, none⟩ (.bool false) = W2 at *
          clear p4 g4 h0
          have r0 := h2.c 0 0 rfl rfl
          have r1 := h2.c 0 1 rfl rfl
          have r2 := h2.c 0 2 rfl rfl
          have r3 := h2.c 0 3 rfl rfl
          have r4 := h2.c 0 4 rfl rfl
          have p0 := h2.c 2 0 rfl rfl
          have p1 := h2.c 2 1 rfl rfl
          have p2 := h2.c 2 2 rfl rfl
          have p3 := h2.c 2 3 rfl rfl
          have p4 := h2.c 2 4 rfl rfl
          have f0 := h2.fz 0 0 rfl
          have f1 := h2.fz 0 1 rfl
          have f2 := h2.fz 0 2 rfl
          have f3 := h2.fz 0 3 rfl
          have f4 := h2.fz 0 4 rfl
          have h3 := (((((h2).set 0 0 (.int .i64 mi) rfl).set 0 1 (.int .i64 mf) rfl).set 0 2 (.int .i64 xf) rfl).set 0 3 (.bool pl) rfl).set 0 4 (.bool false) rfl
          have q0 := h3.c 0 0 rfl rfl
          have q1 := h3.c 0 1 rfl rfl
          have q2 := h3.c 0 2 rfl rfl
          have q3 := h3.c 0 3 rfl rfl
          have q4 := h3.c 0 4 rfl rfl
          go_wp2
          refine bodyPost_ret (v := .tuple #[.agg #[.int .i64 mi, .int .i64 mf, .int .i64 xf, .bool pl, .bool false], .int .i64 0]) (by simp [results, Tryz.results8, go_sem, q0, q1, q2, q3, q4]) rfl ?_
          exact ⟨⟨true, mi, mf, xf, pl, false, rfl, rfl⟩, h3.bel⟩
        | false =>
          go_upto_region 8 with (fail)
          generalize W0.setCell ⟨w.heap.size, 4, none⟩ (.bool false) = W2 at *
          clear p4 g4 h0
          have r0 := h2.c 0 0 rfl rfl
          have r1 := h2.c 0 1 rfl rfl
          have r2 := h2.c 0 2 rfl rfl
          have r3 := h2.c 0 3 rfl rfl
          have r4 := h2.c 0 4 rfl rfl
          have f0 := h2.fz 0 0 rfl
          have f1 := h2.fz 0 1 rfl
          have f2 := h2.fz 0 2 rfl
          have f3 := h2.fz 0 3 rfl
          have f4 := h2.fz 0 4 rfl
          have h3 := (((((h2).set 0 0 (.int .i64 0) rfl).set 0 1 (.int .i64 0) rfl).set 0 2 (.int .i64 0) rfl).set 0 3 (.bool false) rfl).set 0 4 (.bool false) rfl
          have q0 := h3.c 0 0 rfl rfl
          have q1 := h3.c 0 1 rfl rfl
          have q2 := h3.c 0 2 rfl rfl
          have q3 := h3.c 0 3 rfl rfl
          have q4 := h3.c 0 4 rfl rfl
          go_wp2
          refine bodyPost_ret (v := .tuple #[.agg #[.int .i64 0, .int .i64 0, .int .i64 0, .bool false, .bool false], .int .i64 1]) (by simp [results, Tryz.results8, go_sem, q0, q1, q2, q3, q4]) rfl ?_
          exact ⟨⟨false, mi, mf, xf, pl, false, rfl, rfl⟩, h3.bel⟩
    rw [if_neg h2]
    have e2 : (name.toList == [116, 121, 112, 101]) = false := by simpa using h2
    go_enter Tryz.func8, Tryz.ntmps8
    go_upto_region 8 with (fail)
    generalize (((w.alloc (.cells #[.int .i64 mi, .int .i64 mf, .int .i64 xf, .bool pl, .bool rk] 26)).alloc (.cells #[.bool n, .string D, .int .i64 k] 29)).alloc (.cells #[.int .i64 0, .int .i64 0, .int .i64 0, .bool false, .bool false] 26)) = W0 at *
    have r0 := h0.c 0 0 rfl rfl
    have r1 := h0.c 0 1 rfl rfl
    have r2 := h0.c 0 2 rfl rfl
    have r3 := h0.c 0 3 rfl rfl
    have r4 := h0.c 0 4 rfl rfl
    have f0 := h0.fz 0 0 rfl
    have f1 := h0.fz 0 1 rfl
    have f2 := h0.fz 0 2 rfl
    have f3 := h0.fz 0 3 rfl
    have f4 := h0.fz 0 4 rfl
    have h3 := (((((h0).set 0 0 (.int .i64 0) rfl).set 0 1 (.int .i64 0) rfl).set 0 2 (.int .i64 0) rfl).set 0 3 (.bool false) rfl).set 0 4 (.bool false) rfl
    have q0 := h3.c 0 0 rfl rfl
    have q1 := h3.c 0 1 rfl rfl
    have q2 := h3.c 0 2 rfl rfl
    have q3 := h3.c 0 3 rfl rfl
    have q4 := h3.c 0 4 rfl rfl
    go_wp2
    refine bodyPost_ret (v := .tuple #[.agg #[.int .i64 0, .int .i64 0, .int .i64 0, .bool false, .bool false], .int .i64 1]) (by simp [results, Tryz.results8, go_sem, q0, q1, q2, q3, q4]) rfl ?_
    exact ⟨⟨false, mi, mf, xf, pl, rk, rfl, rfl⟩, h3.bel⟩
end Go.Proofs.YtajgnkncdkibeaaGreatDoor
namespace Go.Proofs.YtajgnkncdkibeaaGreatDoor
open Go.RowKit
set_option linter.unusedVariables false
set_option linter.unusedSimpArgs false
theorem whole_any (n : Bool) (d : ByteArray) (k : Nat) (w : World) (hk : k ≤ d.size) (hs : d.size ≤ 4611686018427387904) :
    Calls Tryz.prog 24 #[decV n d k] w fun e w' => e = .returned (.string (d.extract 0 (d.size - k))) ∧ Below w.heap.size w w' := by
  unfold decV
  have bA := (Below.refl w.heap.size w).alloc (Nat.le_refl _) (.cells #[.bool n, .string d, .int .i64 k] 29)
  have h1 : ((d.size : Int) - k).toNat = d.size - k := by omega
  go_enter Tryz.func24, Tryz.ntmps24
  go_wp2
  go_ret
  exact ⟨rfl, bA⟩
theorem part_any (n : Bool) (d : ByteArray) (k : Nat) (w : World) (hk : k ≤ d.size) (hs : d.size ≤ 4611686018427387904) :
    Calls Tryz.prog 33 #[decV n d k] w fun e w' => e = .returned (.string (d.extract (d.size - k) d.size)) ∧ Below w.heap.size w w' := by
  unfold decV
  have bA := (Below.refl w.heap.size w).alloc (Nat.le_refl _) (.cells #[.bool n, .string d, .int .i64 k] 29)
  have h1 : ((d.size : Int) - k).toNat = d.size - k := by omega
  go_enter Tryz.func33, Tryz.ntmps33
  go_wp2
  go_ret
  exact ⟨rfl, bA⟩
theorem trim0 (d : ByteArray) (w : World) (hs : d.size ≤ 4611686018427387904) :
    Calls Tryz.prog 50 #[.string d, .string ⟨#[48]⟩] w fun e w' => e = .returned (.string ⟨(Lib.trimB d.data.toList 48).toArray⟩) ∧ Below w.heap.size w w' :=
  (Tryz.strings_Trim_one d 48 (by decide) w (by omega)).mono fun e w' ⟨he, hw⟩ => ⟨he, by rcases hw with rfl | rfl; exact Below.refl _ _; exact (Below.refl _ _).drew⟩
theorem zero_any (n : Bool) (d : ByteArray) (k : Int) (w : World) (hs : d.size ≤ 4611686018427387904) :
    Calls Tryz.prog 34 #[decV n d k] w fun e w' => e = .returned (.bool (Lib.trimB d.data.toList 48).isEmpty) ∧ Below w.heap.size w w' := by
  unfold decV
  have bA := (Below.refl w.heap.size w).alloc (Nat.le_refl _) (.cells #[.bool n, .string d, .int .i64 k] 29)
  have hsz := bA.size
  obtain ⟨L, hL⟩ : ∃ L, Lib.trimB d.data.toList 48 = L := ⟨_, rfl⟩
  have cT := fun w => trim0 d w hs
  rw [hL] at cT ⊢
  clear hL
  go_enter Tryz.func34, Tryz.ntmps34
  go_wp2_with (go_at_call 50; refine (cT _).mono ?_; rintro e W1 ⟨rfl, b1⟩)
  go_ret
  exact ⟨rfl, bA.trans (b1.mono hsz)⟩
end Go.Proofs.YtajgnkncdkibeaaGreatDoor
namespace Go.Proofs.YtajgnkncdkibeaaGreatDoor
open Go.RowKit
set_option linter.unusedVariables false
set_option linter.unusedSimpArgs false
def nuL (l : List UInt8) : Int := l.foldl (fun x c => x * 10 + ((c.toNat : Int) - 48)) 0
def dgV (n : Bool) (E : ByteArray) (K : Nat) : Int := if 0 < K then -1 else if 2 < E.size then -1 else if (n && !(Lib.trimB E.data.toList 48).isEmpty) = true then -1 else nuL E.data.toList
theorem dg_int {x y : Int} (h : x = y) : (Ending.returned (.int .i64 x)) = .returned (.int .i64 y) := by rw [h]
set_option maxRecDepth 100000 in
set_option maxHeartbeats 4000000 in
theorem digits_any (n : Bool) (D : ByteArray) (k : Int) (E : ByteArray) (J : Nat)
    (cT : ∀ W, Calls Tryz.prog 22 #[decV n D k, .int .i64 0] W fun e w' => e = .returned (decV n E J) ∧ Below W.heap.size W w')
    (hE : E.size ≤ 1000) (hJ : J ≤ 1000) (hd : ∀ j (h : j < E.size), 48 ≤ (E[j]'h).toNat ∧ (E[j]'h).toNat ≤ 57) (w : World) :
    Calls Tryz.prog 19 #[decV n D k] w fun e w' => e = .returned (.int .i64 (dgV n E J)) ∧ Below w.heap.size w w' := by
  have h0 := Own.one w (.cells #[.bool n, .string D, .int .i64 k] 29)
  have cZ := fun W => zero_any n E J W (by omega)
  obtain ⟨R, hR⟩ : ∃ R, dgV n E J = R := ⟨_, rfl⟩
  rw [hR]
  unfold dgV at hR
  unfold decV at *
  go_enter Tryz.func19, Tryz.ntmps19
  go_upto_region 1 with (fail)
  generalize w.alloc (.cells #[.bool n, .string D, .int .i64 k] 29) = W0 at *
  have p0 := h0.c 0 0 rfl rfl
  have p1 := h0.c 0 1 rfl rfl
  have p2 := h0.c 0 2 rfl rfl
  go_upto_region 2 with (go_at_call 22; refine (cT _).mono ?_; rintro e W1 ⟨rfl, b1⟩; have h1 := h0.step b1; have q0 := h1.c 0 0 rfl rfl; have q1 := h1.c 0 1 rfl rfl; have q2 := h1.c 0 2 rfl rfl; have f0 := h1.fz 0 0 rfl; have f1 := h1.fz 0 1 rfl; have f2 := h1.fz 0 2 rfl)
  have h2 := ((h1.set 0 0 (.bool n) rfl).set 0 1 (.string E) rfl).set 0 2 (.int .i64 J) rfl
  clear p0 p1 p2 q0 q1 q2 f0 f1 f2 h0 h1 b1 cT
  generalize ((W1.setCell ⟨w.heap.size, 0, none⟩ (.bool n)).setCell ⟨w.heap.size, 1, none⟩ (.string E)).setCell ⟨w.heap.size, 2, none⟩ (.int .i64 (J : Int)) = W2 at *
  have p0 := h2.c 0 0 rfl rfl
  have p1 := h2.c 0 1 rfl rfl
  have p2 := h2.c 0 2 rfl rfl
  have bel := h2.bel
  by_cases c1 : 0 < J
  · rw [if_pos c1] at hR
    subst hR
    have g1 : decide ((J : Int) > 0) = true := decide_eq_true (by omega)
    go_wp2
    go_ret
    exact ⟨rfl, bel⟩
  rw [if_neg c1] at hR
  have g1 : decide ((J : Int) > 0) = false := decide_eq_false (by omega)
  by_cases c2 : 2 < E.size
  · rw [if_pos c2] at hR
    subst hR
    have g2 : decide ((E.size : Int) > 2) = true := decide_eq_true (by omega)
    go_wp2
    go_ret
    exact ⟨rfl, bel⟩
  rw [if_neg c2] at hR
  have g2 : decide ((E.size : Int) > 2) = false := decide_eq_false (by omega)
  have body : ∀ W, Own w [(w.heap.size, .cells #[.bool n, .string E, .int .i64 J] 29 (0, 0))] W → True := fun _ _ => trivial
  generalize (Lib.trimB E.data.toList 48).isEmpty = z at *
  have hloop : ∀ (h : ¬ (n && !z) = true), nuL E.data.toList = R := fun h => by rw [if_neg h] at hR; exact hR
  have hneg : ∀ (h : (n && !z) = true), R = -1 := fun h => by rw [if_pos h] at hR; exact hR.symm
  clear hR
  obtain ⟨y, hy⟩ : ∃ y, (n && !z) = y := ⟨_, rfl⟩
  rw [hy] at hloop hneg
  cases y with
  | true =>
    have hr := hneg rfl
    subst hr
    obtain ⟨rfl, rfl⟩ : n = true ∧ z = false := by cases n <;> cases z <;> simp_all
    go_wp2_with (go_at_call 34; refine (cZ _).mono ?_; rintro e W3 ⟨rfl, b3⟩; have h3 := h2.step b3; have bel := h3.bel)
    go_ret
    exact ⟨rfl, h3.bel⟩
  | false =>
    have hr : (E.data.toList).foldl (fun x c => x * 10 + ((c.toNat : Int) - 48)) 0 = R := hloop (by decide)
    clear hloop hneg
    cases n with
    | false =>
      clear hy
      go_upto_region 4 with (fail)
      have e0 := h2.c 0 1 rfl rfl
      have bel := h2.bel
      clear p0 p1 p2
      go_upto_region 5 with (fail)
      have hit1 := World.iter_heap W2 E 0
      have bI := bel.alloc bel.size (.stringIter E 0)
      have hk0 : w.heap.size < W2.heap.size := h2.lt 0 rfl
      go_wp2
      generalize hk : W2.heap.size = k0 at *
      have HK := Lib.hid hk; clear hk
      go_loopg [3] E.size (fun gk sx wx => ∃ (pos : Nat) (x : Int), sx = .int .i64 x ∧ wx.heap[k0]? = some (.stringIter E pos) ∧ Below w.heap.size w wx ∧ (E.data.toList.drop pos).foldl (fun x c => x * 10 + ((c.toNat : Int) - 48)) x = R ∧ E.size ≤ pos + gk ∧ 0 ≤ x ∧ (pos = 0 → x = 0) ∧ (pos = 1 → x ≤ 9) ∧ x ≤ 99 ∧ pos ≤ E.size)
      case atStart => exact ⟨0, 0, rfl, hit1, bI, hr, by omega, by omega, fun _ => rfl, by omega, by omega, by omega⟩
      case round =>
        obtain ⟨pos, x, rfl, hit, hbw, hacc, hfu, hx0, hp0, hp1, hx9, hpos⟩ := hrel
        clear hit1 bI bel e0 hr
        have hsz' : k0 < wr.heap.size := (Array.getElem?_eq_some_iff.1 hit).1
        by_cases hp : pos < E.size
        · obtain ⟨d1, d2⟩ := hd pos hp
          have hnx : ∀ ty, (Instr.next (.pointer (some ⟨k0, 0, none⟩)) true ty).run Tryz.prog wr = _ := fun ty => Lib.run_next_ascii_at wr k0 E pos ty hit hp (by omega)
          have hit2 := Lib.iterAt_heap wr k0 E pos (pos + 1) hit
          have hbw2 := Lib.below_iterAt hbw (k := k0) (by omega) E (pos + 1)
          obtain ⟨f, rfl⟩ : ∃ f, gk = f + 1 := ⟨gk - 1, by omega⟩
          have hdr : E.data.toList.drop pos = (E[pos]'hp) :: E.data.toList.drop (pos + 1) := List.drop_eq_getElem_cons (by rw [← Lib.size_eq]; exact hp)
          rw [hdr, List.foldl_cons] at hacc
          obtain ⟨Q, hQ⟩ : ∃ Q, (E[pos]'hp).toNat = Q := ⟨_, rfl⟩
          rw [hQ] at hnx hacc d1 d2
          have hpp : pos = 0 ∨ pos = 1 := by omega
          have HA := Lib.hid hacc; clear hacc hdr
          have hxb : 0 ≤ x * 10 + ((Q : Int) - 48) ∧ (pos = 0 → x * 10 + ((Q : Int) - 48) ≤ 9) ∧ x * 10 + ((Q : Int) - 48) ≤ 99 := by omega
          go_wp2
          go_roundg f
          case measure => omega
          case rel =>
            exact ⟨pos + 1, x * 10 + ((Q : Int) - 48), rfl, hit2, hbw2, HA.out, by omega, by omega, by omega, by omega, by omega, by omega⟩
        · have hnx : ∀ ty, (Instr.next (.pointer (some ⟨k0, 0, none⟩)) true ty).run Tryz.prog wr = _ := fun ty => Lib.run_next_end_at wr k0 E pos ty hit hp
          have hfin : x = R := by
            rw [List.drop_eq_nil_of_le (by rw [← Lib.size_eq]; omega)] at hacc
            exact hacc
          have HF := Lib.hid hfin; clear hfin hacc
          go_wp2
          go_ret
          exact ⟨dg_int HF.out, hbw⟩
    | true =>
      obtain rfl : z = true := by cases z <;> simp_all
      clear hy
      go_upto_region 4 with (go_at_call 34; refine (cZ _).mono ?_; rintro e W3 ⟨rfl, b3⟩; have h3 := h2.step b3)
      clear b3 h2 cZ
      have e0 := h3.c 0 1 rfl rfl
      have bel := h3.bel
      clear p0 p1 p2
      go_upto_region 5 with (fail)
      have hit1 := World.iter_heap W3 E 0
      have bI := bel.alloc bel.size (.stringIter E 0)
      have hk0 : w.heap.size < W3.heap.size := h3.lt 0 rfl
      go_wp2
      generalize hk : W3.heap.size = k0 at *
      have HK := Lib.hid hk; clear hk
      go_loopg [3] E.size (fun gk sx wx => ∃ (pos : Nat) (x : Int), sx = .int .i64 x ∧ wx.heap[k0]? = some (.stringIter E pos) ∧ Below w.heap.size w wx ∧ (E.data.toList.drop pos).foldl (fun x c => x * 10 + ((c.toNat : Int) - 48)) x = R ∧ E.size ≤ pos + gk ∧ 0 ≤ x ∧ (pos = 0 → x = 0) ∧ (pos = 1 → x ≤ 9) ∧ x ≤ 99 ∧ pos ≤ E.size)
      case atStart => exact ⟨0, 0, rfl, hit1, bI, hr, by omega, by omega, fun _ => rfl, by omega, by omega, by omega⟩
      case round =>
        obtain ⟨pos, x, rfl, hit, hbw, hacc, hfu, hx0, hp0, hp1, hx9, hpos⟩ := hrel
        clear hit1 bI bel e0 hr
        have hsz' : k0 < wr.heap.size := (Array.getElem?_eq_some_iff.1 hit).1
        by_cases hp : pos < E.size
        · obtain ⟨d1, d2⟩ := hd pos hp
          have hnx : ∀ ty, (Instr.next (.pointer (some ⟨k0, 0, none⟩)) true ty).run Tryz.prog wr = _ := fun ty => Lib.run_next_ascii_at wr k0 E pos ty hit hp (by omega)
          have hit2 := Lib.iterAt_heap wr k0 E pos (pos + 1) hit
          have hbw2 := Lib.below_iterAt hbw (k := k0) (by omega) E (pos + 1)
          obtain ⟨f, rfl⟩ : ∃ f, gk = f + 1 := ⟨gk - 1, by omega⟩
          have hdr : E.data.toList.drop pos = (E[pos]'hp) :: E.data.toList.drop (pos + 1) := List.drop_eq_getElem_cons (by rw [← Lib.size_eq]; exact hp)
          rw [hdr, List.foldl_cons] at hacc
          obtain ⟨Q, hQ⟩ : ∃ Q, (E[pos]'hp).toNat = Q := ⟨_, rfl⟩
          rw [hQ] at hnx hacc d1 d2
          have hpp : pos = 0 ∨ pos = 1 := by omega
          have HA := Lib.hid hacc; clear hacc hdr
          have hxb : 0 ≤ x * 10 + ((Q : Int) - 48) ∧ (pos = 0 → x * 10 + ((Q : Int) - 48) ≤ 9) ∧ x * 10 + ((Q : Int) - 48) ≤ 99 := by omega
          go_wp2
          go_roundg f
          case measure => omega
          case rel =>
            exact ⟨pos + 1, x * 10 + ((Q : Int) - 48), rfl, hit2, hbw2, HA.out, by omega, by omega, by omega, by omega, by omega, by omega⟩
        · have hnx : ∀ ty, (Instr.next (.pointer (some ⟨k0, 0, none⟩)) true ty).run Tryz.prog wr = _ := fun ty => Lib.run_next_end_at wr k0 E pos ty hit hp
          have hfin : x = R := by
            rw [List.drop_eq_nil_of_le (by rw [← Lib.size_eq]; omega)] at hacc
            exact hacc
          have HF := Lib.hid hfin; clear hfin hacc
          go_wp2
          go_ret
          exact ⟨dg_int HF.out, hbw⟩
end Go.Proofs.YtajgnkncdkibeaaGreatDoor
namespace Go.Proofs.YtajgnkncdkibeaaGreatDoor
open Go.RowKit
set_option linter.unusedVariables false
set_option linter.unusedSimpArgs false
theorem fixInfo : (Tryz.prog.info? 42).map (·.size) = some 200 := by kernel_rfl
theorem zc_eq : Tryz.zeroCells42 = ((List.range 200).map fun _ => Value.int .i64 0).toArray := by kernel_rfl
theorem zc_size : Tryz.zeroCells42.size = 200 := by kernel_rfl
def fixD (D : List UInt8) (m i p : Nat) : Int := if 100 - m ≤ p ∧ p < 100 - m + i then ((D.getD (p - (100 - m)) 0).toNat : Int) - 48 else 0
def fixA (D : List UInt8) (m i : Nat) : Array Value := ((List.range 200).map fun p => Value.int .i64 (fixD D m i p)).toArray
theorem fixA_size (D : List UInt8) (m i : Nat) : (fixA D m i).size = 200 := by simp [fixA]
theorem fixA_at (D : List UInt8) (m i p : Nat) (h : p < 200) : (fixA D m i)[p]? = some (.int .i64 (fixD D m i p)) := by simp [fixA, h]
theorem fixA_zero (D : List UInt8) (m : Nat) : Tryz.zeroCells42 = fixA D m 0 := by
  have e : fixA D m 0 = ((List.range 200).map fun _ => Value.int .i64 0).toArray := by
    unfold fixA
    congr 1
    refine List.map_congr_left fun p _ => ?_
    unfold fixD
    rw [if_neg (by omega)]
  rw [e]
  exact zc_eq
theorem fixA_set (D : List UInt8) (m i : Nat) (hm : m ≤ 100) (hi : 100 - m + i < 200) : (fixA D m i).setIfInBounds (100 - m + i) (.int .i64 (((D.getD i 0).toNat : Int) - 48)) = fixA D m (i + 1) := by
  apply Array.ext_getElem?
  intro p
  by_cases hp : p < 200
  · rw [fixA_at _ _ _ _ hp, Array.getElem?_setIfInBounds]
    by_cases e : 100 - m + i = p
    · subst e
      rw [if_pos rfl, if_pos (by rw [fixA_size]; exact hp)]
      unfold fixD
      rw [if_pos (by omega)]
      rw [show 100 - m + i - (100 - m) = i by omega]
    · rw [if_neg e, fixA_at _ _ _ _ hp]
      unfold fixD
      by_cases c : 100 - m ≤ p ∧ p < 100 - m + i
      · rw [if_pos c, if_pos (by omega)]
      · rw [if_neg c, if_neg (by omega)]
  · rw [Array.getElem?_eq_none (by rw [Array.size_setIfInBounds, fixA_size]; omega), Array.getElem?_eq_none (by rw [fixA_size]; omega)]
theorem heap_set_same {w : World} {b o : Nat} {cs : Array Value} {t : TypeId} {fr : Nat × Nat} {v : Value} (h : w.heap[b]? = some (.cells cs t fr)) : (w.setCell ⟨b, o, none⟩ v).heap[b]? = some (.cells (cs.setIfInBounds o v) t fr) := by
  simp [World.setCell, Array.getElem?_modify, h]
theorem results_one_cell {fn : Func} {p : Tmp} {ty : TypeId} (h : fn.results = #[.cell p ty]) (tmps : Array Value) (P : Program) (w : World) (a : Addr) (ha : tmps.getD p undef = .pointer (some a)) :
    (results fn tmps).run P w = (loadVar ty a).run P w := by
  have ha' : tmps[p]?.getD undef = .pointer (some a) := by simpa using ha
  simp only [results, h]
  simp [Sem.run_bind, Result.andThen, asAddr]
  rw [ha']
  rfl
set_option maxRecDepth 100000 in
set_option maxHeartbeats 1000000 in
theorem fix_any (n : Bool) (d : ByteArray) (k : Nat) (w : World) (hk : k < d.size) (hs : d.size ≤ 60) (hd : ∀ c ∈ d.data.toList, 48 ≤ c.toNat ∧ c.toNat ≤ 57) :
    Calls Tryz.prog 14 #[decV n d k] w fun e w' => e = .returned (.agg (fixA d.data.toList (d.size - k) d.size)) ∧ Below w.heap.size w w' := by
  unfold decV
  have hl : d.data.toList.length = d.size := (Lib.size_eq d).symm
  have hst := run_storeCells_new (P := Tryz.prog) ((w.alloc (.cells #[.bool n, .string d, .int .i64 k] 29)).alloc (.cells Tryz.zeroCells42 42)) 42 Tryz.zeroCells42 Tryz.zeroCells42 (by rw [zc_size]; exact fixInfo) rfl (by kernel_rfl)
  rw [show ((w.alloc (.cells #[.bool n, .string d, .int .i64 k] 29)).alloc (.cells Tryz.zeroCells42 42)).heap.size = w.heap.size + 1 + 1 by simp] at hst
  have al := fun (X : World) (o : Obj) (j : Nat) (h : j < X.heap.size) => Below.heap_alloc X o j h
  have s1 : (w.alloc (.cells #[.bool n, .string d, .int .i64 k] 29)).heap.size = w.heap.size + 1 := by simp
  have s2 : ((w.alloc (.cells #[.bool n, .string d, .int .i64 k] 29)).alloc (.cells Tryz.zeroCells42 42)).heap.size = w.heap.size + 1 + 1 := by simp
  have hh0 := ((al _ (.cells Tryz.zeroCells42 42) w.heap.size (by rw [s2]; omega)).trans (al _ (.cells Tryz.zeroCells42 42) w.heap.size (by rw [s1]; omega))).trans (heap_alloc_new w (.cells #[.bool n, .string d, .int .i64 k] 29))
  have hh1 : (((w.alloc (.cells #[.bool n, .string d, .int .i64 k] 29)).alloc (.cells Tryz.zeroCells42 42)).alloc (.cells Tryz.zeroCells42 42)).heap[w.heap.size + 1]? = some (.cells Tryz.zeroCells42 42) := (al _ (.cells Tryz.zeroCells42 42) (w.heap.size + 1) (by rw [s2]; omega)).trans (by have := heap_alloc_new (w.alloc (.cells #[.bool n, .string d, .int .i64 k] 29)) (.cells Tryz.zeroCells42 42); rw [s1] at this; exact this)
  have hh2 := heap_alloc_new ((w.alloc (.cells #[.bool n, .string d, .int .i64 k] 29)).alloc (.cells Tryz.zeroCells42 42)) (.cells Tryz.zeroCells42 42)
  rw [s2] at hh2
  conv at hh2 => rhs; rw [fixA_zero d.data.toList (d.size - k)]
  have bA := (((Below.refl w.heap.size w).alloc (Nat.le_refl _) (.cells #[.bool n, .string d, .int .i64 k] 29)).alloc (by simp) (.cells Tryz.zeroCells42 42)).alloc (by rw [s2]; omega) (.cells Tryz.zeroCells42 42)
  have HH := Lib.hid (And.intro hh0 (And.intro hh1 (And.intro hh2 bA)))
  clear s1 s2 al hh0 hh1 hh2 bA
  go_enter Tryz.func14, Tryz.ntmps14
  go_wp2
  go_loopg [4] d.size (fun gk si wx => ∃ i : Nat, si = .int .i64 i ∧ i ≤ d.size ∧ Below w.heap.size w wx ∧ wx.heap[w.heap.size]? = some (.cells #[.bool n, .string d, .int .i64 k] 29 (0, 0)) ∧ wx.heap[w.heap.size + 1]? = some (.cells Tryz.zeroCells42 42 (0, 0)) ∧ wx.heap[w.heap.size + 1 + 1]? = some (.cells (fixA d.data.toList (d.size - k) i) 42 (0, 0)) ∧ d.size ≤ i + gk)
  case atStart => exact ⟨0, rfl, by omega, HH.out.2.2.2, HH.out.1, HH.out.2.1, HH.out.2.2.1, by omega⟩
  case round =>
    obtain ⟨i, rfl, hi, hbw, hB0, hB1, hB2, hfu⟩ := hrel
    have d1 := (Lib.cell_of_heap hB0 1).trans (by rfl : _ = some (.string d))
    have d2 := (Lib.cell_of_heap hB0 2).trans (by rfl : _ = some (.int .i64 (k : Int)))
    clear HH
    by_cases hp : i < d.size
    · obtain ⟨f, rfl⟩ : ∃ f, gk = f + 1 := ⟨gk - 1, by omega⟩
      have hidx : ((100 : Int) - ((d.size : Int) - k) + i).toNat = 100 - (d.size - k) + i := by omega
      have hi0 : (0 : Int) ≤ (100 : Int) - ((d.size : Int) - k) + i := by omega
      have hi2 : (100 : Int) - ((d.size : Int) - k) + i < 200 := by omega
      have f0 := (Lib.cell_of_heap hB2 (100 - (d.size - k) + i)).trans (fixA_at _ _ _ _ (by omega))
      have f1 := Lib.frozen_of_heap hB2 (100 - (d.size - k) + i)
      go_wp2
      go_still_tail 15, (by kernel_rfl)
      change wpList _ _ _ _ _ wr.drew
      have hdi := hd (d[i]'hp) (List.getElem_mem (by rw [← Lib.size_eq]; exact hp) : _ ∈ d.data.toList)
      have hDi : d.data.toList.getD i 0 = d[i]'hp := by rw [List.getD_eq_getElem?_getD, List.getElem?_eq_getElem (by omega)]; rfl
      have hv : (((d[i]'hp).toNat : Int) - 48) = ((d.data.toList.getD i 0).toNat : Int) - 48 := by rw [hDi]
      have HV := Lib.hid hv; clear hv hDi
      go_wp2
      go_roundg f
      case measure => omega
      case rel =>
        refine ⟨i + 1, by go_num, by omega, (hbw.setCell (by show w.heap.size ≤ w.heap.size + 1 + 1; omega) _).drew, ?_, ?_, ?_, by omega⟩
        · exact (Below.heap_setCell wr _ _ _ (by show w.heap.size ≠ w.heap.size + 1 + 1; omega)).trans hB0
        · exact (Below.heap_setCell wr _ _ _ (by simp)).trans hB1
        · rw [HV.out, ← fixA_set _ _ _ (by omega) (by omega)]
          exact heap_set_same hB2
    · obtain rfl : i = d.size := by omega
      have hsc := run_storeCells_from (P := Tryz.prog) (w.heap.size + 1) 42 (fixA d.data.toList (d.size - k) d.size).toList 0 Tryz.zeroCells42 wr hB1 (by rw [Array.length_toList, fixA_size, zc_size]) (fun v hv => by
        simp [fixA] at hv
        obtain ⟨p, _, rfl⟩ := hv
        rfl)
      rw [show ((Tryz.zeroCells42.toList.take 0 ++ (fixA d.data.toList (d.size - k) d.size).toList).toArray) = fixA d.data.toList (d.size - k) d.size by simp] at hsc
      go_wp2
      refine wp_load_mid (P := Tryz.prog) 42 _ rfl (w.heap.size + 1 + 1) 0 rfl (fixA d.data.toList (d.size - k) d.size).toList _ (fun j v hv => by rw [Nat.zero_add, Lib.cell_of_heap hB2]; simpa using hv) Tryz.underlying42 rfl (by rw [Array.length_toList, fixA_size]; exact fixInfo) ?_
      go_wp2
      have hrow : (wr.setRow (w.heap.size + 1) (fixA d.data.toList (d.size - k) d.size)).heap[w.heap.size + 1]? = some (.cells (fixA d.data.toList (d.size - k) d.size) 42 (0, 0)) := by simp [World.setRow, Array.getElem?_modify, hB1]
      have hld := run_loadVar_row (P := Tryz.prog) _ _ 42 42 _ (0, 0) _ hrow Tryz.underlying42 rfl (by rw [fixA_size]; exact fixInfo)
      refine bodyPost_ret (v := .agg (fixA d.data.toList (d.size - k) d.size)) ((results_one_cell Tryz.results14 _ _ _ _ rfl).trans hld) rfl ⟨rfl, ?_⟩
      exact ⟨hbw.os, hbw.tape, hbw.output, by simpa [World.setRow] using hbw.size, fun j hj => by
        have := hbw.block j hj
        simp [World.setRow, Array.getElem?_modify]
        rw [if_neg (by omega)]
        exact this⟩
end Go.Proofs.YtajgnkncdkibeaaGreatDoor
namespace Go.Proofs.YtajgnkncdkibeaaGreatDoor
open Go.RowKit
set_option linter.unusedVariables false
set_option linter.unusedSimpArgs false
theorem run_index_fix (c : Array Value) (i : Nat) (x : Int) (hc : c.size = 200) (h : c[i]? = some (.int .i64 x)) (hi : i < 200) (W : World) :
    (Instr.index 42 (.agg c) (.int .i64 (i : Int))).run Tryz.prog W = .ok (.int .i64 x) W := by
  have h2 : c[i]! = .int .i64 x := by rw [Array.getElem!_eq_getD, Array.getD_eq_getD_getElem?, h]; rfl
  simp [Instr.index, run_underlying Tryz.underlying42, asIntOf, go_sem, hi]
  rw [h]
  rfl
theorem fixD_bd {D : List UInt8} (hd : ∀ c ∈ D, 48 ≤ c.toNat ∧ c.toNat ≤ 57) (m p i : Nat) (hi : i ≤ D.length) : 0 ≤ fixD D m i p ∧ fixD D m i p ≤ 9 := by
  unfold fixD
  split
  · rename_i h
    have hlt : p - (100 - m) < D.length := by omega
    have e : D.getD (p - (100 - m)) 0 = D[p - (100 - m)] := by rw [List.getD_eq_getElem?_getD, List.getElem?_eq_getElem hlt]; rfl
    have := hd _ (List.getElem_mem hlt)
    rw [e]
    omega
  · omega
end Go.Proofs.YtajgnkncdkibeaaGreatDoor
namespace Go.Proofs.YtajgnkncdkibeaaGreatDoor
open Go.RowKit
set_option linter.unusedVariables false
set_option linter.unusedSimpArgs false
def bigB (f : Nat → Int) : Nat → Bool
  | 0 => false
  | i + 1 => bigB f i || (decide (0 < f i) && (decide (i < 98) || decide (99 < i)))
theorem bigB_le (f : Nat → Int) {i j : Nat} (h : bigB f i = true) (hij : i ≤ j) : bigB f j = true := by
  induction hij with
  | refl => exact h
  | step _ ih => unfold bigB; rw [ih]; rfl
def whoV (n : Bool) (f : Nat → Int) : Int := if bigB f 200 = true then -1 else if (n && decide (0 < 10 * f 98 + f 99)) = true then -1 else 10 * f 98 + f 99
set_option maxRecDepth 100000 in
set_option maxHeartbeats 4000000 in
theorem whole12_any (n : Bool) (d : ByteArray) (k : Nat) (w : World) (hk : k < d.size) (hs : d.size ≤ 60) (hd : ∀ c ∈ d.data.toList, 48 ≤ c.toNat ∧ c.toNat ≤ 57) :
    Calls Tryz.prog 20 #[decV n d k] w fun e w' => e = .returned (.int .i64 (whoV n (fixD d.data.toList (d.size - k) d.size))) ∧ Below w.heap.size w w' := by
  have hbd := fun p => fixD_bd hd (d.size - k) p d.size (by rw [Lib.size_eq]; exact Nat.le_refl _)
  have cF := fun W => fix_any n d k W hk hs hd
  have h0 := Own.one w (.cells #[.bool n, .string d, .int .i64 k] 29)
  unfold decV at *
  have hix := fun i (hi : i < 200) W => run_index_fix _ i _ (fixA_size d.data.toList (d.size - k) d.size) (fixA_at _ _ _ _ hi) hi W
  have hsz := fixA_size d.data.toList (d.size - k) d.size
  have hone : (fixA d.data.toList (d.size - k) d.size).all (·.oneCell') = true := by simp [fixA, Value.oneCell']
  have hat := fun i (hi : i < 200) => fixA_at d.data.toList (d.size - k) d.size i hi
  generalize fixD d.data.toList (d.size - k) d.size = F at *
  generalize fixA d.data.toList (d.size - k) d.size = A at *
  obtain ⟨R, hR⟩ : ∃ R, whoV n F = R := ⟨_, rfl⟩
  rw [hR]
  have r1 : bigB F 200 = true → R = -1 := fun h => by rw [← hR]; unfold whoV; rw [if_pos h]
  have r2 : bigB F 200 = false → (n && decide (0 < 10 * F 98 + F 99)) = true → R = -1 := fun h h2 => by rw [← hR]; unfold whoV; rw [if_neg (by rw [h]; decide), if_pos h2]
  have r3 : bigB F 200 = false → (n && decide (0 < 10 * F 98 + F 99)) = false → R = 10 * F 98 + F 99 := fun h h2 => by rw [← hR]; unfold whoV; rw [if_neg (by rw [h]; decide), if_neg (by rw [h2]; decide)]
  clear hR
  have HR1 := Lib.hid r1; clear r1
  have HR2 := Lib.hid r2; clear r2
  have HR3 := Lib.hid r3; clear r3
  go_enter Tryz.func20, Tryz.ntmps20
  go_upto_region 1 with (fail)
  generalize w.alloc (.cells #[.bool n, .string d, .int .i64 k] 29) = W0 at *
  have p0 := h0.c 0 0 rfl rfl
  have p1 := h0.c 0 1 rfl rfl
  have p2 := h0.c 0 2 rfl rfl
  go_wp2_with (first | (go_at_call 14; (with_reducible refine (cF _).mono ?_); rintro e W1 ⟨rfl, b1⟩; have h1 := h0.step b1; have hst := run_storeCells_new (P := Tryz.prog) W1 42 Tryz.zeroCells42 A (by rw [hsz]; exact fixInfo) (by rw [hsz, zc_size]) hone))
  have h2 := h1.alloc (.cells A 42)
  have hnew := h2.at (i := 0) rfl
  generalize (W1.alloc (.cells A 42)) = W2 at *
  generalize W1.heap.size = g at *
  clear hst b1 cF h1 h0 p0 p1 p2
  refine wp_load_mid (P := Tryz.prog) 42 _ rfl g 0 rfl A.toList _ (fun j v hv => by rw [Nat.zero_add, Lib.cell_of_heap hnew]; simpa using hv) Tryz.underlying42 rfl (by rw [Array.length_toList, hsz]; exact fixInfo) ?_
  go_wp2
  have HO := Lib.hid h2; clear h2 hnew
  have Hat := Lib.hid hat; clear hat
  go_loopg [10] 200 (fun gk v10 wx => ∃ i : Nat, v10 = .int .i64 i ∧ bigB F i = false ∧ i ≤ 200 ∧ 200 ≤ i + gk ∧ Own w [(g, .cells A 42 (0, 0)), (w.heap.size, .cells #[.bool n, .string d, .int .i64 k] 29 (0, 0))] wx)
  case atStart => exact ⟨0, rfl, rfl, by omega, by omega, HO.out⟩
  case round =>
    obtain ⟨i, rfl, hbi, hi, hfu, hO⟩ := hrel
    clear HO
    have bel := hO.bel
    by_cases hp : i < 200
    · obtain ⟨f, rfl⟩ : ∃ f, gk = f + 1 := ⟨gk - 1, by omega⟩
      have hx := hix i hp
      have hm1 : bigB F (i + 1) = (bigB F i || (decide (0 < F i) && (decide (i < 98) || decide (99 < i)))) := rfl
      rw [hbi, Bool.false_or] at hm1
      have HB := Lib.hid hbi; clear hbi
      by_cases f1 : 0 < F i
      · have e1 : decide (F i > 0) = true := decide_eq_true f1
        rw [decide_eq_true f1, Bool.true_and] at hm1
        by_cases c1 : i < 98
        · have e2 : decide ((i : Int) < 98) = true := decide_eq_true (by omega)
          rw [decide_eq_true c1, Bool.true_or] at hm1
          have hr := HR1.out (bigB_le F hm1 (by omega))
          clear HR1 HR2 HR3 hm1
          subst hr
          go_wp2
          go_ret
          exact ⟨rfl, bel⟩
        · have e2 : decide ((i : Int) < 98) = false := decide_eq_false (by omega)
          rw [decide_eq_false c1, Bool.false_or] at hm1
          by_cases c2 : 99 < i
          · have e3 : decide ((i : Int) > 99) = true := decide_eq_true (by omega)
            rw [decide_eq_true c2] at hm1
            have hr := HR1.out (bigB_le F hm1 (by omega))
            clear HR1 HR2 HR3 hm1
            subst hr
            go_wp2
            go_ret
            exact ⟨rfl, bel⟩
          · have e3 : decide ((i : Int) > 99) = false := decide_eq_false (by omega)
            rw [decide_eq_false c2] at hm1
            have HM := Lib.hid hm1; clear hm1
            go_wp2
            go_roundg f
            case measure => omega
            case rel => exact ⟨i + 1, by go_num, HM.out, by omega, by omega, hO⟩
      · have e1 : decide (F i > 0) = false := decide_eq_false f1
        rw [decide_eq_false f1, Bool.false_and] at hm1
        have HM := Lib.hid hm1; clear hm1
        go_wp2
        go_roundg f
        case measure => omega
        case rel => exact ⟨i + 1, by go_num, HM.out, by omega, by omega, hO⟩
    · obtain rfl : i = 200 := by omega
      have c98 := hO.c 0 98 rfl (Hat.out 98 (by omega))
      have c99 := hO.c 0 99 rfl (Hat.out 99 (by omega))
      have q0 := hO.c 1 0 rfl rfl
      obtain ⟨h98, h98'⟩ := hbd 98
      obtain ⟨h99, h99'⟩ := hbd 99
      have HB := Lib.hid hbi; clear hbi
      cases n with
      | false =>
        have hr := HR3.out HB.out rfl
        clear HR1 HR2 HR3
        subst hr
        go_wp2
        go_ret
        exact ⟨rfl, bel⟩
      | true =>
        by_cases hz : 0 < 10 * F 98 + F 99
        · have hr := HR2.out HB.out (by rw [Bool.true_and]; exact decide_eq_true hz)
          have e1 : decide (10 * F 98 + F 99 > 0) = true := decide_eq_true hz
          clear HR1 HR2 HR3
          subst hr
          go_wp2
          go_ret
          exact ⟨rfl, bel⟩
        · have hr := HR3.out HB.out (by rw [Bool.true_and]; exact decide_eq_false hz)
          have e1 : decide (10 * F 98 + F 99 > 0) = false := decide_eq_false hz
          clear HR1 HR2 HR3
          subst hr
          go_wp2
          go_ret
          exact ⟨rfl, bel⟩
end Go.Proofs.YtajgnkncdkibeaaGreatDoor
namespace Go.Proofs.YtajgnkncdkibeaaGreatDoor
open Go.RowKit Go.Proofs.YtajgnkncdkibeaaGreatDoorW.PrintWords Go.Proofs.YtajgnkncdkibeaaGreatDoorW.PrintLast
set_option linter.unusedVariables false
set_option linter.unusedSimpArgs false
def shape_one.T : Bool × List (List Nat × List Nat) := (true, [([], []), ([], []), ([1], [1]), ([0, 2], [0, 2]), ([], []), ([4], [4]), ([3, 5, 3], [3, 5]), ([], []), ([7], [7]), ([6, 8, 6], [6, 8]), ([9, 9, 0, 1, 2, 3, 4, 5, 6, 7, 8, 9], [9])])
def shape_one.B : List Nat := [0, 0, 2, 7, 0, 16, 63, 0, 128, 511, 1023]
theorem shape_one.tab : rtab .any (opsOf Tryz.f12 1) = shape_one.T := by kernel_rfl
theorem shape_one.bits : waitsOk shape_one.T.2 shape_one.B = true := by kernel_rfl
set_option maxRecDepth 100000 in
set_option maxHeartbeats 4000000 in
theorem shape_one (w0 : World) (mi mf xf : Int) (pl rk n : Bool) (D D1 D2 D3 : ByteArray) (k k1 k2 k3 : Int) (cR : ∀ W, Calls Tryz.prog 13 #[.agg #[.bool n, .string D, .int .i64 k], .int .i64 xf] W fun e w' => e = .returned (.agg #[.bool n, .string D1, .int .i64 k1]) ∧ Below W.heap.size W w') (cT : ∀ W, Calls Tryz.prog 22 #[.agg #[.bool n, .string D1, .int .i64 k1], .int .i64 mf] W fun e w' => e = .returned (.agg #[.bool n, .string D2, .int .i64 k2]) ∧ Below W.heap.size W w') (cP : ∀ W, Calls Tryz.prog 23 #[.agg #[.bool n, .string D2, .int .i64 k2], .int .i64 mf] W fun e w' => e = .returned (.agg #[.bool n, .string D3, .int .i64 k3]) ∧ Below W.heap.size W w') (a0 : Act) (s2 : a0.tmps[2]? = some (.pointer (some ⟨w0.heap.size, 0, none⟩))) (s3 : a0.tmps[3]? = some (.pointer (some ⟨w0.heap.size + 1, 0, none⟩))) (hsz : a0.tmps.size = Tryz.f12.ntmps) (W : World) (hI : Sh w0 mi mf xf pl rk n (if (fun _ => false) 10 = true then D3 else D) (if (fun _ => false) 10 = true then k3 else k) false ⟨#[]⟩ 0 W.drew) (Q : Exit → Act → World → Prop) (hend : ∀ (a9 : Act) w', Sh w0 mi mf xf pl rk n (if (fun _ => true) 10 = true then D3 else D) (if (fun _ => true) 10 = true then k3 else k) false ⟨#[]⟩ 0 w' → a9 = putSel a0 (fun _ => true) [(0, 6, .agg #[.bool n, .string D, .int .i64 k]), (1, 7, .pointer (some ⟨w0.heap.size, 2, none⟩)), (2, 8, .int .i64 xf), (3, 9, .agg #[.bool n, .string D1, .int .i64 k1]), (4, 10, .pointer (some ⟨w0.heap.size, 1, none⟩)), (5, 11, .int .i64 mf), (6, 12, .agg #[.bool n, .string D2, .int .i64 k2]), (7, 13, .pointer (some ⟨w0.heap.size, 1, none⟩)), (8, 14, .int .i64 mf), (9, 15, .agg #[.bool n, .string D3, .int .i64 k3])] → a9.defers = a0.defers → Q .normal a9 w') :
    (Code.region 1 #[{ dst := some 6, op := Op.load 29 (Operand.tmp 3), type := 29, pos := "number.go:75", after := #[], guard := none }, { dst := some 7, op := Op.fieldAddr 26 (Operand.tmp 2) 2, type := 0, pos := "number.go:75", after := #[], guard := none }, { dst := some 8, op := Op.load 3 (Operand.tmp 7), type := 3, pos := "number.go:75", after := #[{ on := 1, ground := Ground.data }], guard := none }, { dst := some 9, op := Op.call { callee := Callee.value (Operand.func 13), args := #[Operand.tmp 6, Operand.tmp 8], argTypes := #[29, 3] }, type := 29, pos := "number.go:75", after := #[{ on := 0, ground := Ground.data }, { on := 2, ground := Ground.data }], guard := none }, { dst := some 10, op := Op.fieldAddr 26 (Operand.tmp 2) 1, type := 0, pos := "number.go:75", after := #[], guard := none }, { dst := some 11, op := Op.load 3 (Operand.tmp 10), type := 3, pos := "number.go:75", after := #[{ on := 4, ground := Ground.data }], guard := none }, { dst := some 12, op := Op.call { callee := Callee.value (Operand.func 22), args := #[Operand.tmp 9, Operand.tmp 11], argTypes := #[29, 3] }, type := 29, pos := "number.go:75", after := #[{ on := 3, ground := Ground.data }, { on := 5, ground := Ground.data }, { on := 3, ground := Ground.chain }], guard := none }, { dst := some 13, op := Op.fieldAddr 26 (Operand.tmp 2) 1, type := 0, pos := "number.go:75", after := #[], guard := none }, { dst := some 14, op := Op.load 3 (Operand.tmp 13), type := 3, pos := "number.go:75", after := #[{ on := 7, ground := Ground.data }], guard := none }, { dst := some 15, op := Op.call { callee := Callee.value (Operand.func 23), args := #[Operand.tmp 12, Operand.tmp 14], argTypes := #[29, 3] }, type := 29, pos := "number.go:75", after := #[{ on := 6, ground := Ground.data }, { on := 8, ground := Ground.data }, { on := 6, ground := Ground.chain }], guard := none }, { dst := none, op := Op.store 29 (Operand.tmp 3) (Operand.tmp 15), type := 0, pos := "number.go:75", after := #[{ on := 9, ground := Ground.data }, { on := 9, ground := Ground.chain }, { on := 0, ground := Ground.phase }, { on := 1, ground := Ground.phase }, { on := 2, ground := Ground.phase }, { on := 3, ground := Ground.phase }, { on := 4, ground := Ground.phase }, { on := 5, ground := Ground.phase }, { on := 6, ground := Ground.phase }, { on := 7, ground := Ground.phase }, { on := 8, ground := Ground.phase }, { on := 9, ground := Ground.phase }], guard := none }] true).wp Tryz.prog Q a0 W := by
  refine start_ (n := 11) (S := fun w' => True) (ds := []) #[false, false, false, false, false, false, false, false, false, false, false] (by kernel_rfl) rfl rfl trivial (fun hHeld => ?_)
  refine with_tabW shape_one.tab shape_one.bits (fun HT_ HW_ => ?_)
  refine inv_at [0, 1, 2, 3, 4, 5, 6, 7, 8, 9, 10] (fun a0_ b a w' => a = putSel a0_ b [(0, 6, .agg #[.bool n, .string D, .int .i64 k]), (1, 7, .pointer (some ⟨w0.heap.size, 2, none⟩)), (2, 8, .int .i64 xf), (3, 9, .agg #[.bool n, .string D1, .int .i64 k1]), (4, 10, .pointer (some ⟨w0.heap.size, 1, none⟩)), (5, 11, .int .i64 mf), (6, 12, .agg #[.bool n, .string D2, .int .i64 k2]), (7, 13, .pointer (some ⟨w0.heap.size, 1, none⟩)), (8, 14, .int .i64 mf), (9, 15, .agg #[.bool n, .string D3, .int .i64 k3])] ∧ (Sh w0 mi mf xf pl rk n (if b 10 = true then D3 else D) (if b 10 = true then k3 else k) false ⟨#[]⟩ 0 w')) HT_.out HW_.out (by kernel_rfl) (by kernel_rfl) ?_ ?_ ?_
  · exact ⟨(by simp only [putSel, Bool.false_eq_true, if_false]), hI⟩
  · clear hI hend hHeld
    refine steps_cons ?_ ?_
    · rintro b a w' ⟨ha, hI⟩ hb_ hon hoff
      refine ⟨_, rfl, fun K hK => ?_⟩
      have e3 : a.tmps[3]? = some (.pointer (some ⟨w0.heap.size + 1, 0, none⟩)) := by rw [ha]; exact (putSel_off rfl).trans s3
      replace ha := Aside0.mk ha
      obtain ⟨p0, p1, p2, p3, p4, p5⟩ := hI.get
      have z0 := hI.fz 0
      have z1 := hI.fz 1
      have z2 := hI.fz 2
      rw [if_neg (by rw [hoff 10 (by kernel_rfl)]; decide)] at p4 p5
      refine value_ (w1 := w') (v := .agg #[.bool n, .string D, .int .i64 k]) (by rfl) rfl ?_ ?_
      · go_simp; try rfl
        all_goals (try (simp only [IntKind.wrap_i64]; omega))
      exact hK.out _ _ ⟨(by rw [ha.out]; exact putSel_upk 0 hb_ rfl rfl rfl), hI⟩
    refine steps_cons ?_ ?_
    · rintro b a w' ⟨ha, hI⟩ hb_ hon hoff
      refine ⟨_, rfl, fun K hK => ?_⟩
      have e2 : a.tmps[2]? = some (.pointer (some ⟨w0.heap.size, 0, none⟩)) := by rw [ha]; exact (putSel_off rfl).trans s2
      replace ha := Aside0.mk ha
      obtain ⟨p0, p1, p2, p3, p4, p5⟩ := hI.get
      have z0 := hI.fz 0
      have z1 := hI.fz 1
      have z2 := hI.fz 2
      refine value_ (w1 := w') (v := .pointer (some ⟨w0.heap.size, 2, none⟩)) (by rfl) rfl ?_ ?_
      · go_simp; try rfl
        all_goals (try (simp only [IntKind.wrap_i64]; omega))
      exact hK.out _ _ ⟨(by rw [ha.out]; exact putSel_upk 1 hb_ rfl rfl rfl), hI⟩
    refine steps_cons ?_ ?_
    · rintro b a w' ⟨ha, hI⟩ hb_ hon hoff
      refine ⟨_, rfl, fun K hK => ?_⟩
      have e7 : a.tmps[7]? = some (.pointer (some ⟨w0.heap.size, 2, none⟩)) := by rw [ha]; exact putSel_on (e := (1, 7, .pointer (some ⟨w0.heap.size, 2, none⟩))) 1 rfl rfl (hon 1 (by kernel_rfl)) (by rw [hsz]; rfl)
      replace ha := Aside0.mk ha
      obtain ⟨p0, p1, p2, p3, p4, p5⟩ := hI.get
      have z0 := hI.fz 0
      have z1 := hI.fz 1
      have z2 := hI.fz 2
      refine value_ (w1 := w') (v := .int .i64 xf) (by rfl) rfl ?_ ?_
      · go_simp; try rfl
        all_goals (try (simp only [IntKind.wrap_i64]; omega))
      exact hK.out _ _ ⟨(by rw [ha.out]; exact putSel_upk 2 hb_ rfl rfl rfl), hI⟩
    refine steps_cons ?_ ?_
    · rintro b a w' ⟨ha, hI⟩ hb_ hon hoff
      refine ⟨_, rfl, fun K hK => ?_⟩
      have e6 : a.tmps[6]? = some (.agg #[.bool n, .string D, .int .i64 k]) := by rw [ha]; exact putSel_on (e := (0, 6, .agg #[.bool n, .string D, .int .i64 k])) 0 rfl rfl (hon 0 (by kernel_rfl)) (by rw [hsz]; rfl)
      have e8 : a.tmps[8]? = some (.int .i64 xf) := by rw [ha]; exact putSel_on (e := (2, 8, .int .i64 xf)) 2 rfl rfl (hon 2 (by kernel_rfl)) (by rw [hsz]; rfl)
      replace ha := Aside0.mk ha
      obtain ⟨p0, p1, p2, p3, p4, p5⟩ := hI.get
      have z0 := hI.fz 0
      have z1 := hI.fz 1
      have z2 := hI.fz 2
      refine goes_ Tryz.func13 (by kernel_rfl) rfl #[.agg #[.bool n, .string D, .int .i64 k], .int .i64 xf] (by rfl) rfl rfl (by first | (simp only [List.map_toArray, List.map_cons, List.map_nil, Act.eval, Array.getD_eq_getD_getElem?, Option.getD_some, e6, e8]; done) | (simp only [List.map_toArray, List.map_cons, List.map_nil, Act.eval, Array.getD_eq_getD_getElem?, Option.getD_some, e6, e8]; rfl)) ?_
      refine (cR w').mono ?_
      rintro e w1 ⟨rfl, b1⟩; have hI1 := hI.step b1
      exact ⟨_, rfl, hK.out _ _ ⟨(by rw [ha.out]; exact putSel_upk 3 hb_ rfl rfl rfl), hI1⟩⟩
    refine steps_cons ?_ ?_
    · rintro b a w' ⟨ha, hI⟩ hb_ hon hoff
      refine ⟨_, rfl, fun K hK => ?_⟩
      have e2 : a.tmps[2]? = some (.pointer (some ⟨w0.heap.size, 0, none⟩)) := by rw [ha]; exact (putSel_off rfl).trans s2
      replace ha := Aside0.mk ha
      obtain ⟨p0, p1, p2, p3, p4, p5⟩ := hI.get
      have z0 := hI.fz 0
      have z1 := hI.fz 1
      have z2 := hI.fz 2
      refine value_ (w1 := w') (v := .pointer (some ⟨w0.heap.size, 1, none⟩)) (by rfl) rfl ?_ ?_
      · go_simp; try rfl
        all_goals (try (simp only [IntKind.wrap_i64]; omega))
      exact hK.out _ _ ⟨(by rw [ha.out]; exact putSel_upk 4 hb_ rfl rfl rfl), hI⟩
    refine steps_cons ?_ ?_
    · rintro b a w' ⟨ha, hI⟩ hb_ hon hoff
      refine ⟨_, rfl, fun K hK => ?_⟩
      have e10 : a.tmps[10]? = some (.pointer (some ⟨w0.heap.size, 1, none⟩)) := by rw [ha]; exact putSel_on (e := (4, 10, .pointer (some ⟨w0.heap.size, 1, none⟩))) 4 rfl rfl (hon 4 (by kernel_rfl)) (by rw [hsz]; rfl)
      replace ha := Aside0.mk ha
      obtain ⟨p0, p1, p2, p3, p4, p5⟩ := hI.get
      have z0 := hI.fz 0
      have z1 := hI.fz 1
      have z2 := hI.fz 2
      refine value_ (w1 := w') (v := .int .i64 mf) (by rfl) rfl ?_ ?_
      · go_simp; try rfl
        all_goals (try (simp only [IntKind.wrap_i64]; omega))
      exact hK.out _ _ ⟨(by rw [ha.out]; exact putSel_upk 5 hb_ rfl rfl rfl), hI⟩
    refine steps_cons ?_ ?_
    · rintro b a w' ⟨ha, hI⟩ hb_ hon hoff
      refine ⟨_, rfl, fun K hK => ?_⟩
      have e9 : a.tmps[9]? = some (.agg #[.bool n, .string D1, .int .i64 k1]) := by rw [ha]; exact putSel_on (e := (3, 9, .agg #[.bool n, .string D1, .int .i64 k1])) 3 rfl rfl (hon 3 (by kernel_rfl)) (by rw [hsz]; rfl)
      have e11 : a.tmps[11]? = some (.int .i64 mf) := by rw [ha]; exact putSel_on (e := (5, 11, .int .i64 mf)) 5 rfl rfl (hon 5 (by kernel_rfl)) (by rw [hsz]; rfl)
      replace ha := Aside0.mk ha
      obtain ⟨p0, p1, p2, p3, p4, p5⟩ := hI.get
      have z0 := hI.fz 0
      have z1 := hI.fz 1
      have z2 := hI.fz 2
      refine goes_ Tryz.func22 (by kernel_rfl) rfl #[.agg #[.bool n, .string D1, .int .i64 k1], .int .i64 mf] (by rfl) rfl rfl (by first | (simp only [List.map_toArray, List.map_cons, List.map_nil, Act.eval, Array.getD_eq_getD_getElem?, Option.getD_some, e9, e11]; done) | (simp only [List.map_toArray, List.map_cons, List.map_nil, Act.eval, Array.getD_eq_getD_getElem?, Option.getD_some, e9, e11]; rfl)) ?_
      refine (cT w').mono ?_
      rintro e w1 ⟨rfl, b1⟩; have hI1 := hI.step b1
      exact ⟨_, rfl, hK.out _ _ ⟨(by rw [ha.out]; exact putSel_upk 6 hb_ rfl rfl rfl), hI1⟩⟩
    refine steps_cons ?_ ?_
    · rintro b a w' ⟨ha, hI⟩ hb_ hon hoff
      refine ⟨_, rfl, fun K hK => ?_⟩
      have e2 : a.tmps[2]? = some (.pointer (some ⟨w0.heap.size, 0, none⟩)) := by rw [ha]; exact (putSel_off rfl).trans s2
      replace ha := Aside0.mk ha
      obtain ⟨p0, p1, p2, p3, p4, p5⟩ := hI.get
      have z0 := hI.fz 0
      have z1 := hI.fz 1
      have z2 := hI.fz 2
      refine value_ (w1 := w') (v := .pointer (some ⟨w0.heap.size, 1, none⟩)) (by rfl) rfl ?_ ?_
      · go_simp; try rfl
        all_goals (try (simp only [IntKind.wrap_i64]; omega))
      exact hK.out _ _ ⟨(by rw [ha.out]; exact putSel_upk 7 hb_ rfl rfl rfl), hI⟩
    refine steps_cons ?_ ?_
    · rintro b a w' ⟨ha, hI⟩ hb_ hon hoff
      refine ⟨_, rfl, fun K hK => ?_⟩
      have e13 : a.tmps[13]? = some (.pointer (some ⟨w0.heap.size, 1, none⟩)) := by rw [ha]; exact putSel_on (e := (7, 13, .pointer (some ⟨w0.heap.size, 1, none⟩))) 7 rfl rfl (hon 7 (by kernel_rfl)) (by rw [hsz]; rfl)
      replace ha := Aside0.mk ha
      obtain ⟨p0, p1, p2, p3, p4, p5⟩ := hI.get
      have z0 := hI.fz 0
      have z1 := hI.fz 1
      have z2 := hI.fz 2
      refine value_ (w1 := w') (v := .int .i64 mf) (by rfl) rfl ?_ ?_
      · go_simp; try rfl
        all_goals (try (simp only [IntKind.wrap_i64]; omega))
      exact hK.out _ _ ⟨(by rw [ha.out]; exact putSel_upk 8 hb_ rfl rfl rfl), hI⟩
    refine steps_cons ?_ ?_
    · rintro b a w' ⟨ha, hI⟩ hb_ hon hoff
      refine ⟨_, rfl, fun K hK => ?_⟩
      have e12 : a.tmps[12]? = some (.agg #[.bool n, .string D2, .int .i64 k2]) := by rw [ha]; exact putSel_on (e := (6, 12, .agg #[.bool n, .string D2, .int .i64 k2])) 6 rfl rfl (hon 6 (by kernel_rfl)) (by rw [hsz]; rfl)
      have e14 : a.tmps[14]? = some (.int .i64 mf) := by rw [ha]; exact putSel_on (e := (8, 14, .int .i64 mf)) 8 rfl rfl (hon 8 (by kernel_rfl)) (by rw [hsz]; rfl)
      replace ha := Aside0.mk ha
      obtain ⟨p0, p1, p2, p3, p4, p5⟩ := hI.get
      have z0 := hI.fz 0
      have z1 := hI.fz 1
      have z2 := hI.fz 2
      refine goes_ Tryz.func23 (by kernel_rfl) rfl #[.agg #[.bool n, .string D2, .int .i64 k2], .int .i64 mf] (by rfl) rfl rfl (by first | (simp only [List.map_toArray, List.map_cons, List.map_nil, Act.eval, Array.getD_eq_getD_getElem?, Option.getD_some, e12, e14]; done) | (simp only [List.map_toArray, List.map_cons, List.map_nil, Act.eval, Array.getD_eq_getD_getElem?, Option.getD_some, e12, e14]; rfl)) ?_
      refine (cP w').mono ?_
      rintro e w1 ⟨rfl, b1⟩; have hI1 := hI.step b1
      exact ⟨_, rfl, hK.out _ _ ⟨(by rw [ha.out]; exact putSel_upk 9 hb_ rfl rfl rfl), hI1⟩⟩
    refine steps_cons ?_ ?_
    · rintro b a w' ⟨ha, hI⟩ hb_ hon hoff
      refine ⟨_, rfl, fun K hK => ?_⟩
      have e3 : a.tmps[3]? = some (.pointer (some ⟨w0.heap.size + 1, 0, none⟩)) := by rw [ha]; exact (putSel_off rfl).trans s3
      have e15 : a.tmps[15]? = some (.agg #[.bool n, .string D3, .int .i64 k3]) := by rw [ha]; exact putSel_on (e := (9, 15, .agg #[.bool n, .string D3, .int .i64 k3])) 9 rfl rfl (hon 9 (by kernel_rfl)) (by rw [hsz]; rfl)
      replace ha := Aside0.mk ha
      obtain ⟨p0, p1, p2, p3, p4, p5⟩ := hI.get
      have z0 := hI.fz 0
      have z1 := hI.fz 1
      have z2 := hI.fz 2
      refine skip_ (w1 := ((w'.setCell ⟨w0.heap.size + 1, 0, none⟩ (.bool n)).setCell ⟨w0.heap.size + 1, 1, none⟩ (.string D3)).setCell ⟨w0.heap.size + 1, 2, none⟩ (.int .i64 k3)) (by rfl) rfl ?_ ?_
      · go_simp
      exact hK.out _ _ ⟨(by rw [ha.out]; exact (putSel_same rfl).symm), hI.put n D3 k3⟩
    exact steps_nil
  rintro b a w1 hall ⟨ha, hI1⟩
  simp only [hall 10 (by kernel_rfl)] at hI1
  exact hend a w1 hI1 (by rw [ha]; simp only [putSel, if_true, hall 0 (by kernel_rfl), hall 1 (by kernel_rfl), hall 2 (by kernel_rfl), hall 3 (by kernel_rfl), hall 4 (by kernel_rfl), hall 5 (by kernel_rfl), hall 6 (by kernel_rfl), hall 7 (by kernel_rfl), hall 8 (by kernel_rfl), hall 9 (by kernel_rfl)]) (by rw [ha]; exact (putSel_size b _ a0).2)
end Go.Proofs.YtajgnkncdkibeaaGreatDoor
namespace Go.Proofs.YtajgnkncdkibeaaGreatDoor
open Go.RowKit Go.Proofs.YtajgnkncdkibeaaGreatDoorW.PrintWords Go.Proofs.YtajgnkncdkibeaaGreatDoorW.PrintLast
set_option linter.unusedVariables false
set_option linter.unusedSimpArgs false
def shape_two.T : Bool × List (List Nat × List Nat) := (true, [([], []), ([0], [0]), ([], []), ([2], [2]), ([3], [3]), ([1, 4], [1, 4]), ([5, 3, 0, 1, 2, 3, 4, 5], [5])])
def shape_two.B : List Nat := [0, 1, 0, 4, 12, 31, 63]
theorem shape_two.tab : rtab .any (opsOf Tryz.f12 2) = shape_two.T := by kernel_rfl
theorem shape_two.bits : waitsOk shape_two.T.2 shape_two.B = true := by kernel_rfl
set_option maxRecDepth 100000 in
set_option maxHeartbeats 4000000 in
theorem shape_two (w0 : World) (mi mf xf : Int) (pl rk n : Bool) (D S : ByteArray) (k : Int) (hmi : 0 ≤ mi) (hmi9 : mi ≤ 1000) (hS : S.size ≤ 1000) (cW : ∀ W, Calls Tryz.prog 24 #[.agg #[.bool n, .string D, .int .i64 k]] W fun e w' => e = .returned (.string S) ∧ Below W.heap.size W w') (a0 : Act) (s2 : a0.tmps[2]? = some (.pointer (some ⟨w0.heap.size, 0, none⟩))) (s3 : a0.tmps[3]? = some (.pointer (some ⟨w0.heap.size + 1, 0, none⟩))) (hsz : a0.tmps.size = Tryz.f12.ntmps) (W : World) (hI : Sh w0 mi mf xf pl rk n D k false ⟨#[]⟩ 0 W.drew) (Q : Exit → Act → World → Prop) (hend : ∀ (a9 : Act) w', Sh w0 mi mf xf pl rk n D k false ⟨#[]⟩ 0 w' → a9 = putSel a0 (fun _ => true) [(0, 16, .pointer (some ⟨w0.heap.size, 0, none⟩)), (1, 17, .int .i64 mi), (2, 18, .agg #[.bool n, .string D, .int .i64 k]), (3, 19, .string S), (4, 20, .int .i64 (S.size : Int)), (5, 21, .int .i64 (mi - S.size)), (6, 5, .int .i64 (mi - S.size))] → a9.defers = a0.defers → a9.tmps[5]? = some (.int .i64 (mi - S.size)) → Q .normal a9 w') :
    (Code.region 2 #[{ dst := some 16, op := Op.fieldAddr 26 (Operand.tmp 2) 0, type := 0, pos := "number.go:76", after := #[], guard := none }, { dst := some 17, op := Op.load 3 (Operand.tmp 16), type := 3, pos := "number.go:76", after := #[{ on := 0, ground := Ground.data }], guard := none }, { dst := some 18, op := Op.load 29 (Operand.tmp 3), type := 29, pos := "number.go:76", after := #[], guard := none }, { dst := some 19, op := Op.call { callee := Callee.value (Operand.func 24), args := #[Operand.tmp 18], argTypes := #[29] }, type := 9, pos := "number.go:76", after := #[{ on := 2, ground := Ground.data }], guard := none }, { dst := some 20, op := Op.call { callee := Callee.builtin Builtin.len, args := #[Operand.tmp 19], argTypes := #[9] }, type := 3, pos := "number.go:76", after := #[{ on := 3, ground := Ground.data }], guard := none }, { dst := some 21, op := Op.binOp BinOp.sub 3 (Operand.tmp 17) (Operand.tmp 20) 3, type := 3, pos := "number.go:76", after := #[{ on := 1, ground := Ground.data }, { on := 4, ground := Ground.data }], guard := none }, { dst := some 5, op := Op.assign (Operand.tmp 21), type := 3, pos := "number.go:76", after := #[{ on := 5, ground := Ground.data }, { on := 3, ground := Ground.chain }, { on := 0, ground := Ground.phase }, { on := 1, ground := Ground.phase }, { on := 2, ground := Ground.phase }, { on := 3, ground := Ground.phase }, { on := 4, ground := Ground.phase }, { on := 5, ground := Ground.phase }], guard := none }] true).wp Tryz.prog Q a0 W := by
  refine start_ (n := 7) (S := fun w' => True) (ds := []) #[false, false, false, false, false, false, false] (by kernel_rfl) rfl rfl trivial (fun hHeld => ?_)
  refine with_tabW shape_two.tab shape_two.bits (fun HT_ HW_ => ?_)
  refine inv_at [0, 1, 2, 3, 4, 5, 6] (fun a0_ b a w' => a = putSel a0_ b [(0, 16, .pointer (some ⟨w0.heap.size, 0, none⟩)), (1, 17, .int .i64 mi), (2, 18, .agg #[.bool n, .string D, .int .i64 k]), (3, 19, .string S), (4, 20, .int .i64 (S.size : Int)), (5, 21, .int .i64 (mi - S.size)), (6, 5, .int .i64 (mi - S.size))] ∧ (Sh w0 mi mf xf pl rk n D k false ⟨#[]⟩ 0 w')) HT_.out HW_.out (by kernel_rfl) (by kernel_rfl) ?_ ?_ ?_
  · exact ⟨(by simp only [putSel, Bool.false_eq_true, if_false]), hI⟩
  · clear hI hend hHeld
    refine steps_cons ?_ ?_
    · rintro b a w' ⟨ha, hI⟩ hb_ hon hoff
      refine ⟨_, rfl, fun K hK => ?_⟩
      have e2 : a.tmps[2]? = some (.pointer (some ⟨w0.heap.size, 0, none⟩)) := by rw [ha]; exact (putSel_off rfl).trans s2
      replace ha := Aside0.mk ha
      obtain ⟨p0, p1, p2, p3, p4, p5⟩ := hI.get
      refine value_ (w1 := w') (v := .pointer (some ⟨w0.heap.size, 0, none⟩)) (by rfl) rfl ?_ ?_
      · go_simp; try rfl
        all_goals (try (simp only [IntKind.wrap_i64]; omega))
      exact hK.out _ _ ⟨(by rw [ha.out]; exact putSel_upk 0 hb_ rfl rfl rfl), hI⟩
    refine steps_cons ?_ ?_
    · rintro b a w' ⟨ha, hI⟩ hb_ hon hoff
      refine ⟨_, rfl, fun K hK => ?_⟩
      have e16 : a.tmps[16]? = some (.pointer (some ⟨w0.heap.size, 0, none⟩)) := by rw [ha]; exact putSel_on (e := (0, 16, .pointer (some ⟨w0.heap.size, 0, none⟩))) 0 rfl rfl (hon 0 (by kernel_rfl)) (by rw [hsz]; rfl)
      replace ha := Aside0.mk ha
      obtain ⟨p0, p1, p2, p3, p4, p5⟩ := hI.get
      refine value_ (w1 := w') (v := .int .i64 mi) (by rfl) rfl ?_ ?_
      · go_simp; try rfl
        all_goals (try (simp only [IntKind.wrap_i64]; omega))
      exact hK.out _ _ ⟨(by rw [ha.out]; exact putSel_upk 1 hb_ rfl rfl rfl), hI⟩
    refine steps_cons ?_ ?_
    · rintro b a w' ⟨ha, hI⟩ hb_ hon hoff
      refine ⟨_, rfl, fun K hK => ?_⟩
      have e3 : a.tmps[3]? = some (.pointer (some ⟨w0.heap.size + 1, 0, none⟩)) := by rw [ha]; exact (putSel_off rfl).trans s3
      replace ha := Aside0.mk ha
      obtain ⟨p0, p1, p2, p3, p4, p5⟩ := hI.get
      refine value_ (w1 := w') (v := .agg #[.bool n, .string D, .int .i64 k]) (by rfl) rfl ?_ ?_
      · go_simp; try rfl
        all_goals (try (simp only [IntKind.wrap_i64]; omega))
      exact hK.out _ _ ⟨(by rw [ha.out]; exact putSel_upk 2 hb_ rfl rfl rfl), hI⟩
    refine steps_cons ?_ ?_
    · rintro b a w' ⟨ha, hI⟩ hb_ hon hoff
      refine ⟨_, rfl, fun K hK => ?_⟩
      have e18 : a.tmps[18]? = some (.agg #[.bool n, .string D, .int .i64 k]) := by rw [ha]; exact putSel_on (e := (2, 18, .agg #[.bool n, .string D, .int .i64 k])) 2 rfl rfl (hon 2 (by kernel_rfl)) (by rw [hsz]; rfl)
      replace ha := Aside0.mk ha
      obtain ⟨p0, p1, p2, p3, p4, p5⟩ := hI.get
      refine goes_ Tryz.func24 (by kernel_rfl) rfl #[.agg #[.bool n, .string D, .int .i64 k]] (by rfl) rfl rfl (by first | (simp only [List.map_toArray, List.map_cons, List.map_nil, Act.eval, Array.getD_eq_getD_getElem?, Option.getD_some, e18]; done) | (simp only [List.map_toArray, List.map_cons, List.map_nil, Act.eval, Array.getD_eq_getD_getElem?, Option.getD_some, e18]; rfl)) ?_
      refine (cW w').mono ?_
      rintro e w1 ⟨rfl, b1⟩; have hI1 := hI.step b1
      exact ⟨_, rfl, hK.out _ _ ⟨(by rw [ha.out]; exact putSel_upk 3 hb_ rfl rfl rfl), hI1⟩⟩
    refine steps_cons ?_ ?_
    · rintro b a w' ⟨ha, hI⟩ hb_ hon hoff
      refine ⟨_, rfl, fun K hK => ?_⟩
      have e19 : a.tmps[19]? = some (.string S) := by rw [ha]; exact putSel_on (e := (3, 19, .string S)) 3 rfl rfl (hon 3 (by kernel_rfl)) (by rw [hsz]; rfl)
      replace ha := Aside0.mk ha
      obtain ⟨p0, p1, p2, p3, p4, p5⟩ := hI.get
      refine value_ (w1 := w') (v := .int .i64 (S.size : Int)) (by rfl) rfl ?_ ?_
      · go_simp; try rfl
        all_goals (try (simp only [IntKind.wrap_i64]; omega))
      exact hK.out _ _ ⟨(by rw [ha.out]; exact putSel_upk 4 hb_ rfl rfl rfl), hI⟩
    refine steps_cons ?_ ?_
    · rintro b a w' ⟨ha, hI⟩ hb_ hon hoff
      refine ⟨_, rfl, fun K hK => ?_⟩
      have e17 : a.tmps[17]? = some (.int .i64 mi) := by rw [ha]; exact putSel_on (e := (1, 17, .int .i64 mi)) 1 rfl rfl (hon 1 (by kernel_rfl)) (by rw [hsz]; rfl)
      have e20 : a.tmps[20]? = some (.int .i64 (S.size : Int)) := by rw [ha]; exact putSel_on (e := (4, 20, .int .i64 (S.size : Int))) 4 rfl rfl (hon 4 (by kernel_rfl)) (by rw [hsz]; rfl)
      replace ha := Aside0.mk ha
      obtain ⟨p0, p1, p2, p3, p4, p5⟩ := hI.get
      refine value_ (w1 := w') (v := .int .i64 (mi - S.size)) (by rfl) rfl ?_ ?_
      · go_simp; try rfl
        all_goals (try (simp only [IntKind.wrap_i64]; omega))
      exact hK.out _ _ ⟨(by rw [ha.out]; exact putSel_upk 5 hb_ rfl rfl rfl), hI⟩
    refine steps_cons ?_ ?_
    · rintro b a w' ⟨ha, hI⟩ hb_ hon hoff
      refine ⟨_, rfl, fun K hK => ?_⟩
      have e21 : a.tmps[21]? = some (.int .i64 (mi - S.size)) := by rw [ha]; exact putSel_on (e := (5, 21, .int .i64 (mi - S.size))) 5 rfl rfl (hon 5 (by kernel_rfl)) (by rw [hsz]; rfl)
      replace ha := Aside0.mk ha
      obtain ⟨p0, p1, p2, p3, p4, p5⟩ := hI.get
      refine value_ (w1 := w') (v := .int .i64 (mi - S.size)) (by rfl) rfl ?_ ?_
      · go_simp; try rfl
        all_goals (try (simp only [IntKind.wrap_i64]; omega))
      exact hK.out _ _ ⟨(by rw [ha.out]; exact putSel_upk 6 hb_ rfl rfl rfl), hI⟩
    exact steps_nil
  rintro b a w1 hall ⟨ha, hI1⟩
  exact hend a w1 hI1 (by rw [ha]; simp only [putSel, if_true, hall 0 (by kernel_rfl), hall 1 (by kernel_rfl), hall 2 (by kernel_rfl), hall 3 (by kernel_rfl), hall 4 (by kernel_rfl), hall 5 (by kernel_rfl), hall 6 (by kernel_rfl)]) (by rw [ha]; exact (putSel_size b _ a0).2) (by rw [ha]; exact putSel_on (e := (6, 5, .int .i64 (mi - S.size))) 6 rfl rfl (hall 6 (by kernel_rfl)) (by rw [hsz]; rfl))
end Go.Proofs.YtajgnkncdkibeaaGreatDoor
namespace Go.Proofs.YtajgnkncdkibeaaGreatDoor
open Go.RowKit Go.Proofs.YtajgnkncdkibeaaGreatDoorW.PrintWords Go.Proofs.YtajgnkncdkibeaaGreatDoorW.PrintLast
set_option linter.unusedVariables false
set_option linter.unusedSimpArgs false
def shape_four.T : Bool × List (List Nat × List Nat) := (true, [([], []), ([0], [0]), ([], []), ([2], [2]), ([], []), ([4], [4]), ([3, 5], [3, 5]), ([], []), ([7], [7]), ([1, 6, 8], [1, 6, 8]), ([9, 3, 0, 1, 2, 3, 4, 5, 6, 7, 8, 9], [9])])
def shape_four.B : List Nat := [0, 1, 0, 4, 0, 16, 60, 0, 128, 511, 1023]
theorem shape_four.tab : rtab .any (opsOf Tryz.f12 4) = shape_four.T := by kernel_rfl
theorem shape_four.bits : waitsOk shape_four.T.2 shape_four.B = true := by kernel_rfl
set_option maxRecDepth 100000 in
set_option maxHeartbeats 4000000 in
theorem shape_four (w0 : World) (mi mf xf : Int) (pl rk n : Bool) (D Z : ByteArray) (k z : Int) (hD : D.size ≤ 1000) (hZ : Z.size ≤ 1000) (cZ : ∀ W, Calls Tryz.prog 25 #[.string ⟨#[48]⟩, .int .i64 z] W fun e w' => e = .returned (.string Z) ∧ Below W.heap.size W w') (a0 : Act) (s3 : a0.tmps[3]? = some (.pointer (some ⟨w0.heap.size + 1, 0, none⟩))) (s4 : a0.tmps[4]? = some (.pointer (some ⟨w0.heap.size + 1 + 1, 0, none⟩))) (s5 : a0.tmps[5]? = some (.int .i64 z)) (hsz : a0.tmps.size = Tryz.f12.ntmps) (W : World) (hI : Sh w0 mi mf xf pl rk n D k (if (fun _ => false) 10 = true then n else false) (if (fun _ => false) 10 = true then Z ++ D else ⟨#[]⟩) (if (fun _ => false) 10 = true then k else 0) W.drew) (Q : Exit → Act → World → Prop) (hend : ∀ (a9 : Act) w', Sh w0 mi mf xf pl rk n D k (if (fun _ => true) 10 = true then n else false) (if (fun _ => true) 10 = true then Z ++ D else ⟨#[]⟩) (if (fun _ => true) 10 = true then k else 0) w' → a9 = putSel a0 (fun _ => true) [(0, 24, .pointer (some ⟨w0.heap.size + 1, 0, none⟩)), (1, 25, .bool n), (2, 26, .int .i64 z), (3, 27, .string Z), (4, 28, .pointer (some ⟨w0.heap.size + 1, 1, none⟩)), (5, 29, .string D), (6, 30, .string (Z ++ D)), (7, 31, .pointer (some ⟨w0.heap.size + 1, 2, none⟩)), (8, 32, .int .i64 k), (9, 33, .agg #[.bool n, .string (Z ++ D), .int .i64 k])] → a9.defers = a0.defers → Q .normal a9 w') :
    (Code.region 4 #[{ dst := some 24, op := Op.fieldAddr 29 (Operand.tmp 3) 0, type := 0, pos := "number.go:77", after := #[], guard := none }, { dst := some 25, op := Op.load 4 (Operand.tmp 24), type := 4, pos := "number.go:77", after := #[{ on := 0, ground := Ground.data }], guard := none }, { dst := some 26, op := Op.move (Operand.tmp 5), type := 3, pos := "number.go:77", after := #[], guard := none }, { dst := some 27, op := Op.call { callee := Callee.value (Operand.func 25), args := #[Operand.const (Value.string { data := #[48] }), Operand.tmp 26], argTypes := #[9, 3] }, type := 9, pos := "number.go:77", after := #[{ on := 2, ground := Ground.data }], guard := none }, { dst := some 28, op := Op.fieldAddr 29 (Operand.tmp 3) 1, type := 0, pos := "number.go:77", after := #[], guard := none }, { dst := some 29, op := Op.load 9 (Operand.tmp 28), type := 9, pos := "number.go:77", after := #[{ on := 4, ground := Ground.data }], guard := none }, { dst := some 30, op := Op.binOp BinOp.add 9 (Operand.tmp 27) (Operand.tmp 29) 9, type := 9, pos := "number.go:77", after := #[{ on := 3, ground := Ground.data }, { on := 5, ground := Ground.data }], guard := none }, { dst := some 31, op := Op.fieldAddr 29 (Operand.tmp 3) 2, type := 0, pos := "number.go:77", after := #[], guard := none }, { dst := some 32, op := Op.load 3 (Operand.tmp 31), type := 3, pos := "number.go:77", after := #[{ on := 7, ground := Ground.data }], guard := none }, { dst := some 33, op := Op.build 29 #[(0, Operand.tmp 25), (1, Operand.tmp 30), (2, Operand.tmp 32)], type := 29, pos := "number.go:77", after := #[{ on := 1, ground := Ground.data }, { on := 6, ground := Ground.data }, { on := 8, ground := Ground.data }], guard := none }, { dst := none, op := Op.store 29 (Operand.tmp 4) (Operand.tmp 33), type := 0, pos := "number.go:77", after := #[{ on := 9, ground := Ground.data }, { on := 3, ground := Ground.chain }, { on := 0, ground := Ground.phase }, { on := 1, ground := Ground.phase }, { on := 2, ground := Ground.phase }, { on := 3, ground := Ground.phase }, { on := 4, ground := Ground.phase }, { on := 5, ground := Ground.phase }, { on := 6, ground := Ground.phase }, { on := 7, ground := Ground.phase }, { on := 8, ground := Ground.phase }, { on := 9, ground := Ground.phase }], guard := none }] true).wp Tryz.prog Q a0 W := by
  refine start_ (n := 11) (S := fun w' => True) (ds := []) #[false, false, false, false, false, false, false, false, false, false, false] (by kernel_rfl) rfl rfl trivial (fun hHeld => ?_)
  refine with_tabW shape_four.tab shape_four.bits (fun HT_ HW_ => ?_)
  refine inv_at [0, 1, 2, 3, 4, 5, 6, 7, 8, 9, 10] (fun a0_ b a w' => a = putSel a0_ b [(0, 24, .pointer (some ⟨w0.heap.size + 1, 0, none⟩)), (1, 25, .bool n), (2, 26, .int .i64 z), (3, 27, .string Z), (4, 28, .pointer (some ⟨w0.heap.size + 1, 1, none⟩)), (5, 29, .string D), (6, 30, .string (Z ++ D)), (7, 31, .pointer (some ⟨w0.heap.size + 1, 2, none⟩)), (8, 32, .int .i64 k), (9, 33, .agg #[.bool n, .string (Z ++ D), .int .i64 k])] ∧ (Sh w0 mi mf xf pl rk n D k (if b 10 = true then n else false) (if b 10 = true then Z ++ D else ⟨#[]⟩) (if b 10 = true then k else 0) w')) HT_.out HW_.out (by kernel_rfl) (by kernel_rfl) ?_ ?_ ?_
  · exact ⟨(by simp only [putSel, Bool.false_eq_true, if_false]), hI⟩
  · clear hI hend hHeld
    refine steps_cons ?_ ?_
    · rintro b a w' ⟨ha, hI⟩ hb_ hon hoff
      refine ⟨_, rfl, fun K hK => ?_⟩
      have e3 : a.tmps[3]? = some (.pointer (some ⟨w0.heap.size + 1, 0, none⟩)) := by rw [ha]; exact (putSel_off rfl).trans s3
      replace ha := Aside0.mk ha
      obtain ⟨p0, p1, p2, p3, p4, p5⟩ := hI.get
      obtain ⟨r0, r1, r2⟩ := hI.getr
      have z0 := hI.fr 0
      have z1 := hI.fr 1
      have z2 := hI.fr 2
      refine value_ (w1 := w') (v := .pointer (some ⟨w0.heap.size + 1, 0, none⟩)) (by rfl) rfl ?_ ?_
      · go_simp; try rfl
        all_goals (try (simp only [IntKind.wrap_i64]; omega))
      exact hK.out _ _ ⟨(by rw [ha.out]; exact putSel_upk 0 hb_ rfl rfl rfl), hI⟩
    refine steps_cons ?_ ?_
    · rintro b a w' ⟨ha, hI⟩ hb_ hon hoff
      refine ⟨_, rfl, fun K hK => ?_⟩
      have e24 : a.tmps[24]? = some (.pointer (some ⟨w0.heap.size + 1, 0, none⟩)) := by rw [ha]; exact putSel_on (e := (0, 24, .pointer (some ⟨w0.heap.size + 1, 0, none⟩))) 0 rfl rfl (hon 0 (by kernel_rfl)) (by rw [hsz]; rfl)
      replace ha := Aside0.mk ha
      obtain ⟨p0, p1, p2, p3, p4, p5⟩ := hI.get
      obtain ⟨r0, r1, r2⟩ := hI.getr
      have z0 := hI.fr 0
      have z1 := hI.fr 1
      have z2 := hI.fr 2
      refine value_ (w1 := w') (v := .bool n) (by rfl) rfl ?_ ?_
      · go_simp; try rfl
        all_goals (try (simp only [IntKind.wrap_i64]; omega))
      exact hK.out _ _ ⟨(by rw [ha.out]; exact putSel_upk 1 hb_ rfl rfl rfl), hI⟩
    refine steps_cons ?_ ?_
    · rintro b a w' ⟨ha, hI⟩ hb_ hon hoff
      refine ⟨_, rfl, fun K hK => ?_⟩
      have e5 : a.tmps[5]? = some (.int .i64 z) := by rw [ha]; exact (putSel_off rfl).trans s5
      replace ha := Aside0.mk ha
      obtain ⟨p0, p1, p2, p3, p4, p5⟩ := hI.get
      obtain ⟨r0, r1, r2⟩ := hI.getr
      have z0 := hI.fr 0
      have z1 := hI.fr 1
      have z2 := hI.fr 2
      refine value_ (w1 := w') (v := .int .i64 z) (by rfl) rfl ?_ ?_
      · go_simp; try rfl
        all_goals (try (simp only [IntKind.wrap_i64]; omega))
      exact hK.out _ _ ⟨(by rw [ha.out]; exact putSel_upk 2 hb_ rfl rfl rfl), hI⟩
    refine steps_cons ?_ ?_
    · rintro b a w' ⟨ha, hI⟩ hb_ hon hoff
      refine ⟨_, rfl, fun K hK => ?_⟩
      have e26 : a.tmps[26]? = some (.int .i64 z) := by rw [ha]; exact putSel_on (e := (2, 26, .int .i64 z)) 2 rfl rfl (hon 2 (by kernel_rfl)) (by rw [hsz]; rfl)
      replace ha := Aside0.mk ha
      obtain ⟨p0, p1, p2, p3, p4, p5⟩ := hI.get
      obtain ⟨r0, r1, r2⟩ := hI.getr
      have z0 := hI.fr 0
      have z1 := hI.fr 1
      have z2 := hI.fr 2
      refine goes_ Tryz.func25 (by kernel_rfl) rfl #[Go.Value.string { data := #[48] }, .int .i64 z] (by rfl) rfl rfl (by first | (simp only [List.map_toArray, List.map_cons, List.map_nil, Act.eval, Array.getD_eq_getD_getElem?, Option.getD_some, e26]; done) | (simp only [List.map_toArray, List.map_cons, List.map_nil, Act.eval, Array.getD_eq_getD_getElem?, Option.getD_some, e26]; rfl)) ?_
      refine (cZ w').mono ?_
      rintro e w1 ⟨rfl, b1⟩; have hI1 := hI.step b1
      exact ⟨_, rfl, hK.out _ _ ⟨(by rw [ha.out]; exact putSel_upk 3 hb_ rfl rfl rfl), hI1⟩⟩
    refine steps_cons ?_ ?_
    · rintro b a w' ⟨ha, hI⟩ hb_ hon hoff
      refine ⟨_, rfl, fun K hK => ?_⟩
      have e3 : a.tmps[3]? = some (.pointer (some ⟨w0.heap.size + 1, 0, none⟩)) := by rw [ha]; exact (putSel_off rfl).trans s3
      replace ha := Aside0.mk ha
      obtain ⟨p0, p1, p2, p3, p4, p5⟩ := hI.get
      obtain ⟨r0, r1, r2⟩ := hI.getr
      have z0 := hI.fr 0
      have z1 := hI.fr 1
      have z2 := hI.fr 2
      refine value_ (w1 := w') (v := .pointer (some ⟨w0.heap.size + 1, 1, none⟩)) (by rfl) rfl ?_ ?_
      · go_simp; try rfl
        all_goals (try (simp only [IntKind.wrap_i64]; omega))
      exact hK.out _ _ ⟨(by rw [ha.out]; exact putSel_upk 4 hb_ rfl rfl rfl), hI⟩
    refine steps_cons ?_ ?_
    · rintro b a w' ⟨ha, hI⟩ hb_ hon hoff
      refine ⟨_, rfl, fun K hK => ?_⟩
      have e28 : a.tmps[28]? = some (.pointer (some ⟨w0.heap.size + 1, 1, none⟩)) := by rw [ha]; exact putSel_on (e := (4, 28, .pointer (some ⟨w0.heap.size + 1, 1, none⟩))) 4 rfl rfl (hon 4 (by kernel_rfl)) (by rw [hsz]; rfl)
      replace ha := Aside0.mk ha
      obtain ⟨p0, p1, p2, p3, p4, p5⟩ := hI.get
      obtain ⟨r0, r1, r2⟩ := hI.getr
      have z0 := hI.fr 0
      have z1 := hI.fr 1
      have z2 := hI.fr 2
      refine value_ (w1 := w') (v := .string D) (by rfl) rfl ?_ ?_
      · go_simp; try rfl
        all_goals (try (simp only [IntKind.wrap_i64]; omega))
      exact hK.out _ _ ⟨(by rw [ha.out]; exact putSel_upk 5 hb_ rfl rfl rfl), hI⟩
    refine steps_cons ?_ ?_
    · rintro b a w' ⟨ha, hI⟩ hb_ hon hoff
      refine ⟨_, rfl, fun K hK => ?_⟩
      have e27 : a.tmps[27]? = some (.string Z) := by rw [ha]; exact putSel_on (e := (3, 27, .string Z)) 3 rfl rfl (hon 3 (by kernel_rfl)) (by rw [hsz]; rfl)
      have e29 : a.tmps[29]? = some (.string D) := by rw [ha]; exact putSel_on (e := (5, 29, .string D)) 5 rfl rfl (hon 5 (by kernel_rfl)) (by rw [hsz]; rfl)
      replace ha := Aside0.mk ha
      obtain ⟨p0, p1, p2, p3, p4, p5⟩ := hI.get
      obtain ⟨r0, r1, r2⟩ := hI.getr
      have z0 := hI.fr 0
      have z1 := hI.fr 1
      have z2 := hI.fr 2
      refine value_ (w1 := w') (v := .string (Z ++ D)) (by rfl) rfl ?_ ?_
      · exact exec_cat _ rfl (eval_of e27) (eval_of e29) (by omega)
      exact hK.out _ _ ⟨(by rw [ha.out]; exact putSel_upk 6 hb_ rfl rfl rfl), hI⟩
    refine steps_cons ?_ ?_
    · rintro b a w' ⟨ha, hI⟩ hb_ hon hoff
      refine ⟨_, rfl, fun K hK => ?_⟩
      have e3 : a.tmps[3]? = some (.pointer (some ⟨w0.heap.size + 1, 0, none⟩)) := by rw [ha]; exact (putSel_off rfl).trans s3
      replace ha := Aside0.mk ha
      obtain ⟨p0, p1, p2, p3, p4, p5⟩ := hI.get
      obtain ⟨r0, r1, r2⟩ := hI.getr
      have z0 := hI.fr 0
      have z1 := hI.fr 1
      have z2 := hI.fr 2
      refine value_ (w1 := w') (v := .pointer (some ⟨w0.heap.size + 1, 2, none⟩)) (by rfl) rfl ?_ ?_
      · go_simp; try rfl
        all_goals (try (simp only [IntKind.wrap_i64]; omega))
      exact hK.out _ _ ⟨(by rw [ha.out]; exact putSel_upk 7 hb_ rfl rfl rfl), hI⟩
    refine steps_cons ?_ ?_
    · rintro b a w' ⟨ha, hI⟩ hb_ hon hoff
      refine ⟨_, rfl, fun K hK => ?_⟩
      have e31 : a.tmps[31]? = some (.pointer (some ⟨w0.heap.size + 1, 2, none⟩)) := by rw [ha]; exact putSel_on (e := (7, 31, .pointer (some ⟨w0.heap.size + 1, 2, none⟩))) 7 rfl rfl (hon 7 (by kernel_rfl)) (by rw [hsz]; rfl)
      replace ha := Aside0.mk ha
      obtain ⟨p0, p1, p2, p3, p4, p5⟩ := hI.get
      obtain ⟨r0, r1, r2⟩ := hI.getr
      have z0 := hI.fr 0
      have z1 := hI.fr 1
      have z2 := hI.fr 2
      refine value_ (w1 := w') (v := .int .i64 k) (by rfl) rfl ?_ ?_
      · go_simp; try rfl
        all_goals (try (simp only [IntKind.wrap_i64]; omega))
      exact hK.out _ _ ⟨(by rw [ha.out]; exact putSel_upk 8 hb_ rfl rfl rfl), hI⟩
    refine steps_cons ?_ ?_
    · rintro b a w' ⟨ha, hI⟩ hb_ hon hoff
      refine ⟨_, rfl, fun K hK => ?_⟩
      have e25 : a.tmps[25]? = some (.bool n) := by rw [ha]; exact putSel_on (e := (1, 25, .bool n)) 1 rfl rfl (hon 1 (by kernel_rfl)) (by rw [hsz]; rfl)
      have e30 : a.tmps[30]? = some (.string (Z ++ D)) := by rw [ha]; exact putSel_on (e := (6, 30, .string (Z ++ D))) 6 rfl rfl (hon 6 (by kernel_rfl)) (by rw [hsz]; rfl)
      have e32 : a.tmps[32]? = some (.int .i64 k) := by rw [ha]; exact putSel_on (e := (8, 32, .int .i64 k)) 8 rfl rfl (hon 8 (by kernel_rfl)) (by rw [hsz]; rfl)
      replace ha := Aside0.mk ha
      obtain ⟨p0, p1, p2, p3, p4, p5⟩ := hI.get
      obtain ⟨r0, r1, r2⟩ := hI.getr
      have z0 := hI.fr 0
      have z1 := hI.fr 1
      have z2 := hI.fr 2
      refine value_ (w1 := w') (v := .agg #[.bool n, .string (Z ++ D), .int .i64 k]) (by rfl) rfl ?_ ?_
      · go_simp; try rfl
        all_goals (try (simp only [IntKind.wrap_i64]; omega))
      exact hK.out _ _ ⟨(by rw [ha.out]; exact putSel_upk 9 hb_ rfl rfl rfl), hI⟩
    refine steps_cons ?_ ?_
    · rintro b a w' ⟨ha, hI⟩ hb_ hon hoff
      refine ⟨_, rfl, fun K hK => ?_⟩
      have e4 : a.tmps[4]? = some (.pointer (some ⟨w0.heap.size + 1 + 1, 0, none⟩)) := by rw [ha]; exact (putSel_off rfl).trans s4
      have e33 : a.tmps[33]? = some (.agg #[.bool n, .string (Z ++ D), .int .i64 k]) := by rw [ha]; exact putSel_on (e := (9, 33, .agg #[.bool n, .string (Z ++ D), .int .i64 k])) 9 rfl rfl (hon 9 (by kernel_rfl)) (by rw [hsz]; rfl)
      replace ha := Aside0.mk ha
      obtain ⟨p0, p1, p2, p3, p4, p5⟩ := hI.get
      obtain ⟨r0, r1, r2⟩ := hI.getr
      have z0 := hI.fr 0
      have z1 := hI.fr 1
      have z2 := hI.fr 2
      refine skip_ (w1 := ((w'.setCell ⟨w0.heap.size + 1 + 1, 0, none⟩ (.bool n)).setCell ⟨w0.heap.size + 1 + 1, 1, none⟩ (.string (Z ++ D))).setCell ⟨w0.heap.size + 1 + 1, 2, none⟩ (.int .i64 k)) (by rfl) rfl ?_ ?_
      · go_simp
      exact hK.out _ _ ⟨(by rw [ha.out]; exact (putSel_same rfl).symm), hI.putr n (Z ++ D) k⟩
    exact steps_nil
  rintro b a w1 hall ⟨ha, hI1⟩
  simp only [hall 10 (by kernel_rfl)] at hI1
  exact hend a w1 hI1 (by rw [ha]; simp only [putSel, if_true, hall 0 (by kernel_rfl), hall 1 (by kernel_rfl), hall 2 (by kernel_rfl), hall 3 (by kernel_rfl), hall 4 (by kernel_rfl), hall 5 (by kernel_rfl), hall 6 (by kernel_rfl), hall 7 (by kernel_rfl), hall 8 (by kernel_rfl), hall 9 (by kernel_rfl)]) (by rw [ha]; exact (putSel_size b _ a0).2)
end Go.Proofs.YtajgnkncdkibeaaGreatDoor
namespace Go.Proofs.YtajgnkncdkibeaaGreatDoor
open Go.RowKit
open Go.Proofs.YtajgnkncdkibeaaGreatDoorW.PrintWords Go.Proofs.YtajgnkncdkibeaaGreatDoorW.PrintLast Go.Proofs.YtajgnkncdkibeaaGreatDoorW.PrintMore
set_option linter.unusedVariables false
set_option linter.unusedSimpArgs false
theorem tz_ge (d : ByteArray) : ∀ f i, i - f ≤ tz d f i
  | 0, i => Nat.le_refl _
  | f + 1, i => by
    unfold tz
    split
    · have := tz_ge d f (i - 1); omega
    · omega
def shT (mf : Nat) (r : ByteArray) (k : Nat) : Nat := tz r (k - mf) r.size
def shJ (mf : Nat) (r : ByteArray) (k : Nat) : Nat := k - (r.size - shT mf r k)
def shE (mf : Nat) (r : ByteArray) (k : Nat) : ByteArray := r.extract 0 (shT mf r k) ++ zs (mf - shJ mf r k)
def shK (mf : Nat) (r : ByteArray) (k : Nat) : Nat := shJ mf r k + (mf - shJ mf r k)
def shD (mi mf : Nat) (r : ByteArray) (k : Nat) : ByteArray := zs (mi - ((shE mf r k).size - shK mf r k)) ++ shE mf r k
theorem zs_none (d : ByteArray) : zs 0 ++ d = d := by
  apply ByteArray.ext
  rw [ByteArray.data_append]
  simp [zs]
set_option maxRecDepth 100000 in
set_option maxHeartbeats 4000000 in
theorem shape_any (mi mf : Nat) (xf : Int) (pl rk n : Bool) (D : ByteArray) (k : Int) (r : ByteArray) (k1 : Nat)
    (hR : ∀ W, Calls Tryz.prog 13 #[decV n D k, .int .i64 xf] W fun e w' => e = .returned (decV n r k1) ∧ Below W.heap.size W w')
    (hk : k1 < r.size) (hr : r.size ≤ 800) (hmf : mf ≤ 20) (hmi : mi ≤ 20) (w : World) :
    Calls Tryz.prog 12 #[optV mi mf xf pl rk, decV n D k] w fun e w' => e = .returned (decV n (shD mi mf r k1) (shK mf r k1)) ∧ Below w.heap.size w w' := by
  have t1 : shT mf r k1 ≤ r.size := tz_le _ _ _
  have t2 : r.size - (k1 - mf) ≤ shT mf r k1 := tz_ge _ _ _
  have cT := fun W => trim_any n r k1 mf W hk (by omega) (by omega)
  have e2 : (k1 : Int) - (r.size - tz r (k1 - mf) r.size : Nat) = (shJ mf r k1 : Nat) := by unfold shJ; unfold shT at *; omega
  rw [e2] at cT
  have j1 : shJ mf r k1 < shT mf r k1 := by unfold shJ; omega
  have s2 := extract_size r _ t1
  have cP := fun W => pad_any n (r.extract 0 (shT mf r k1)) (shJ mf r k1) mf W (by rw [s2]; exact j1) (by rw [s2]; omega) (by omega)
  have e3 : ((shJ mf r k1 : Nat) : Int) + (mf - shJ mf r k1 : Nat) = (shK mf r k1 : Nat) := by unfold shK; omega
  rw [e3] at cP
  have s3 : (shE mf r k1).size = shT mf r k1 + (mf - shJ mf r k1) := by unfold shE; rw [ByteArray.size_append, s2, zs_size]
  have k3 : shK mf r k1 < (shE mf r k1).size := by rw [s3]; unfold shK; omega
  have cW := fun W => whole_any n (shE mf r k1) (shK mf r k1) W (by omega) (by omega)
  have s4 := extract_size (shE mf r k1) ((shE mf r k1).size - shK mf r k1) (by omega)
  have hS := Sh.start w mi mf xf pl rk n D k
  have cP' : ∀ W, Calls Tryz.prog 23 #[decV n (r.extract 0 (shT mf r k1)) (shJ mf r k1), .int .i64 (mf : Int)] W fun e w' => e = .returned (decV n (shE mf r k1) (shK mf r k1)) ∧ Below W.heap.size W w' := cP
  have cT' : ∀ W, Calls Tryz.prog 22 #[decV n r k1, .int .i64 (mf : Int)] W fun e w' => e = .returned (decV n (r.extract 0 (shT mf r k1)) (shJ mf r k1)) ∧ Below W.heap.size W w' := cT
  have hD : shD mi mf r k1 = zs (mi - ((shE mf r k1).size - shK mf r k1)) ++ shE mf r k1 := rfl
  clear cP cT e2 e3
  generalize shD mi mf r k1 = DD at *
  generalize r.extract 0 (shT mf r k1) = D2 at *
  generalize shE mf r k1 = E at *
  generalize shK mf r k1 = K at *
  unfold decV at *
  unfold optV
  go_enter Tryz.func12, Tryz.ntmps12
  go_wp2
  refine shape_one w mi mf xf pl rk n D r D2 E k k1 (shJ mf r k1) K hR cT' cP' _ rfl rfl rfl _ hS.drew _ ?_
  intro a9 w9 h9 ha9 hd9
  have h8 : Sh w mi mf xf pl rk n E K false ⟨#[]⟩ 0 w9 := h9
  rw [ha9]
  simp only [putSel, if_true, Act.put, List.setIfInBounds_toArray, List.set_cons_zero, List.set_cons_succ]
  clear ha9 hd9 h9 hS hR cT' cP'
  go_wp2
  refine shape_two w mi mf xf pl rk n E (E.extract 0 (E.size - K)) K (by omega) (by omega) (by omega) cW _ rfl rfl rfl _ h8.drew _ ?_
  intro b9 v9 g9 hb9 hbd9 hb5
  rw [hb9]
  simp only [putSel, if_true, Act.put, List.setIfInBounds_toArray, List.set_cons_zero, List.set_cons_succ]
  clear hb9 hbd9 hb5 h8 cW
  rw [s4]
  by_cases hc : E.size - K < mi
  · have g1 : decide ((mi : Int) - (E.size - K : Nat) > 0) = true := decide_eq_true (by omega)
    have cZ := fun W => rep_any (mi - (E.size - K)) (by omega) W
    have ez : ((mi - (E.size - K) : Nat) : Int) = (mi : Int) - (E.size - K : Nat) := by omega
    rw [ez] at cZ
    go_wp2
    refine shape_four w mi mf xf pl rk n E (zs (mi - (E.size - K))) K ((mi : Int) - (E.size - K : Nat)) (by omega) (by rw [zs_size]; omega) cZ _ rfl rfl rfl rfl _ g9.drew _ ?_
    intro c9 u9 f9 hc9 hcd9
    have f8 : Sh w mi mf xf pl rk n E K n (zs (mi - (E.size - K)) ++ E) K u9 := f9
    obtain ⟨r0, r1, r2⟩ := f8.getr
    have bel := f8.bel
    rw [hc9]
    simp only [putSel, if_true, Act.put, List.setIfInBounds_toArray, List.set_cons_zero, List.set_cons_succ]
    clear hc9 hcd9 f9 f8 g9
    rw [← hD] at r1
    go_wp2
    refine bodyPost_ret (v := .agg #[.bool n, .string DD, .int .i64 K]) (by simp [results, Tryz.results12, go_sem, r0, r1, r2]) rfl ?_
    exact ⟨rfl, bel⟩
  · have g1 : decide ((mi : Int) - (E.size - K : Nat) > 0) = false := decide_eq_false (by omega)
    rw [show mi - (E.size - K) = 0 by omega, zs_none] at hD
    subst hD
    obtain ⟨p0, p1, p2, p3, p4, p5⟩ := g9.get
    obtain ⟨r0, r1, r2⟩ := g9.getr
    have z0 := g9.fr 0
    have z1 := g9.fr 1
    have z2 := g9.fr 2
    have f8 := g9.putr n DD K
    obtain ⟨t0, t1, t2⟩ := f8.getr
    have bel := f8.bel
    go_wp2
    refine bodyPost_ret (v := .agg #[.bool n, .string DD, .int .i64 K]) (by simp [results, Tryz.results12, go_sem, t0, t1, t2]) rfl ?_
    exact ⟨rfl, bel⟩
end Go.Proofs.YtajgnkncdkibeaaGreatDoor
namespace Go.Proofs.YtajgnkncdkibeaaGreatDoor.M
open Go.RowKit
set_option linter.unusedVariables false
set_option linter.unusedSimpArgs false
def ent : List (ByteArray × ByteArray) → Nat → List MapEntry
  | [], _ => []
  | p :: r, n => ⟨.string p.1, .string p.2, n⟩ :: ent r (n + 1)
def look : List (ByteArray × ByteArray) → ByteArray → Option ByteArray
  | [], _ => none
  | p :: r, k => if (k == p.1) = true then some p.2 else look r k
theorem ent_length : ∀ (l : List (ByteArray × ByteArray)) (n : Nat), (ent l n).length = l.length
  | [], _ => rfl
  | p :: r, n => by simp [ent, ent_length r]
theorem ent_app : ∀ (l m : List (ByteArray × ByteArray)) (n : Nat), ent (l ++ m) n = ent l n ++ ent m (n + l.length)
  | [], m, n => by simp [ent]
  | p :: r, m, n => by simp [ent, ent_app r m (n + 1), Nat.add_assoc, Nat.add_comm 1]
theorem find_ent (k : ByteArray) : ∀ (l : List (ByteArray × ByteArray)) (n i : Nat),
    (look l k = none ∧ Instr.findNow .string (.string k) (ent l n) i = some none) ∨ ∃ v j, look l k = some v ∧ Instr.findNow .string (.string k) (ent l n) i = some (some (j, .string v))
  | [], n, i => .inl ⟨rfl, rfl⟩
  | p :: r, n, i => by
    cases h : (k == p.1) with
    | true => exact .inr ⟨p.2, i, by simp [look, h], by simp [ent, Instr.findNow, Instr.sameNow, h]⟩
    | false =>
      rcases find_ent k r (n + 1) (i + 1) with ⟨h1, h2⟩ | ⟨v, j, h1, h2⟩
      · exact .inl ⟨by simp [look, h, h1], by simp [ent, Instr.findNow, Instr.sameNow, h, h2]⟩
      · exact .inr ⟨v, j, by simp [look, h, h1], by simp [ent, Instr.findNow, Instr.sameNow, h, h2]⟩
def obj (l : List (ByteArray × ByteArray)) : Obj := .map (ent l 0).toArray l.length
def half (l : List (ByteArray × ByteArray)) (k : ByteArray) : Obj := .map ((ent l 0).toArray.push ⟨.string k, .string ⟨#[]⟩, l.length⟩) (l.length + 1)
def setObj (w : World) (r : Nat) (o : Obj) : World := { w with heap := w.heap.setIfInBounds r o }
section
variable {P : Program} {t kt et : TypeId} {w : World} {r : Nat} {l : List (ByteArray × ByteArray)}
theorem run_look (hm : P.underlying t = some (.map kt et)) (hk : P.underlying kt = some .string) (hz : ∀ u : World, (zeroValue et).run P u = .ok (.string ⟨#[]⟩) u) (hb : w.heap[r]? = some (obj l)) (k : ByteArray) (c : Bool) :
    (Instr.lookup t (.map (some r)) (.string k) c).run P w = .ok (if c then .tuple #[.string ((look l k).getD ⟨#[]⟩), .bool (look l k).isSome] else .string ((look l k).getD ⟨#[]⟩)) w := by
  have hc : ∀ e, (Instr.checkKey e 10000 kt (.string k)).run P w = .ok () w := fun e => MapKept.run_checkKey (k := .string k) hk (show MapKept.IsKey .string (.string k) from trivial) e 9999
  rcases find_ent k l 0 0 with ⟨h1, h2⟩ | ⟨v, j, h1, h2⟩
  · simp [Instr.lookup, run_underlying hm, MapKept.run_getObj_map hb, hc, MapKept.run_findKey hk h2, hz, h1, Result.andThen]
  · simp [Instr.lookup, run_underlying hm, MapKept.run_getObj_map hb, hc, MapKept.run_findKey hk h2, h1, Result.andThen]
theorem run_entry (hm : P.underlying t = some (.map kt et)) (hk : P.underlying kt = some .string) (hz : ∀ u : World, (zeroValue et).run P u = .ok (.string ⟨#[]⟩) u) (hb : w.heap[r]? = some (obj l)) {k : ByteArray} (hn : look l k = none) :
    (Instr.mapEntry t (.map (some r)) (.string k)).run P w = .ok (.tuple #[.string ⟨#[]⟩, goInt l.length]) (setObj w r (half l k)) := by
  have hc : ∀ e, (Instr.checkKey e 10000 kt (.string k)).run P w = .ok () w := fun e => MapKept.run_checkKey (k := .string k) hk (show MapKept.IsKey .string (.string k) from trivial) e 9999
  rcases find_ent k l 0 0 with ⟨h1, h2⟩ | ⟨v, j, h1, h2⟩
  · simp [Instr.mapEntry, run_underlying hm, MapKept.run_getObj_map hb, hc, MapKept.run_findKey hk h2, hz, Result.andThen, MapKept.run_setObj_map _ hb, setObj, half]
  · rw [hn] at h1; cases h1
theorem born_ent : ∀ (l : List (ByteArray × ByteArray)) (n : Nat) (x : MapEntry), (ent l n ++ [{ x with born := n + l.length }]).findIdx? (fun e : MapEntry => ((e.born : Nat) : Int) == ((n + l.length : Nat) : Int)) = some l.length
  | [], n, x => by simp [ent, List.findIdx?_cons]
  | p :: r, n, x => by
    have h := born_ent r (n + 1) x
    have e1 : n + (p :: r).length = n + 1 + r.length := by simp; omega
    rw [e1]
    simp only [ent, List.cons_append, List.findIdx?_cons]
    have e2 : (((n : Nat) : Int) == ((n + 1 + r.length : Nat) : Int)) = false := by simp; omega
    rw [e2, h]
    simp
theorem run_put {k : ByteArray} (hb : w.heap[r]? = some (half l k)) (v : ByteArray) :
    (Instr.entryStore t (.map (some r)) (goInt l.length) (.string v)).run P w = .ok () (setObj w r (obj (l ++ [(k, v)]))) := by
  have h1 := born_ent l 0 ⟨.string k, .string ⟨#[]⟩, 0⟩
  have h2 : ((ent l 0).toArray.push ⟨.string k, .string ⟨#[]⟩, l.length⟩).findIdx? (fun e : MapEntry => ((e.born : Nat) : Int) == ((l.length : Nat) : Int)) = some l.length := by
    rw [WideElems.findIdx_arr]
    simpa using h1
  have h3 : ((ent l 0).toArray.push ⟨.string k, .string ⟨#[]⟩, l.length⟩).modify l.length (fun e => { e with val := .string v }) = (ent (l ++ [(k, v)]) 0).toArray := by
    apply Array.ext'
    rw [Array.toList_modify, Array.toList_push, ent_app]
    have h := WideElems.modify_last (fun e : MapEntry => { e with val := .string v }) ⟨.string k, .string ⟨#[]⟩, l.length⟩ (ent l 0)
    rw [ent_length] at h
    simpa [ent] using h
  have hb' : w.heap[r]? = some (.map ((ent l 0).toArray.push ⟨.string k, .string ⟨#[]⟩, l.length⟩) (l.length + 1)) := hb
  simp only [Instr.entryStore, goInt, asInt, asIntOf, Sem.run_bind, Sem.run_pure, MapKept.run_getObj_map hb', Result.andThen_ok, h2, h3, MapKept.run_setObj_map _ hb', setObj, obj, List.length_append, List.length_cons, List.length_nil]
end
theorem setObj_same {w : World} {r : Nat} {o0 : Obj} (h : w.heap[r]? = some o0) (o : Obj) : (setObj w r o).heap[r]? = some o := (MapKept.heap_set h).1
theorem setObj_far {w : World} {r k : Nat} (o : Obj) (hne : k ≠ r) : (setObj w r o).heap[k]? = w.heap[k]? := by simp [setObj, Ne.symm hne]
theorem setObj_grown (w : World) (r : Nat) (o : Obj) : w.grownBy (setObj w r o) (some r) :=
  ⟨rfl, rfl, rfl, by simp [setObj], fun k _ hk => setObj_far o (fun e => hk (by rw [e]))⟩
end Go.Proofs.YtajgnkncdkibeaaGreatDoor.M
namespace Go.Proofs.YtajgnkncdkibeaaGreatDoor.M
open Go.RowKit
set_option linter.unusedVariables false
set_option linter.unusedSimpArgs false
theorem heap_setCell {W : World} {b i : Nat} {v : Value} {cs : Array Value} {T : TypeId} {fr : Nat × Nat} (h : W.heap[b]? = some (.cells cs T fr)) : (W.setCell ⟨b, i, none⟩ v).heap[b]? = some (.cells (cs.setIfInBounds i v) T fr) := by
  simp [World.setCell, Array.getElem?_modify, h]
theorem heap_setCell_far {W : World} {b i k : Nat} {v : Value} (h : k ≠ b) : (W.setCell ⟨b, i, none⟩ v).heap[k]? = W.heap[k]? := by
  simp [World.setCell, Array.getElem?_modify, Ne.symm h]
theorem grown_setCell (w : World) (b i : Nat) (u : Value) : w.grownBy (w.setCell ⟨b, i, none⟩ u) (some b) :=
  ⟨rfl, rfl, rfl, by simp [World.setCell], fun k _ hk => heap_setCell_far (fun e => hk (by rw [e]))⟩
theorem grown_refl (w : World) (row : Option Nat) : w.grownBy w row := ⟨rfl, rfl, rfl, Nat.le_refl _, fun _ _ _ => rfl⟩
theorem grown_drew (w : World) (row : Option Nat) : w.grownBy w.drew row := ⟨rfl, rfl, rfl, Nat.le_refl _, fun _ _ _ => rfl⟩
theorem grown_below {w w' : World} {row : Option Nat} {B : Nat} (h : Below B w w') (hB : w.heap.size ≤ B) : w.grownBy w' row :=
  ⟨h.os, h.tape, h.output, h.size, fun i hi _ => h.block i (Nat.lt_of_lt_of_le hi hB)⟩
def mkc (d s a : Int) (p g : Option Nat) : Array Value := #[.int .u32 d, .int .i32 s, .int .u32 0, .int .i64 a, .map p, .map g]
structure Mk (b : Nat) (d s a : Int) (p g : Option Nat) (W : World) : Prop where
  blk : W.heap[b]? = some (.cells (mkc d s a p g) 62 (0, 0))
section
variable {b : Nat} {d s a : Int} {p g : Option Nat} {W : World}
theorem Mk.c0 (h : Mk b d s a p g W) : W.cell? ⟨b, 0, none⟩ = some (.int .u32 d) := (Lib.cell_of_heap h.blk 0).trans rfl
theorem Mk.c1 (h : Mk b d s a p g W) : W.cell? ⟨b, 1, none⟩ = some (.int .i32 s) := (Lib.cell_of_heap h.blk 1).trans rfl
theorem Mk.c2 (h : Mk b d s a p g W) : W.cell? ⟨b, 2, none⟩ = some (.int .u32 0) := (Lib.cell_of_heap h.blk 2).trans rfl
theorem Mk.c3 (h : Mk b d s a p g W) : W.cell? ⟨b, 3, none⟩ = some (.int .i64 a) := (Lib.cell_of_heap h.blk 3).trans rfl
theorem Mk.c4 (h : Mk b d s a p g W) : W.cell? ⟨b, 4, none⟩ = some (.map p) := (Lib.cell_of_heap h.blk 4).trans rfl
theorem Mk.c5 (h : Mk b d s a p g W) : W.cell? ⟨b, 5, none⟩ = some (.map g) := (Lib.cell_of_heap h.blk 5).trans rfl
theorem Mk.fz (h : Mk b d s a p g W) (i : Nat) : W.frozen? ⟨b, i, none⟩ = false := by simp [World.frozen?, h.blk]
theorem Mk.s0 (h : Mk b d s a p g W) (x : Int) : Mk b x s a p g (W.setCell ⟨b, 0, none⟩ (.int .u32 x)) := ⟨(heap_setCell h.blk).trans rfl⟩
theorem Mk.s1 (h : Mk b d s a p g W) (x : Int) : Mk b d x a p g (W.setCell ⟨b, 1, none⟩ (.int .i32 x)) := ⟨(heap_setCell h.blk).trans rfl⟩
theorem Mk.s3 (h : Mk b d s a p g W) (x : Int) : Mk b d s x p g (W.setCell ⟨b, 3, none⟩ (.int .i64 x)) := ⟨(heap_setCell h.blk).trans rfl⟩
theorem Mk.s4 (h : Mk b d s a p g W) (x : Option Nat) : Mk b d s a x g (W.setCell ⟨b, 4, none⟩ (.map x)) := ⟨(heap_setCell h.blk).trans rfl⟩
theorem Mk.s5 (h : Mk b d s a p g W) (x : Option Nat) : Mk b d s a p x (W.setCell ⟨b, 5, none⟩ (.map x)) := ⟨(heap_setCell h.blk).trans rfl⟩
theorem Mk.drew (h : Mk b d s a p g W) : Mk b d s a p g W.drew := ⟨h.blk⟩
theorem Mk.lt (h : Mk b d s a p g W) : b < W.heap.size := (Array.getElem?_eq_some_iff.1 h.blk).1
theorem Mk.kept {W1 : World} {row : Option Nat} (h : Mk b d s a p g W) (hg : W.grownBy W1 row) (hne : some b ≠ row) : Mk b d s a p g W1 := ⟨(hg.block b h.lt hne).trans h.blk⟩
end
theorem disable (w : World) : (callFunc 85 #[]).run Tryz.prog w = .ok (.value (.tuple #[])) w := run_call_mark0 Tryz.func85 (by kernel_rfl) (by kernel_rfl) (by kernel_rfl) .disable (by kernel_rfl) w
theorem enable (w : World) : (callFunc 87 #[]).run Tryz.prog w = .ok (.value (.tuple #[])) w := run_call_mark0 Tryz.func87 (by kernel_rfl) (by kernel_rfl) (by kernel_rfl) .enable (by kernel_rfl) w
theorem acquire (a : Addr) (w : World) : (callFunc 88 #[.pointer (some a)]).run Tryz.prog w = .ok (.value (.tuple #[])) w := run_call_marked Tryz.func88 (by kernel_rfl) (by kernel_rfl) (by kernel_rfl) .acquire (by kernel_rfl) a w
theorem releaseMerge (a : Addr) (w : World) : (callFunc 90 #[.pointer (some a)]).run Tryz.prog w = .ok (.value (.tuple #[])) w := run_call_marked Tryz.func90 (by kernel_rfl) (by kernel_rfl) (by kernel_rfl) .releaseMerge (by kernel_rfl) a w
theorem not_run (x : Bool) (w : World) : (Op.unary .not (.bool x)).run Tryz.prog w = .ok (.bool (!x)) w := rfl
theorem load_any (a : Addr) (d : Int) (w : World) (h0 : w.cell? a = some (.int .u32 d)) :
    Calls Tryz.prog 44 #[.pointer (some a)] w fun e w' => e = .returned (.bool (d != 0)) ∧ w' = w := by
  have hl := run_call_load (P := Tryz.prog) Tryz.func61 (by kernel_rfl) (by kernel_rfl) (by kernel_rfl) .u32 (by kernel_rfl) h0
  go_enter Tryz.func44, Tryz.ntmps44
  go_wp2
  go_ret
  exact ⟨rfl, rfl⟩
set_option maxRecDepth 100000 in
set_option maxHeartbeats 1600000 in
theorem inner_lock (a : Addr) (w : World) (hc : w.cell? a = some (.int .i32 0)) (hz : w.frozen? a = false) :
    Calls Tryz.prog 75 #[.pointer (some a)] w fun e w' => e = .returned (.tuple #[]) ∧ w' = w.setCell a (.int .i32 1) := by
  have hd := disable
  have he := enable
  have ha := acquire
  have hcas := run_call_cas_hit (P := Tryz.prog) Tryz.func86 (by kernel_rfl) (by kernel_rfl) (by kernel_rfl) .i32 (by kernel_rfl) (y := 1) hc hz
  have hc' : (w.setCell a (.int .i32 1)).cell? a = some (.int .i32 1) := World.cell?_setCell_same w a _ hc
  have hcv := run_convert_to_unsafe (P := Tryz.prog) (src := 139) (dst := 128) Tryz.underlying139 Tryz.underlying128 (by kernel_rfl) hc'
  go_enter Tryz.func75, Tryz.ntmps75
  go_wp2
  first | go_end0 | (simp only [Exit.inBlock, Exit.then]; refine bodyPost_ret (results_none rfl _ _ _) rfl ?_) | refine bodyPost_ret (results_none rfl _ _ _) rfl ?_
  all_goals (try go_wp2)
  all_goals (try go_end0)
  all_goals exact ⟨rfl, rfl⟩
theorem lock_free (a : Addr) (w : World) (hc : w.cell? a = some (.int .i32 0)) (hz : w.frozen? a = false) :
    Calls Tryz.prog 62 #[.pointer (some a)] w fun e w' => e = .returned (.tuple #[]) ∧ w' = w.setCell a (.int .i32 1) := by
  go_enter Tryz.func62, Tryz.ntmps62
  go_wp2_with (go_at_call 75; refine (inner_lock a _ hc hz).mono ?_; rintro e w' ⟨rfl, rfl⟩)
  go_end0
  exact ⟨rfl, rfl⟩
set_option maxRecDepth 100000 in
set_option maxHeartbeats 1600000 in
theorem inner_unlock (a : Addr) (w : World) (hc : w.cell? a = some (.int .i32 1)) (hz : w.frozen? a = false) :
    Calls Tryz.prog 76 #[.pointer (some a)] w fun e w' => e = .returned (.tuple #[]) ∧ w' = w.setCell a (.int .i32 0) := by
  have hd := disable
  have he := enable
  have hr := releaseMerge
  have hadd := run_call_add (P := Tryz.prog) Tryz.func91 (by kernel_rfl) (by kernel_rfl) (by kernel_rfl) .i32 (by kernel_rfl) (y := -1) (s := 0) hc hz (by simp [go_sem]; rfl)
  have hcv := run_convert_to_unsafe (P := Tryz.prog) (src := 139) (dst := 128) Tryz.underlying139 Tryz.underlying128 (by kernel_rfl) hc
  go_enter Tryz.func76, Tryz.ntmps76
  go_wp2
  go_end0
  all_goals (try go_wp2)
  all_goals (try go_end0)
  all_goals exact ⟨rfl, rfl⟩
theorem unlock_deferred (a : Addr) (u : FrameMode) (w : World) (hc : w.cell? a = some (.int .i32 1)) (hz : w.frozen? a = false) :
    CallsD Tryz.prog 63 #[.pointer (some a)] u w fun e u' w' => u' = u ∧ (e = .returned (.tuple #[]) ∧ w' = w.setCell a (.int .i32 0)) := by
  go_enter_d Tryz.func63, Tryz.ntmps63
  go_wp2_with (go_at_call 76; refine (inner_unlock a _ hc hz).mono ?_; rintro e w' ⟨rfl, rfl⟩)
  go_end0
  exact ⟨rfl, rfl⟩
theorem store_deferred (a : Addr) (x : Value) (u : FrameMode) (w : World) (hc : w.cell? a = some x) (hz : w.frozen? a = false) :
    CallsD Tryz.prog 64 #[.pointer (some a), .bool true] u w fun e u' w' => u' = u ∧ (e = .returned (.tuple #[]) ∧ w' = w.drew.setCell a (.int .u32 1)) := by
  have hc' : w.drew.cell? a = some x := by go_simp
  have hz' : w.drew.frozen? a = false := by go_simp
  have hst := run_call_store (P := Tryz.prog) Tryz.func77 (by kernel_rfl) (by kernel_rfl) (by kernel_rfl) (by kernel_rfl) (k := .u32) (y := 1) hc' hz'
  go_enter_d Tryz.func64, Tryz.ntmps64
  go_wp2
  go_region_calls
  all_goals (go_end0; exact ⟨rfl, rfl⟩)
end Go.Proofs.YtajgnkncdkibeaaGreatDoor.M
namespace Go.Proofs.YtajgnkncdkibeaaGreatDoor.M
open Go.RowKit
set_option linter.unusedVariables false
set_option linter.unusedSimpArgs false
def ptsL : List (ByteArray × ByteArray) := [(⟨#[100, 101]⟩, ⟨#[44]⟩), (⟨#[110, 108]⟩, ⟨#[44]⟩), (⟨#[101, 115]⟩, ⟨#[44]⟩), (⟨#[102, 114]⟩, ⟨#[44]⟩), (⟨#[114, 117]⟩, ⟨#[44]⟩), (⟨#[99, 115]⟩, ⟨#[44]⟩), (⟨#[112, 108]⟩, ⟨#[44]⟩), (⟨#[115, 118]⟩, ⟨#[44]⟩)]
def grsL : List (ByteArray × ByteArray) := [(⟨#[100, 101]⟩, ⟨#[46]⟩), (⟨#[110, 108]⟩, ⟨#[46]⟩), (⟨#[101, 115]⟩, ⟨#[46]⟩), (⟨#[102, 114]⟩, ⟨#[226, 128, 175]⟩), (⟨#[114, 117]⟩, ⟨#[194, 160]⟩), (⟨#[99, 115]⟩, ⟨#[194, 160]⟩), (⟨#[112, 108]⟩, ⟨#[194, 160]⟩), (⟨#[115, 118]⟩, ⟨#[194, 160]⟩)]
structure Full (b : Nat) (d s a : Int) (p g : Nat) (W : World) : Prop where
  ck : Mk b d s a (some p) (some g) W
  pt : W.heap[p]? = some (obj ptsL)
  gr : W.heap[g]? = some (obj grsL)
section
variable {b : Nat} {d s a : Int} {p g : Nat} {W : World}
theorem Full.pb (h : Full b d s a p g W) : p ≠ b := fun e => by have := h.pt; rw [e, h.ck.blk] at this; cases this
theorem Full.gb (h : Full b d s a p g W) : g ≠ b := fun e => by have := h.gr; rw [e, h.ck.blk] at this; cases this
theorem Full.s0 (h : Full b d s a p g W) (x : Int) : Full b x s a p g (W.setCell ⟨b, 0, none⟩ (.int .u32 x)) := ⟨h.ck.s0 x, (heap_setCell_far h.pb).trans h.pt, (heap_setCell_far h.gb).trans h.gr⟩
theorem Full.s1 (h : Full b d s a p g W) (x : Int) : Full b d x a p g (W.setCell ⟨b, 1, none⟩ (.int .i32 x)) := ⟨h.ck.s1 x, (heap_setCell_far h.pb).trans h.pt, (heap_setCell_far h.gb).trans h.gr⟩
theorem Full.s3 (h : Full b d s a p g W) (x : Int) : Full b d s x p g (W.setCell ⟨b, 3, none⟩ (.int .i64 x)) := ⟨h.ck.s3 x, (heap_setCell_far h.pb).trans h.pt, (heap_setCell_far h.gb).trans h.gr⟩
theorem Full.drew (h : Full b d s a p g W) : Full b d s a p g W.drew := ⟨h.ck.drew, h.pt, h.gr⟩
theorem Full.kept {W1 : World} {row : Option Nat} (h : Full b d s a p g W) (hg : W.grownBy W1 row) (hr : ∀ k, row = some k → k ≠ b ∧ k ≠ p ∧ k ≠ g) : Full b d s a p g W1 :=
  ⟨h.ck.kept hg (fun e => (hr b e.symm).1 rfl), (hg.block p (Array.getElem?_eq_some_iff.1 h.pt).1 (fun e => (hr p e.symm).2.1 rfl)).trans h.pt, (hg.block g (Array.getElem?_eq_some_iff.1 h.gr).1 (fun e => (hr g e.symm).2.2 rfl)).trans h.gr⟩
end
def Fills : Prop := ∀ (b : Nat) (d s a : Int) (W : World), Mk b d s a none none W → Calls Tryz.prog 30 #[.pointer (some ⟨b, 0, none⟩)] W fun e w' => e = .returned (.tuple #[]) ∧ ∃ p g, Full b d s a p g w' ∧ W.grownBy w' (some b)
set_option maxRecDepth 100000 in
set_option maxHeartbeats 1600000 in
theorem slow_any (hF : Fills) (b : Nat) (a : Int) (w : World) (h : Mk b 0 0 a none none w) :
    Calls Tryz.prog 45 #[.pointer (some ⟨b, 0, none⟩), .func (.func 30) #[.pointer (some ⟨b, 0, none⟩)] #[]] w fun e w' => e = .returned (.tuple #[]) ∧ ∃ p g, Full b 1 0 a p g w' ∧ w.grownBy w' (some b) := by
  have c1 := h.c1
  have f1 := h.fz 1
  have h1 := h.s1 1
  have k1 := h1.c0
  have hnot := not_run
  go_enter_defers Tryz.func45, Tryz.ntmps45
  go_wp2_with (first
    | (go_at_call 62; refine (lock_free ⟨b, 1, none⟩ _ c1 f1).mono ?_; rintro e w' ⟨rfl, rfl⟩)
    | (go_at_call 44; refine (load_any ⟨b, 0, none⟩ 0 _ k1).mono ?_; rintro e w' ⟨rfl, rfl⟩)
    | (go_at_call 30; refine (hF b 0 1 a _ h1).mono ?_; rintro e w' ⟨rfl, p, g, hf, hg⟩))
  refine leaves_cons (f := 64) (args := #[.pointer (some ⟨b, 0, none⟩), .bool true]) (by simp) (by simp [go_sem]) ?_
  refine (store_deferred ⟨b, 0, none⟩ (.int .u32 0) .returning _ hf.ck.c0 (hf.ck.fz 0)).mono ?_
  rintro e u' w'' ⟨rfl, rfl, rfl⟩
  have hf1 := hf.drew.s0 1
  refine leaves_cons (f := 63) (args := #[.pointer (some ⟨b, 1, none⟩)]) (by simp [settle]) (by simp [go_sem]) ?_
  refine (unlock_deferred ⟨b, 1, none⟩ _ _ hf1.ck.c1 (hf1.ck.fz 1)).mono ?_
  rintro e u' w'' ⟨rfl, rfl, rfl⟩
  have hg2 : w.grownBy (((w'.drew).setCell ⟨b, 0, none⟩ (.int .u32 1)).setCell ⟨b, 1, none⟩ (.int .i32 0)) (some b) := ((((grown_setCell w b 1 _).trans hg).trans (grown_drew _ _)).trans (grown_setCell _ b 0 _)).trans (grown_setCell _ b 1 _)
  simp [Leaves, settle, results, Tryz.results45]
  exact ⟨⟨p, g, hf1.s1 0⟩, hg2⟩
set_option maxRecDepth 100000 in
set_option maxHeartbeats 1600000 in
theorem do_first (hF : Fills) (b : Nat) (a : Int) (w : World) (h : Mk b 0 0 a none none w) :
    Calls Tryz.prog 29 #[.pointer (some ⟨b, 0, none⟩), .func (.func 30) #[.pointer (some ⟨b, 0, none⟩)] #[]] w fun e w' => e = .returned (.tuple #[]) ∧ ∃ p g, Full b 1 0 a p g w' ∧ w.grownBy w' (some b) := by
  have c0 := h.c0
  have hnot := not_run
  go_enter Tryz.func29, Tryz.ntmps29
  go_wp2_with (first
    | (go_at_call 44; refine (load_any ⟨b, 0, none⟩ 0 _ c0).mono ?_; rintro e w' ⟨rfl, rfl⟩)
    | (go_at_call 45; refine (slow_any hF b a _ h).mono ?_; rintro e w' ⟨rfl, p, g, hf, hg⟩))
  go_end0
  exact ⟨rfl, p, g, hf, hg⟩
theorem do_done (b : Nat) (a : Int) (p g : Option Nat) (fv : Value) (w : World) (h : Mk b 1 0 a p g w) :
    Calls Tryz.prog 29 #[.pointer (some ⟨b, 0, none⟩), fv] w fun e w' => e = .returned (.tuple #[]) ∧ w' = w := by
  have c0 := h.c0
  have hnot := not_run
  go_enter Tryz.func29, Tryz.ntmps29
  go_wp2_with (go_at_call 44; refine (load_any ⟨b, 0, none⟩ 1 _ c0).mono ?_; rintro e w' ⟨rfl, rfl⟩)
  go_end0
  exact ⟨rfl, rfl⟩
theorem add_any (b : Nat) (d s a : Int) (p g : Option Nat) (ha : 0 ≤ a) (ha9 : a ≤ 1000) (w : World) (h : Mk b d s a p g w) :
    Calls Tryz.prog 31 #[.pointer (some ⟨b, 3, none⟩), .int .i64 1] w fun e w' => e = .returned (.int .i64 (a + 1)) ∧ w' = w.setCell ⟨b, 3, none⟩ (.int .i64 (a + 1)) := by
  have hadd := run_call_add (P := Tryz.prog) Tryz.func46 (by kernel_rfl) (by kernel_rfl) (by kernel_rfl) .i64 (by kernel_rfl) (y := 1) (s := a + 1) h.c3 (h.fz 3) (by simp only [Op.intArith, IntKind.wrap_i64]; rw [show (a + 1 + 9223372036854775808) % 18446744073709551616 - 9223372036854775808 = a + 1 by omega]; rfl)
  go_enter Tryz.func31, Tryz.ntmps31
  go_wp2
  go_ret
  exact ⟨rfl, rfl⟩
theorem asked_load (b : Nat) (d s a : Int) (p g : Option Nat) (w : World) (h : Mk b d s a p g w) :
    Calls Tryz.prog 35 #[.pointer (some ⟨b, 3, none⟩)] w fun e w' => e = .returned (.int .i64 a) ∧ w' = w := by
  have hl := run_call_load (P := Tryz.prog) Tryz.func51 (by kernel_rfl) (by kernel_rfl) (by kernel_rfl) .i64 (by kernel_rfl) h.c3
  go_enter Tryz.func35, Tryz.ntmps35
  go_wp2
  go_ret
  exact ⟨rfl, rfl⟩
theorem asked_any (b : Nat) (d s a : Int) (p g : Option Nat) (w : World) (h : Mk b d s a p g w) :
    Calls Tryz.prog 17 #[.pointer (some ⟨b, 0, none⟩)] w fun e w' => e = .returned (.int .i64 a) ∧ w' = w := by
  go_enter Tryz.func17, Tryz.ntmps17
  go_wp2_with (go_at_call 35; refine (asked_load b d s a p g _ h).mono ?_; rintro e w' ⟨rfl, rfl⟩)
  go_ret
  exact ⟨rfl, rfl⟩
end Go.Proofs.YtajgnkncdkibeaaGreatDoor.M
namespace Go.Proofs.YtajgnkncdkibeaaGreatDoor.M
open Go.RowKit
set_option linter.unusedVariables false
set_option linter.unusedSimpArgs false
def oM (l : List (ByteArray × ByteArray)) (k v : ByteArray) (e s : Bool) : Obj := if s = true then obj (l ++ [(k, v)]) else if e = true then half l k else obj l
def rowL : Array Value := #[.string ⟨#[100, 101, 44, 46]⟩, .string ⟨#[110, 108, 44, 46]⟩, .string ⟨#[101, 115, 44, 46]⟩, .string ⟨#[102, 114, 44, 226, 128, 175]⟩, .string ⟨#[114, 117, 44, 194, 160]⟩, .string ⟨#[99, 115, 44, 194, 160]⟩, .string ⟨#[112, 108, 44, 194, 160]⟩, .string ⟨#[115, 118, 44, 194, 160]⟩]
structure St (w0 : World) (b : Nat) (d s a : Int) (p g q : Nat) (lp lg : List (ByteArray × ByteArray)) (k x y : ByteArray) (e1 s1 e2 s2 : Bool) (W : World) : Prop where
  ck : Mk b d s a (some p) (some g) W
  pt : W.heap[p]? = some (oM lp k x e1 s1)
  gr : W.heap[g]? = some (oM lg k y e2 s2)
  rw : W.heap[q]? = some (.cells rowL 9 (0, 0))
  gw : w0.grownBy W (some b)
  np : w0.heap.size ≤ p
  ng : w0.heap.size ≤ g
  pg : p ≠ g
section
variable {w0 : World} {b : Nat} {d s a : Int} {p g q : Nat} {lp lg : List (ByteArray × ByteArray)} {k x y : ByteArray} {e1 s1 e2 s2 : Bool} {W : World}
theorem oM_map (l : List (ByteArray × ByteArray)) (k v : ByteArray) (e s : Bool) : ∃ es c, oM l k v e s = .map es c := by
  unfold oM; split
  · exact ⟨_, _, rfl⟩
  · split <;> exact ⟨_, _, rfl⟩
theorem St.pb (h : St w0 b d s a p g q lp lg k x y e1 s1 e2 s2 W) : p ≠ b := fun e => by
  have h1 := h.pt; obtain ⟨es, c, h2⟩ := oM_map lp k x e1 s1; rw [e, h.ck.blk, h2] at h1; cases h1
theorem St.gb (h : St w0 b d s a p g q lp lg k x y e1 s1 e2 s2 W) : g ≠ b := fun e => by
  have h1 := h.gr; obtain ⟨es, c, h2⟩ := oM_map lg k y e2 s2; rw [e, h.ck.blk, h2] at h1; cases h1
theorem St.pq (h : St w0 b d s a p g q lp lg k x y e1 s1 e2 s2 W) : q ≠ p := fun e => by
  have h1 := h.pt; obtain ⟨es, c, h2⟩ := oM_map lp k x e1 s1; rw [← e, h.rw, h2] at h1; cases h1
theorem St.gq (h : St w0 b d s a p g q lp lg k x y e1 s1 e2 s2 W) : q ≠ g := fun e => by
  have h1 := h.gr; obtain ⟨es, c, h2⟩ := oM_map lg k y e2 s2; rw [← e, h.rw, h2] at h1; cases h1
theorem St.drew (h : St w0 b d s a p g q lp lg k x y e1 s1 e2 s2 W) : St w0 b d s a p g q lp lg k x y e1 s1 e2 s2 W.drew := ⟨h.ck.drew, h.pt, h.gr, h.rw, h.gw.trans (grown_drew _ _), h.np, h.ng, h.pg⟩
theorem St.toP (h : St w0 b d s a p g q lp lg k x y e1 s1 e2 s2 W) {e1' s1' : Bool} {o : Obj} (ho : o = oM lp k x e1' s1') : St w0 b d s a p g q lp lg k x y e1' s1' e2 s2 (setObj W p o) :=
  ⟨⟨(setObj_far o (Ne.symm h.pb)).trans h.ck.blk⟩, (setObj_same h.pt o).trans (by rw [ho]), (setObj_far o (Ne.symm h.pg)).trans h.gr, (setObj_far o h.pq).trans h.rw, h.gw.andThen (setObj_grown W p o) (fun j hj => by cases hj; exact .inl h.np), h.np, h.ng, h.pg⟩
theorem St.toG (h : St w0 b d s a p g q lp lg k x y e1 s1 e2 s2 W) {e2' s2' : Bool} {o : Obj} (ho : o = oM lg k y e2' s2') : St w0 b d s a p g q lp lg k x y e1 s1 e2' s2' (setObj W g o) :=
  ⟨⟨(setObj_far o (Ne.symm h.gb)).trans h.ck.blk⟩, (setObj_far o h.pg).trans h.pt, (setObj_same h.gr o).trans (by rw [ho]), (setObj_far o h.gq).trans h.rw, h.gw.andThen (setObj_grown W g o) (fun j hj => by cases hj; exact .inl h.ng), h.np, h.ng, h.pg⟩
theorem St.get (h : St w0 b d s a p g q lp lg k x y e1 s1 e2 s2 W) : W.cell? ⟨b, 4, none⟩ = some (.map (some p)) ∧ W.cell? ⟨b, 5, none⟩ = some (.map (some g)) := ⟨h.ck.c4, h.ck.c5⟩
end
theorem zstr (u : World) : (zeroValue 9).run Tryz.prog u = .ok (.string ⟨#[]⟩) u := by kernel_rfl
section
variable {a : Operand → Value} {o : Oper} {W W1 : World} {r : Nat} {m x y : Operand} {k v : ByteArray} {l : List (ByteArray × ByteArray)}
theorem exec_entry (ho : o.op = .mapEntry 60 m x) (hm : a m = .map (some r)) (hx : a x = .string k) (hb : W.heap[r]? = some (obj l)) (hn : look l k = none) :
    (execOp a o).run Tryz.prog W = .ok (.value (.tuple #[.string ⟨#[]⟩, .int .i64 l.length])) (setObj W r (half l k)) := by
  unfold execOp
  simp only [ho, hm, hx, Sem.run_bind, run_entry Tryz.underlying60 Tryz.underlying9 zstr hb hn, Result.andThen_ok, Sem.run_pure, goInt]
theorem exec_put (ho : o.op = .entryStore 60 m x y) (hm : a m = .map (some r)) (hx : a x = .int .i64 l.length) (hy : a y = .string v) (hb : W.heap[r]? = some (half l k)) :
    (execOp a o).run Tryz.prog W = .ok .skip (setObj W r (obj (l ++ [(k, v)]))) := by
  have h := run_put (P := Tryz.prog) (t := 60) hb v
  unfold goInt at h
  unfold execOp
  simp only [ho, hm, hx, hy, Sem.run_bind, h, Result.andThen_ok, Sem.run_pure]
end
section
variable {a : Act} {o : Oper} {W : World} {x : Operand} {s : ByteArray}
theorem exec_to (h : Nat) (ho : o.op = .slice 9 x none (some (.const (.int .i64 h))) none) (hx : a.eval x = .string s) (hs : h ≤ s.size) : (execOp a.eval o).run Tryz.prog W = .ok (.value (.string (s.extract 0 h))) W := by
  have hr := run_slice_string_h (P := Tryz.prog) W 9 s Tryz.underlying9 .i64 h (by omega) (by omega)
  unfold execOp
  simp only [ho, Option.map_none, Option.map_some, hx, show a.eval (.const (.int .i64 h)) = .int .i64 h from rfl, run_sliceAt_string (P := Tryz.prog) (h := Tryz.underlying9), Sem.run_bind, hr, Result.andThen_ok, Sem.run_pure, Int.toNat_natCast]
theorem exec_from (l : Nat) (ho : o.op = .slice 9 x (some (.const (.int .i64 l))) none none) (hx : a.eval x = .string s) (hs : l ≤ s.size) : (execOp a.eval o).run Tryz.prog W = .ok (.value (.string (s.extract l s.size))) W := by
  have hr := run_slice_string_l (P := Tryz.prog) W 9 s Tryz.underlying9 .i64 l (by omega) (by omega)
  unfold execOp
  simp only [ho, Option.map_none, Option.map_some, hx, show a.eval (.const (.int .i64 l)) = .int .i64 l from rfl, run_sliceAt_string (P := Tryz.prog) (h := Tryz.underlying9), Sem.run_bind, hr, Result.andThen_ok, Sem.run_pure, Int.toNat_natCast]
theorem exec_part (l h : Nat) (ho : o.op = .slice 9 x (some (.const (.int .i64 l))) (some (.const (.int .i64 h))) none) (hx : a.eval x = .string s) (hl : l ≤ h) (hs : h ≤ s.size) : (execOp a.eval o).run Tryz.prog W = .ok (.value (.string (s.extract l h))) W := by
  have hr : (Instr.slice 9 (.string s) (some (.int .i64 l)) (some (.int .i64 h)) none).run Tryz.prog W = .ok (.string (s.extract (l : Int).toNat (h : Int).toNat)) W := by rw [run_slice_string (h := Tryz.underlying9)] <;> omega
  unfold execOp
  simp only [ho, Option.map_none, Option.map_some, hx, show a.eval (.const (.int .i64 l)) = .int .i64 l from rfl, show a.eval (.const (.int .i64 h)) = .int .i64 h from rfl, run_sliceAt_string (P := Tryz.prog) (h := Tryz.underlying9), Sem.run_bind, hr, Result.andThen_ok, Sem.run_pure, Int.toNat_natCast]
end
end Go.Proofs.YtajgnkncdkibeaaGreatDoor.M
namespace Go.Proofs.YtajgnkncdkibeaaGreatDoor.M
open Go.RowKit Go.Proofs.YtajgnkncdkibeaaGreatDoorW.PrintWords Go.Proofs.YtajgnkncdkibeaaGreatDoorW.PrintLast
set_option linter.unusedVariables false
set_option linter.unusedSimpArgs false
def fill_round.T : Bool × List (List Nat × List Nat) := (true, [([], []), ([0], [0]), ([1], [1]), ([2], [2]), ([], []), ([4], [4]), ([], []), ([6], [6]), ([7], [7]), ([8], [8]), ([], []), ([10], [10]), ([], []), ([12], [12]), ([], []), ([14], [14]), ([3, 5, 9], [3, 5]), ([16], [16]), ([3, 17, 13, 16, 0, 1, 2, 3, 4, 5, 9, 12, 13, 16], [3, 13, 17]), ([9, 11, 18, 0, 1, 2, 3, 4, 5, 9, 12, 13, 16, 17, 18], [9, 11]), ([19], [19]), ([9, 20, 15, 19, 0, 1, 2, 3, 4, 5, 6, 7, 8, 9, 10, 11, 12, 13, 14, 15, 16, 17, 18, 19], [9, 15, 20])])
def fill_round.B : List Nat := [0, 1, 3, 7, 0, 16, 0, 64, 192, 448, 0, 1024, 0, 4096, 0, 16384, 1023, 66559, 209919, 475135, 999423, 2097151]
theorem fill_round.tab : rtab .any (opsOf Tryz.f30 4) = fill_round.T := by kernel_rfl
theorem fill_round.bits : waitsOk fill_round.T.2 fill_round.B = true := by kernel_rfl
set_option maxRecDepth 100000 in
set_option maxHeartbeats 4000000 in
theorem fill_round (w0 : World) (b0 : Nat) (d0 sx ax : Int) (p g q : Nat) (lp lg : List (ByteArray × ByteArray)) (s : ByteArray) (hs : 3 ≤ s.size) (hs9 : s.size ≤ 100) (hlp : look lp (s.extract 0 2) = none) (hlg : look lg (s.extract 0 2) = none) (a0 : Act) (s0 : a0.tmps[0]? = some (.pointer (some ⟨b0, 0, none⟩))) (s3 : a0.tmps[3]? = some (.string s)) (hsz : a0.tmps.size = Tryz.f30.ntmps) (W : World) (hI : St w0 b0 d0 sx ax p g q lp lg (s.extract 0 2) (s.extract 2 3) (s.extract 3 s.size) ((fun _ => false) 16) ((fun _ => false) 18) ((fun _ => false) 19) ((fun _ => false) 21) W.drew) (Q : Exit → Act → World → Prop) (hend : ∀ (a9 : Act) w', St w0 b0 d0 sx ax p g q lp lg (s.extract 0 2) (s.extract 2 3) (s.extract 3 s.size) ((fun _ => true) 16) ((fun _ => true) 18) ((fun _ => true) 19) ((fun _ => true) 21) w' → a9 = putSel a0 (fun _ => true) [(0, 18, .pointer (some ⟨b0, 0, none⟩)), (1, 19, .pointer (some ⟨b0, 0, none⟩)), (2, 20, .pointer (some ⟨b0, 4, none⟩)), (3, 21, .map (some p)), (4, 22, .string s), (5, 23, .string (s.extract 0 2)), (6, 24, .pointer (some ⟨b0, 0, none⟩)), (7, 25, .pointer (some ⟨b0, 0, none⟩)), (8, 26, .pointer (some ⟨b0, 5, none⟩)), (9, 27, .map (some g)), (10, 28, .string s), (11, 29, .string (s.extract 0 2)), (12, 30, .string s), (13, 31, .string (s.extract 2 3)), (14, 32, .string s), (15, 33, .string (s.extract 3 s.size)), (16, 34, .tuple #[.string ⟨#[]⟩, .int .i64 lp.length]), (17, 35, .int .i64 lp.length), (19, 36, .tuple #[.string ⟨#[]⟩, .int .i64 lg.length]), (20, 37, .int .i64 lg.length)] → a9.defers = a0.defers → Q .normal a9 w') :
    (Code.region 4 #[{ dst := some 18, op := Op.move (Operand.tmp 0), type := 44, pos := "number.go:94", after := #[], guard := none }, { dst := some 19, op := Op.nilCheck (Operand.tmp 18), type := 0, pos := "number.go:94", after := #[{ on := 0, ground := Ground.data }], guard := none }, { dst := some 20, op := Op.fieldAddr 62 (Operand.tmp 19) 2, type := 0, pos := "number.go:94", after := #[{ on := 1, ground := Ground.data }], guard := none }, { dst := some 21, op := Op.load 60 (Operand.tmp 20), type := 60, pos := "number.go:94", after := #[{ on := 2, ground := Ground.data }], guard := none }, { dst := some 22, op := Op.move (Operand.tmp 3), type := 9, pos := "number.go:94", after := #[], guard := none }, { dst := some 23, op := Op.slice 9 (Operand.tmp 22) none (some (Operand.const (Value.int IntKind.i64 2))) none, type := 9, pos := "number.go:94", after := #[{ on := 4, ground := Ground.data }], guard := none }, { dst := some 24, op := Op.move (Operand.tmp 0), type := 44, pos := "number.go:94", after := #[], guard := none }, { dst := some 25, op := Op.nilCheck (Operand.tmp 24), type := 0, pos := "number.go:94", after := #[{ on := 6, ground := Ground.data }], guard := none }, { dst := some 26, op := Op.fieldAddr 62 (Operand.tmp 25) 3, type := 0, pos := "number.go:94", after := #[{ on := 7, ground := Ground.data }], guard := none }, { dst := some 27, op := Op.load 60 (Operand.tmp 26), type := 60, pos := "number.go:94", after := #[{ on := 8, ground := Ground.data }], guard := none }, { dst := some 28, op := Op.move (Operand.tmp 3), type := 9, pos := "number.go:94", after := #[], guard := none }, { dst := some 29, op := Op.slice 9 (Operand.tmp 28) none (some (Operand.const (Value.int IntKind.i64 2))) none, type := 9, pos := "number.go:94", after := #[{ on := 10, ground := Ground.data }], guard := none }, { dst := some 30, op := Op.move (Operand.tmp 3), type := 9, pos := "number.go:94", after := #[], guard := none }, { dst := some 31, op := Op.slice 9 (Operand.tmp 30) (some (Operand.const (Value.int IntKind.i64 2))) (some (Operand.const (Value.int IntKind.i64 3))) none, type := 9, pos := "number.go:94", after := #[{ on := 12, ground := Ground.data }], guard := none }, { dst := some 32, op := Op.move (Operand.tmp 3), type := 9, pos := "number.go:94", after := #[], guard := none }, { dst := some 33, op := Op.slice 9 (Operand.tmp 32) (some (Operand.const (Value.int IntKind.i64 3))) none none, type := 9, pos := "number.go:94", after := #[{ on := 14, ground := Ground.data }], guard := none }, { dst := some 34, op := Op.mapEntry 60 (Operand.tmp 21) (Operand.tmp 23), type := 0, pos := "number.go:94", after := #[{ on := 3, ground := Ground.data }, { on := 5, ground := Ground.data }, { on := 0, ground := Ground.textOnly Departure.tupleMapEntryFirst }, { on := 1, ground := Ground.textOnly Departure.tupleMapEntryFirst }, { on := 2, ground := Ground.textOnly Departure.tupleMapEntryFirst }, { on := 3, ground := Ground.textOnly Departure.tupleMapEntryFirst }, { on := 4, ground := Ground.textOnly Departure.tupleMapEntryFirst }, { on := 5, ground := Ground.textOnly Departure.lateStoresUnsure }, { on := 6, ground := Ground.textOnly Departure.lateStores }, { on := 7, ground := Ground.textOnly Departure.lateStoresUnsure }, { on := 8, ground := Ground.textOnly Departure.lateStoresUnsure }, { on := 9, ground := Ground.phase }, { on := 10, ground := Ground.textOnly Departure.lateStores }, { on := 11, ground := Ground.textOnly Departure.lateStoresUnsure }, { on := 12, ground := Ground.textOnly Departure.tupleMapEntryFirst }, { on := 13, ground := Ground.textOnly Departure.lateStoresUnsure }, { on := 14, ground := Ground.textOnly Departure.lateStores }, { on := 15, ground := Ground.textOnly Departure.lateStoresUnsure }], guard := none }, { dst := some 35, op := Op.extract (Operand.tmp 34) 1, type := 3, pos := "number.go:94", after := #[{ on := 16, ground := Ground.data }], guard := none }, { dst := none, op := Op.entryStore 60 (Operand.tmp 21) (Operand.tmp 35) (Operand.tmp 31), type := 0, pos := "number.go:94", after := #[{ on := 3, ground := Ground.data }, { on := 17, ground := Ground.data }, { on := 13, ground := Ground.data }, { on := 16, ground := Ground.chain }, { on := 0, ground := Ground.phase }, { on := 1, ground := Ground.phase }, { on := 2, ground := Ground.phase }, { on := 3, ground := Ground.phase }, { on := 4, ground := Ground.phase }, { on := 5, ground := Ground.phase }, { on := 6, ground := Ground.textOnly Departure.lateStores }, { on := 7, ground := Ground.textOnly Departure.lateStoresUnsure }, { on := 8, ground := Ground.textOnly Departure.lateStoresUnsure }, { on := 9, ground := Ground.phase }, { on := 10, ground := Ground.textOnly Departure.lateStores }, { on := 11, ground := Ground.textOnly Departure.lateStoresUnsure }, { on := 12, ground := Ground.phase }, { on := 13, ground := Ground.phase }, { on := 14, ground := Ground.textOnly Departure.lateStores }, { on := 15, ground := Ground.textOnly Departure.lateStoresUnsure }, { on := 16, ground := Ground.phase }], guard := none }, { dst := some 36, op := Op.mapEntry 60 (Operand.tmp 27) (Operand.tmp 29), type := 0, pos := "number.go:94", after := #[{ on := 9, ground := Ground.data }, { on := 11, ground := Ground.data }, { on := 18, ground := Ground.chain }, { on := 0, ground := Ground.phase }, { on := 1, ground := Ground.phase }, { on := 2, ground := Ground.phase }, { on := 3, ground := Ground.phase }, { on := 4, ground := Ground.phase }, { on := 5, ground := Ground.phase }, { on := 6, ground := Ground.textOnly Departure.tupleMapEntryFirst }, { on := 7, ground := Ground.textOnly Departure.lateStoresUnsure }, { on := 8, ground := Ground.textOnly Departure.lateStoresUnsure }, { on := 9, ground := Ground.phase }, { on := 10, ground := Ground.textOnly Departure.tupleMapEntryFirst }, { on := 11, ground := Ground.textOnly Departure.lateStoresUnsure }, { on := 12, ground := Ground.phase }, { on := 13, ground := Ground.phase }, { on := 14, ground := Ground.textOnly Departure.tupleMapEntryFirst }, { on := 15, ground := Ground.textOnly Departure.lateStoresUnsure }, { on := 16, ground := Ground.phase }, { on := 17, ground := Ground.phase }, { on := 18, ground := Ground.phase }], guard := none }, { dst := some 37, op := Op.extract (Operand.tmp 36) 1, type := 3, pos := "number.go:94", after := #[{ on := 19, ground := Ground.data }], guard := none }, { dst := none, op := Op.entryStore 60 (Operand.tmp 27) (Operand.tmp 37) (Operand.tmp 33), type := 0, pos := "number.go:94", after := #[{ on := 9, ground := Ground.data }, { on := 20, ground := Ground.data }, { on := 15, ground := Ground.data }, { on := 19, ground := Ground.chain }, { on := 0, ground := Ground.phase }, { on := 1, ground := Ground.phase }, { on := 2, ground := Ground.phase }, { on := 3, ground := Ground.phase }, { on := 4, ground := Ground.phase }, { on := 5, ground := Ground.phase }, { on := 6, ground := Ground.phase }, { on := 7, ground := Ground.phase }, { on := 8, ground := Ground.phase }, { on := 9, ground := Ground.phase }, { on := 10, ground := Ground.phase }, { on := 11, ground := Ground.phase }, { on := 12, ground := Ground.phase }, { on := 13, ground := Ground.phase }, { on := 14, ground := Ground.phase }, { on := 15, ground := Ground.phase }, { on := 16, ground := Ground.phase }, { on := 17, ground := Ground.phase }, { on := 18, ground := Ground.phase }, { on := 19, ground := Ground.phase }], guard := none }] true).wp Tryz.prog Q a0 W := by
  refine start_ (n := 22) (S := fun w' => True) (ds := []) #[false, false, false, false, false, false, false, false, false, false, false, false, false, false, false, false, false, false, false, false, false, false] (by kernel_rfl) rfl rfl trivial (fun hHeld => ?_)
  refine with_tabW fill_round.tab fill_round.bits (fun HT_ HW_ => ?_)
  refine inv_at [0, 1, 2, 3, 4, 5, 6, 7, 8, 9, 10, 11, 12, 13, 14, 15, 16, 17, 18, 19, 20, 21] (fun a0_ b a w' => a = putSel a0_ b [(0, 18, .pointer (some ⟨b0, 0, none⟩)), (1, 19, .pointer (some ⟨b0, 0, none⟩)), (2, 20, .pointer (some ⟨b0, 4, none⟩)), (3, 21, .map (some p)), (4, 22, .string s), (5, 23, .string (s.extract 0 2)), (6, 24, .pointer (some ⟨b0, 0, none⟩)), (7, 25, .pointer (some ⟨b0, 0, none⟩)), (8, 26, .pointer (some ⟨b0, 5, none⟩)), (9, 27, .map (some g)), (10, 28, .string s), (11, 29, .string (s.extract 0 2)), (12, 30, .string s), (13, 31, .string (s.extract 2 3)), (14, 32, .string s), (15, 33, .string (s.extract 3 s.size)), (16, 34, .tuple #[.string ⟨#[]⟩, .int .i64 lp.length]), (17, 35, .int .i64 lp.length), (19, 36, .tuple #[.string ⟨#[]⟩, .int .i64 lg.length]), (20, 37, .int .i64 lg.length)] ∧ (St w0 b0 d0 sx ax p g q lp lg (s.extract 0 2) (s.extract 2 3) (s.extract 3 s.size) (b 16) (b 18) (b 19) (b 21) w')) HT_.out HW_.out (by kernel_rfl) (by kernel_rfl) ?_ ?_ ?_
  · exact ⟨(by simp only [putSel, Bool.false_eq_true, if_false]), hI⟩
  · clear hI hend hHeld
    refine steps_cons ?_ ?_
    · rintro b a w' ⟨ha, hI⟩ hb_ hon hoff
      refine ⟨_, rfl, fun K hK => ?_⟩
      have e0 : a.tmps[0]? = some (.pointer (some ⟨b0, 0, none⟩)) := by rw [ha]; exact (putSel_off rfl).trans s0
      replace ha := Aside0.mk ha
      obtain ⟨p4, p5⟩ := hI.get
      refine value_ (w1 := w') (v := .pointer (some ⟨b0, 0, none⟩)) (by rfl) rfl ?_ ?_
      · go_simp; try rfl
        all_goals (try (simp only [IntKind.wrap_i64]; omega))
      exact hK.out _ _ ⟨(by rw [ha.out]; exact putSel_upk 0 hb_ rfl rfl rfl), hI⟩
    refine steps_cons ?_ ?_
    · rintro b a w' ⟨ha, hI⟩ hb_ hon hoff
      refine ⟨_, rfl, fun K hK => ?_⟩
      have e18 : a.tmps[18]? = some (.pointer (some ⟨b0, 0, none⟩)) := by rw [ha]; exact putSel_on (e := (0, 18, .pointer (some ⟨b0, 0, none⟩))) 0 rfl rfl (hon 0 (by kernel_rfl)) (by rw [hsz]; rfl)
      replace ha := Aside0.mk ha
      obtain ⟨p4, p5⟩ := hI.get
      refine value_ (w1 := w') (v := .pointer (some ⟨b0, 0, none⟩)) (by rfl) rfl ?_ ?_
      · go_simp; try rfl
        all_goals (try (simp only [IntKind.wrap_i64]; omega))
      exact hK.out _ _ ⟨(by rw [ha.out]; exact putSel_upk 1 hb_ rfl rfl rfl), hI⟩
    refine steps_cons ?_ ?_
    · rintro b a w' ⟨ha, hI⟩ hb_ hon hoff
      refine ⟨_, rfl, fun K hK => ?_⟩
      have e19 : a.tmps[19]? = some (.pointer (some ⟨b0, 0, none⟩)) := by rw [ha]; exact putSel_on (e := (1, 19, .pointer (some ⟨b0, 0, none⟩))) 1 rfl rfl (hon 1 (by kernel_rfl)) (by rw [hsz]; rfl)
      replace ha := Aside0.mk ha
      obtain ⟨p4, p5⟩ := hI.get
      refine value_ (w1 := w') (v := .pointer (some ⟨b0, 4, none⟩)) (by rfl) rfl ?_ ?_
      · go_simp; try rfl
        all_goals (try (simp only [IntKind.wrap_i64]; omega))
      exact hK.out _ _ ⟨(by rw [ha.out]; exact putSel_upk 2 hb_ rfl rfl rfl), hI⟩
    refine steps_cons ?_ ?_
    · rintro b a w' ⟨ha, hI⟩ hb_ hon hoff
      refine ⟨_, rfl, fun K hK => ?_⟩
      have e20 : a.tmps[20]? = some (.pointer (some ⟨b0, 4, none⟩)) := by rw [ha]; exact putSel_on (e := (2, 20, .pointer (some ⟨b0, 4, none⟩))) 2 rfl rfl (hon 2 (by kernel_rfl)) (by rw [hsz]; rfl)
      replace ha := Aside0.mk ha
      obtain ⟨p4, p5⟩ := hI.get
      refine value_ (w1 := w') (v := .map (some p)) (by rfl) rfl ?_ ?_
      · go_simp; try rfl
        all_goals (try (simp only [IntKind.wrap_i64]; omega))
      exact hK.out _ _ ⟨(by rw [ha.out]; exact putSel_upk 3 hb_ rfl rfl rfl), hI⟩
    refine steps_cons ?_ ?_
    · rintro b a w' ⟨ha, hI⟩ hb_ hon hoff
      refine ⟨_, rfl, fun K hK => ?_⟩
      have e3 : a.tmps[3]? = some (.string s) := by rw [ha]; exact (putSel_off rfl).trans s3
      replace ha := Aside0.mk ha
      obtain ⟨p4, p5⟩ := hI.get
      refine value_ (w1 := w') (v := .string s) (by rfl) rfl ?_ ?_
      · go_simp; try rfl
        all_goals (try (simp only [IntKind.wrap_i64]; omega))
      exact hK.out _ _ ⟨(by rw [ha.out]; exact putSel_upk 4 hb_ rfl rfl rfl), hI⟩
    refine steps_cons ?_ ?_
    · rintro b a w' ⟨ha, hI⟩ hb_ hon hoff
      refine ⟨_, rfl, fun K hK => ?_⟩
      have e22 : a.tmps[22]? = some (.string s) := by rw [ha]; exact putSel_on (e := (4, 22, .string s)) 4 rfl rfl (hon 4 (by kernel_rfl)) (by rw [hsz]; rfl)
      replace ha := Aside0.mk ha
      obtain ⟨p4, p5⟩ := hI.get
      refine value_ (w1 := w') (v := .string (s.extract 0 2)) (by rfl) rfl ?_ ?_
      · exact exec_to 2 rfl (eval_of e22) (by omega)
      exact hK.out _ _ ⟨(by rw [ha.out]; exact putSel_upk 5 hb_ rfl rfl rfl), hI⟩
    refine steps_cons ?_ ?_
    · rintro b a w' ⟨ha, hI⟩ hb_ hon hoff
      refine ⟨_, rfl, fun K hK => ?_⟩
      have e0 : a.tmps[0]? = some (.pointer (some ⟨b0, 0, none⟩)) := by rw [ha]; exact (putSel_off rfl).trans s0
      replace ha := Aside0.mk ha
      obtain ⟨p4, p5⟩ := hI.get
      refine value_ (w1 := w') (v := .pointer (some ⟨b0, 0, none⟩)) (by rfl) rfl ?_ ?_
      · go_simp; try rfl
        all_goals (try (simp only [IntKind.wrap_i64]; omega))
      exact hK.out _ _ ⟨(by rw [ha.out]; exact putSel_upk 6 hb_ rfl rfl rfl), hI⟩
    refine steps_cons ?_ ?_
    · rintro b a w' ⟨ha, hI⟩ hb_ hon hoff
      refine ⟨_, rfl, fun K hK => ?_⟩
      have e24 : a.tmps[24]? = some (.pointer (some ⟨b0, 0, none⟩)) := by rw [ha]; exact putSel_on (e := (6, 24, .pointer (some ⟨b0, 0, none⟩))) 6 rfl rfl (hon 6 (by kernel_rfl)) (by rw [hsz]; rfl)
      replace ha := Aside0.mk ha
      obtain ⟨p4, p5⟩ := hI.get
      refine value_ (w1 := w') (v := .pointer (some ⟨b0, 0, none⟩)) (by rfl) rfl ?_ ?_
      · go_simp; try rfl
        all_goals (try (simp only [IntKind.wrap_i64]; omega))
      exact hK.out _ _ ⟨(by rw [ha.out]; exact putSel_upk 7 hb_ rfl rfl rfl), hI⟩
    refine steps_cons ?_ ?_
    · rintro b a w' ⟨ha, hI⟩ hb_ hon hoff
      refine ⟨_, rfl, fun K hK => ?_⟩
      have e25 : a.tmps[25]? = some (.pointer (some ⟨b0, 0, none⟩)) := by rw [ha]; exact putSel_on (e := (7, 25, .pointer (some ⟨b0, 0, none⟩))) 7 rfl rfl (hon 7 (by kernel_rfl)) (by rw [hsz]; rfl)
      replace ha := Aside0.mk ha
      obtain ⟨p4, p5⟩ := hI.get
      refine value_ (w1 := w') (v := .pointer (some ⟨b0, 5, none⟩)) (by rfl) rfl ?_ ?_
      · go_simp; try rfl
        all_goals (try (simp only [IntKind.wrap_i64]; omega))
      exact hK.out _ _ ⟨(by rw [ha.out]; exact putSel_upk 8 hb_ rfl rfl rfl), hI⟩
    refine steps_cons ?_ ?_
    · rintro b a w' ⟨ha, hI⟩ hb_ hon hoff
      refine ⟨_, rfl, fun K hK => ?_⟩
      have e26 : a.tmps[26]? = some (.pointer (some ⟨b0, 5, none⟩)) := by rw [ha]; exact putSel_on (e := (8, 26, .pointer (some ⟨b0, 5, none⟩))) 8 rfl rfl (hon 8 (by kernel_rfl)) (by rw [hsz]; rfl)
      replace ha := Aside0.mk ha
      obtain ⟨p4, p5⟩ := hI.get
      refine value_ (w1 := w') (v := .map (some g)) (by rfl) rfl ?_ ?_
      · go_simp; try rfl
        all_goals (try (simp only [IntKind.wrap_i64]; omega))
      exact hK.out _ _ ⟨(by rw [ha.out]; exact putSel_upk 9 hb_ rfl rfl rfl), hI⟩
    refine steps_cons ?_ ?_
    · rintro b a w' ⟨ha, hI⟩ hb_ hon hoff
      refine ⟨_, rfl, fun K hK => ?_⟩
      have e3 : a.tmps[3]? = some (.string s) := by rw [ha]; exact (putSel_off rfl).trans s3
      replace ha := Aside0.mk ha
      obtain ⟨p4, p5⟩ := hI.get
      refine value_ (w1 := w') (v := .string s) (by rfl) rfl ?_ ?_
      · go_simp; try rfl
        all_goals (try (simp only [IntKind.wrap_i64]; omega))
      exact hK.out _ _ ⟨(by rw [ha.out]; exact putSel_upk 10 hb_ rfl rfl rfl), hI⟩
    refine steps_cons ?_ ?_
    · rintro b a w' ⟨ha, hI⟩ hb_ hon hoff
      refine ⟨_, rfl, fun K hK => ?_⟩
      have e28 : a.tmps[28]? = some (.string s) := by rw [ha]; exact putSel_on (e := (10, 28, .string s)) 10 rfl rfl (hon 10 (by kernel_rfl)) (by rw [hsz]; rfl)
      replace ha := Aside0.mk ha
      obtain ⟨p4, p5⟩ := hI.get
      refine value_ (w1 := w') (v := .string (s.extract 0 2)) (by rfl) rfl ?_ ?_
      · exact exec_to 2 rfl (eval_of e28) (by omega)
      exact hK.out _ _ ⟨(by rw [ha.out]; exact putSel_upk 11 hb_ rfl rfl rfl), hI⟩
    refine steps_cons ?_ ?_
    · rintro b a w' ⟨ha, hI⟩ hb_ hon hoff
      refine ⟨_, rfl, fun K hK => ?_⟩
      have e3 : a.tmps[3]? = some (.string s) := by rw [ha]; exact (putSel_off rfl).trans s3
      replace ha := Aside0.mk ha
      obtain ⟨p4, p5⟩ := hI.get
      refine value_ (w1 := w') (v := .string s) (by rfl) rfl ?_ ?_
      · go_simp; try rfl
        all_goals (try (simp only [IntKind.wrap_i64]; omega))
      exact hK.out _ _ ⟨(by rw [ha.out]; exact putSel_upk 12 hb_ rfl rfl rfl), hI⟩
    refine steps_cons ?_ ?_
    · rintro b a w' ⟨ha, hI⟩ hb_ hon hoff
      refine ⟨_, rfl, fun K hK => ?_⟩
      have e30 : a.tmps[30]? = some (.string s) := by rw [ha]; exact putSel_on (e := (12, 30, .string s)) 12 rfl rfl (hon 12 (by kernel_rfl)) (by rw [hsz]; rfl)
      replace ha := Aside0.mk ha
      obtain ⟨p4, p5⟩ := hI.get
      refine value_ (w1 := w') (v := .string (s.extract 2 3)) (by rfl) rfl ?_ ?_
      · exact exec_part 2 3 rfl (eval_of e30) (by omega) (by omega)
      exact hK.out _ _ ⟨(by rw [ha.out]; exact putSel_upk 13 hb_ rfl rfl rfl), hI⟩
    refine steps_cons ?_ ?_
    · rintro b a w' ⟨ha, hI⟩ hb_ hon hoff
      refine ⟨_, rfl, fun K hK => ?_⟩
      have e3 : a.tmps[3]? = some (.string s) := by rw [ha]; exact (putSel_off rfl).trans s3
      replace ha := Aside0.mk ha
      obtain ⟨p4, p5⟩ := hI.get
      refine value_ (w1 := w') (v := .string s) (by rfl) rfl ?_ ?_
      · go_simp; try rfl
        all_goals (try (simp only [IntKind.wrap_i64]; omega))
      exact hK.out _ _ ⟨(by rw [ha.out]; exact putSel_upk 14 hb_ rfl rfl rfl), hI⟩
    refine steps_cons ?_ ?_
    · rintro b a w' ⟨ha, hI⟩ hb_ hon hoff
      refine ⟨_, rfl, fun K hK => ?_⟩
      have e32 : a.tmps[32]? = some (.string s) := by rw [ha]; exact putSel_on (e := (14, 32, .string s)) 14 rfl rfl (hon 14 (by kernel_rfl)) (by rw [hsz]; rfl)
      replace ha := Aside0.mk ha
      obtain ⟨p4, p5⟩ := hI.get
      refine value_ (w1 := w') (v := .string (s.extract 3 s.size)) (by rfl) rfl ?_ ?_
      · exact exec_from 3 rfl (eval_of e32) (by omega)
      exact hK.out _ _ ⟨(by rw [ha.out]; exact putSel_upk 15 hb_ rfl rfl rfl), hI⟩
    refine steps_cons ?_ ?_
    · rintro b a w' ⟨ha, hI⟩ hb_ hon hoff
      refine ⟨_, rfl, fun K hK => ?_⟩
      have e21 : a.tmps[21]? = some (.map (some p)) := by rw [ha]; exact putSel_on (e := (3, 21, .map (some p))) 3 rfl rfl (hon 3 (by kernel_rfl)) (by rw [hsz]; rfl)
      have e23 : a.tmps[23]? = some (.string (s.extract 0 2)) := by rw [ha]; exact putSel_on (e := (5, 23, .string (s.extract 0 2))) 5 rfl rfl (hon 5 (by kernel_rfl)) (by rw [hsz]; rfl)
      replace ha := Aside0.mk ha
      obtain ⟨p4, p5⟩ := hI.get
      refine value_ (w1 := setObj w' p (half lp (s.extract 0 2))) (v := .tuple #[.string ⟨#[]⟩, .int .i64 lp.length]) (by rfl) rfl ?_ ?_
      · exact exec_entry rfl (eval_of e21) (eval_of e23) (by have h := hI.pt; rw [hb_, show b 18 = false from hoff 18 (by kernel_rfl)] at h; exact h) hlp
      exact hK.out _ _ ⟨(by rw [ha.out]; exact putSel_upk 16 hb_ rfl rfl rfl), hI.toP (o := half lp (s.extract 0 2)) (by rw [show up b 16 18 = false from (up_ne (by decide)).trans (hoff 18 (by kernel_rfl))]; rfl)⟩
    refine steps_cons ?_ ?_
    · rintro b a w' ⟨ha, hI⟩ hb_ hon hoff
      refine ⟨_, rfl, fun K hK => ?_⟩
      have e34 : a.tmps[34]? = some (.tuple #[.string ⟨#[]⟩, .int .i64 lp.length]) := by rw [ha]; exact putSel_on (e := (16, 34, .tuple #[.string ⟨#[]⟩, .int .i64 lp.length])) 16 rfl rfl (hon 16 (by kernel_rfl)) (by rw [hsz]; rfl)
      replace ha := Aside0.mk ha
      obtain ⟨p4, p5⟩ := hI.get
      refine value_ (w1 := w') (v := .int .i64 lp.length) (by rfl) rfl ?_ ?_
      · go_simp; try rfl
        all_goals (try (simp only [IntKind.wrap_i64]; omega))
      exact hK.out _ _ ⟨(by rw [ha.out]; exact putSel_upk 17 hb_ rfl rfl rfl), hI⟩
    refine steps_cons ?_ ?_
    · rintro b a w' ⟨ha, hI⟩ hb_ hon hoff
      refine ⟨_, rfl, fun K hK => ?_⟩
      have e21 : a.tmps[21]? = some (.map (some p)) := by rw [ha]; exact putSel_on (e := (3, 21, .map (some p))) 3 rfl rfl (hon 3 (by kernel_rfl)) (by rw [hsz]; rfl)
      have e31 : a.tmps[31]? = some (.string (s.extract 2 3)) := by rw [ha]; exact putSel_on (e := (13, 31, .string (s.extract 2 3))) 13 rfl rfl (hon 13 (by kernel_rfl)) (by rw [hsz]; rfl)
      have e35 : a.tmps[35]? = some (.int .i64 lp.length) := by rw [ha]; exact putSel_on (e := (17, 35, .int .i64 lp.length)) 17 rfl rfl (hon 17 (by kernel_rfl)) (by rw [hsz]; rfl)
      replace ha := Aside0.mk ha
      obtain ⟨p4, p5⟩ := hI.get
      refine skip_ (w1 := setObj w' p (obj (lp ++ [(s.extract 0 2, s.extract 2 3)]))) (by rfl) rfl ?_ ?_
      · exact exec_put rfl (eval_of e21) (eval_of e35) (eval_of e31) (by have h := hI.pt; rw [hb_, show b 16 = true from hon 16 (by kernel_rfl)] at h; exact h)
      exact hK.out _ _ ⟨(by rw [ha.out]; exact (putSel_same rfl).symm), hI.toP (o := obj (lp ++ [(s.extract 0 2, s.extract 2 3)])) (by rfl)⟩
    refine steps_cons ?_ ?_
    · rintro b a w' ⟨ha, hI⟩ hb_ hon hoff
      refine ⟨_, rfl, fun K hK => ?_⟩
      have e27 : a.tmps[27]? = some (.map (some g)) := by rw [ha]; exact putSel_on (e := (9, 27, .map (some g))) 9 rfl rfl (hon 9 (by kernel_rfl)) (by rw [hsz]; rfl)
      have e29 : a.tmps[29]? = some (.string (s.extract 0 2)) := by rw [ha]; exact putSel_on (e := (11, 29, .string (s.extract 0 2))) 11 rfl rfl (hon 11 (by kernel_rfl)) (by rw [hsz]; rfl)
      replace ha := Aside0.mk ha
      obtain ⟨p4, p5⟩ := hI.get
      refine value_ (w1 := setObj w' g (half lg (s.extract 0 2))) (v := .tuple #[.string ⟨#[]⟩, .int .i64 lg.length]) (by rfl) rfl ?_ ?_
      · exact exec_entry rfl (eval_of e27) (eval_of e29) (by have h := hI.gr; rw [hb_, show b 21 = false from hoff 21 (by kernel_rfl)] at h; exact h) hlg
      exact hK.out _ _ ⟨(by rw [ha.out]; exact putSel_upk 18 hb_ rfl rfl rfl), hI.toG (o := half lg (s.extract 0 2)) (by rw [show up b 19 21 = false from (up_ne (by decide)).trans (hoff 21 (by kernel_rfl))]; rfl)⟩
    refine steps_cons ?_ ?_
    · rintro b a w' ⟨ha, hI⟩ hb_ hon hoff
      refine ⟨_, rfl, fun K hK => ?_⟩
      have e36 : a.tmps[36]? = some (.tuple #[.string ⟨#[]⟩, .int .i64 lg.length]) := by rw [ha]; exact putSel_on (e := (19, 36, .tuple #[.string ⟨#[]⟩, .int .i64 lg.length])) 18 rfl rfl (hon 19 (by kernel_rfl)) (by rw [hsz]; rfl)
      replace ha := Aside0.mk ha
      obtain ⟨p4, p5⟩ := hI.get
      refine value_ (w1 := w') (v := .int .i64 lg.length) (by rfl) rfl ?_ ?_
      · go_simp; try rfl
        all_goals (try (simp only [IntKind.wrap_i64]; omega))
      exact hK.out _ _ ⟨(by rw [ha.out]; exact putSel_upk 19 hb_ rfl rfl rfl), hI⟩
    refine steps_cons ?_ ?_
    · rintro b a w' ⟨ha, hI⟩ hb_ hon hoff
      refine ⟨_, rfl, fun K hK => ?_⟩
      have e27 : a.tmps[27]? = some (.map (some g)) := by rw [ha]; exact putSel_on (e := (9, 27, .map (some g))) 9 rfl rfl (hon 9 (by kernel_rfl)) (by rw [hsz]; rfl)
      have e33 : a.tmps[33]? = some (.string (s.extract 3 s.size)) := by rw [ha]; exact putSel_on (e := (15, 33, .string (s.extract 3 s.size))) 15 rfl rfl (hon 15 (by kernel_rfl)) (by rw [hsz]; rfl)
      have e37 : a.tmps[37]? = some (.int .i64 lg.length) := by rw [ha]; exact putSel_on (e := (20, 37, .int .i64 lg.length)) 19 rfl rfl (hon 20 (by kernel_rfl)) (by rw [hsz]; rfl)
      replace ha := Aside0.mk ha
      obtain ⟨p4, p5⟩ := hI.get
      refine skip_ (w1 := setObj w' g (obj (lg ++ [(s.extract 0 2, s.extract 3 s.size)]))) (by rfl) rfl ?_ ?_
      · exact exec_put rfl (eval_of e27) (eval_of e37) (eval_of e33) (by have h := hI.gr; rw [hb_, show b 19 = true from hon 19 (by kernel_rfl)] at h; exact h)
      exact hK.out _ _ ⟨(by rw [ha.out]; exact (putSel_same rfl).symm), hI.toG (o := obj (lg ++ [(s.extract 0 2, s.extract 3 s.size)])) (by rfl)⟩
    exact steps_nil
  rintro b a w1 hall ⟨ha, hI1⟩
  simp only [hall 16 (by kernel_rfl), hall 18 (by kernel_rfl), hall 19 (by kernel_rfl), hall 21 (by kernel_rfl)] at hI1
  exact hend a w1 hI1 (by rw [ha]; simp only [putSel, if_true, hall 0 (by kernel_rfl), hall 1 (by kernel_rfl), hall 2 (by kernel_rfl), hall 3 (by kernel_rfl), hall 4 (by kernel_rfl), hall 5 (by kernel_rfl), hall 6 (by kernel_rfl), hall 7 (by kernel_rfl), hall 8 (by kernel_rfl), hall 9 (by kernel_rfl), hall 10 (by kernel_rfl), hall 11 (by kernel_rfl), hall 12 (by kernel_rfl), hall 13 (by kernel_rfl), hall 14 (by kernel_rfl), hall 15 (by kernel_rfl), hall 16 (by kernel_rfl), hall 17 (by kernel_rfl), hall 19 (by kernel_rfl), hall 20 (by kernel_rfl)]) (by rw [ha]; exact (putSel_size b _ a0).2)
end Go.Proofs.YtajgnkncdkibeaaGreatDoor.M
namespace Go.Proofs.YtajgnkncdkibeaaGreatDoor.M
open Go.RowKit
open Go.Proofs.YtajgnkncdkibeaaGreatDoorW.PrintWords Go.Proofs.YtajgnkncdkibeaaGreatDoorW.PrintLast
set_option linter.unusedVariables false
set_option linter.unusedSimpArgs false
theorem row_at (i : Nat) (h : i < 8) : ∃ s : ByteArray, rowL[i]? = some (.string s) ∧ 3 ≤ s.size ∧ s.size ≤ 100 ∧ look (ptsL.take i) (s.extract 0 2) = none ∧ look (grsL.take i) (s.extract 0 2) = none ∧
    ptsL.take i ++ [(s.extract 0 2, s.extract 2 3)] = ptsL.take (i + 1) ∧ grsL.take i ++ [(s.extract 0 2, s.extract 3 s.size)] = grsL.take (i + 1) := by
  match i, h with
  | 0, _ => exact ⟨_, rfl, by decide, by decide, by kernel_rfl, by kernel_rfl, by kernel_rfl, by kernel_rfl⟩
  | 1, _ => exact ⟨_, rfl, by decide, by decide, by kernel_rfl, by kernel_rfl, by kernel_rfl, by kernel_rfl⟩
  | 2, _ => exact ⟨_, rfl, by decide, by decide, by kernel_rfl, by kernel_rfl, by kernel_rfl, by kernel_rfl⟩
  | 3, _ => exact ⟨_, rfl, by decide, by decide, by kernel_rfl, by kernel_rfl, by kernel_rfl, by kernel_rfl⟩
  | 4, _ => exact ⟨_, rfl, by decide, by decide, by kernel_rfl, by kernel_rfl, by kernel_rfl, by kernel_rfl⟩
  | 5, _ => exact ⟨_, rfl, by decide, by decide, by kernel_rfl, by kernel_rfl, by kernel_rfl, by kernel_rfl⟩
  | 6, _ => exact ⟨_, rfl, by decide, by decide, by kernel_rfl, by kernel_rfl, by kernel_rfl, by kernel_rfl⟩
  | 7, _ => exact ⟨_, rfl, by decide, by decide, by kernel_rfl, by kernel_rfl, by kernel_rfl, by kernel_rfl⟩
theorem St.start {b : Nat} {d s a : Int} {W : World} (h : Mk b d s a none none W) :
    St W b d s a W.heap.size (W.heap.size + 1) (W.heap.size + 1 + 1) [] [] ⟨#[]⟩ ⟨#[]⟩ ⟨#[]⟩ false false false false
      (((((W.setCell ⟨b, 4, none⟩ (.map (some W.heap.size))).setCell ⟨b, 5, none⟩ (.map (some (W.heap.size + 1)))).alloc (.map #[] 0)).alloc (.map #[] 0)).alloc (.cells rowL 9)) := by
  have hb := h.lt
  have k4 := (h.s4 (some W.heap.size)).s5 (some (W.heap.size + 1))
  have g4 : W.grownBy ((W.setCell ⟨b, 4, none⟩ (.map (some W.heap.size))).setCell ⟨b, 5, none⟩ (.map (some (W.heap.size + 1)))) (some b) := (grown_setCell _ b 4 _).trans (grown_setCell _ b 5 _)
  have z4 : ((W.setCell ⟨b, 4, none⟩ (.map (some W.heap.size))).setCell ⟨b, 5, none⟩ (.map (some (W.heap.size + 1)))).heap.size = W.heap.size := by simp [World.setCell]
  generalize (W.setCell ⟨b, 4, none⟩ (.map (some W.heap.size))).setCell ⟨b, 5, none⟩ (.map (some (W.heap.size + 1))) = V at *
  have z5 : (V.alloc (.map #[] 0)).heap.size = W.heap.size + 1 := by simp [z4]
  have z6 : ((V.alloc (.map #[] 0)).alloc (.map #[] 0)).heap.size = W.heap.size + 1 + 1 := by simp [z4]
  have m1 := heap_alloc_new V (.map #[] 0)
  have m2 := heap_alloc_new (V.alloc (.map #[] 0)) (.map #[] 0)
  have m3 := heap_alloc_new ((V.alloc (.map #[] 0)).alloc (.map #[] 0)) (.cells rowL 9)
  rw [z4] at m1
  rw [z5] at m2
  rw [z6] at m3
  refine ⟨⟨(((heap_alloc_old _ _ (by rw [z6]; omega)).trans (heap_alloc_old _ _ (by rw [z5]; omega))).trans (heap_alloc_old _ _ (by rw [z4]; omega))).trans k4.blk⟩, ((heap_alloc_old _ _ (by rw [z6]; omega)).trans (heap_alloc_old _ _ (by rw [z5]; omega))).trans m1, (heap_alloc_old _ _ (by rw [z6]; omega)).trans m2, m3,
    ((g4.trans (World.grownBy_alloc _ _ _)).trans (World.grownBy_alloc _ _ _)).trans (World.grownBy_alloc _ _ _), by omega, by omega, by omega⟩
theorem St.next {w0 : World} {b : Nat} {d s a : Int} {p g q : Nat} {lp lg lp' lg' : List (ByteArray × ByteArray)} {k x y : ByteArray} {W : World} (h : St w0 b d s a p g q lp lg k x y true true true true W) (h1 : lp ++ [(k, x)] = lp') (h2 : lg ++ [(k, y)] = lg') :
    St w0 b d s a p g q lp' lg' ⟨#[]⟩ ⟨#[]⟩ ⟨#[]⟩ false false false false W := by
  subst h1; subst h2
  exact ⟨h.ck, h.pt, h.gr, h.rw, h.gw, h.np, h.ng, h.pg⟩
set_option maxRecDepth 100000 in
set_option maxHeartbeats 4000000 in
theorem fill_any : Fills := by
  intro b d s a W h
  have hst := St.start h
  have hm := fun w => run_makeMap (P := Tryz.prog) 60 w
  have hlt := h.lt
  have f4 := h.fz 4
  have f5 := h.fz 5
  have c4 := h.c4
  have c5 := h.c5
  generalize hp : W.heap.size = p at *
  go_enter Tryz.func30, Tryz.ntmps30
  go_wp2
  subst hp
  have HS := Lib.hid hst; clear hst hm f4 f5 c4 c5 hlt
  go_loopg [14] 8 (fun gk v14 wx => ∃ i : Nat, v14 = .int .i64 i ∧ i + gk = 8 ∧ St W b d s a W.heap.size (W.heap.size + 1) (W.heap.size + 1 + 1) (ptsL.take i) (grsL.take i) ⟨#[]⟩ ⟨#[]⟩ ⟨#[]⟩ false false false false wx)
  case atStart => exact ⟨0, rfl, by omega, HS.out⟩
  case round =>
    obtain ⟨i, rfl, hi, hst⟩ := hrel
    clear HS
    by_cases hp : i < 8
    · obtain ⟨k, rfl⟩ : ∃ f, gk = f + 1 := ⟨gk - 1, by omega⟩
      obtain ⟨t, ht, t3, t9, l1, l2, n1, n2⟩ := row_at i hp
      have c0 := (Lib.cell_of_heap hst.rw i).trans ht
      go_wp2
      refine fill_round W b d s a W.heap.size (W.heap.size + 1) (W.heap.size + 1 + 1) (ptsL.take i) (grsL.take i) t t3 t9 l1 l2 _ rfl rfl rfl wr ?_ _ ?_
      · exact ⟨hst.ck.drew, hst.pt, hst.gr, hst.rw, hst.gw.trans (grown_drew _ _), hst.np, hst.ng, hst.pg⟩
      intro a9 w9 h9 ha9 hd9
      have hn := h9.next n1 n2
      rw [ha9]
      simp only [putSel, if_true, Act.put, List.setIfInBounds_toArray, List.set_cons_zero, List.set_cons_succ]
      clear ha9 hd9 h9 hst
      have HN := Lib.hid hn; clear hn
      go_wp2
      go_roundg k
      case measure => omega
      case rel => exact ⟨i + 1, by simp, by omega, HN.out⟩
    · obtain rfl : i = 8 := by omega
      have hg := hst.gw
      have hF : Full b d s a W.heap.size (W.heap.size + 1) wr := ⟨hst.ck, hst.pt, hst.gr⟩
      go_wp2
      go_end0
      exact ⟨rfl, _, _, hF, hg⟩
end Go.Proofs.YtajgnkncdkibeaaGreatDoor.M
namespace Go.Proofs.YtajgnkncdkibeaaGreatDoor.M
open Go.RowKit
set_option linter.unusedVariables false
set_option linter.unusedSimpArgs false
def ptC (lang : ByteArray) : ByteArray := if (look ptsL lang).isSome = true then (look ptsL lang).getD ⟨#[]⟩ else ⟨#[46]⟩
def grC (lang : ByteArray) : ByteArray := if (look ptsL lang).isSome = true then (look grsL lang).getD ⟨#[]⟩ else ⟨#[44]⟩
def Mks (b : Nat) (n : Int) (W : World) : Prop := (Mk b 0 0 0 none none W ∧ n = 0) ∨ ∃ p g, Full b 1 0 n p g W
theorem Mks.drew {b : Nat} {n : Int} {W : World} (h : Mks b n W) : Mks b n W.drew := by
  rcases h with ⟨h, e⟩ | ⟨p, g, h⟩
  · exact .inl ⟨h.drew, e⟩
  · exact .inr ⟨p, g, h.drew⟩
theorem Mks.step {b : Nat} {n : Int} {W W1 : World} (h : Mks b n W) (c : Below W.heap.size W W1) : Mks b n W1 := by
  have hg := grown_below (row := none) c (Nat.le_refl _)
  rcases h with ⟨h, e⟩ | ⟨p, g, h⟩
  · exact .inl ⟨h.kept hg (by simp), e⟩
  · exact .inr ⟨p, g, h.kept hg (by simp)⟩
theorem Mks.cell {b : Nat} {n : Int} {W : World} (h : Mks b n W) : W.cell? ⟨b, 3, none⟩ = some (.int .i64 n) := by
  rcases h with ⟨h, rfl⟩ | ⟨p, g, h⟩
  · exact h.c3
  · exact h.ck.c3
theorem asked_mks {b : Nat} {n : Int} {w : World} (h : Mks b n w) : Calls Tryz.prog 17 #[.pointer (some ⟨b, 0, none⟩)] w fun e w' => e = .returned (.int .i64 n) ∧ w' = w := by
  rcases h with ⟨h, rfl⟩ | ⟨p, g, h⟩
  · exact asked_any b 0 0 0 none none w h
  · exact asked_any b 1 0 n _ _ w h.ck
theorem do_mks {b : Nat} {n : Int} {w : World} (h : Mks b n w) :
    Calls Tryz.prog 29 #[.pointer (some ⟨b, 0, none⟩), .func (.func 30) #[.pointer (some ⟨b, 0, none⟩)] #[]] w fun e w' => e = .returned (.tuple #[]) ∧ ∃ p g, Full b 1 0 n p g w' ∧ w.grownBy w' (some b) := by
  rcases h with ⟨h, rfl⟩ | ⟨p, g, h⟩
  · exact do_first fill_any b 0 w h
  · exact (do_done b n _ _ _ w h.ck).mono fun e w' ⟨he, hw⟩ => ⟨he, p, g, by rw [hw]; exact h, by rw [hw]; exact grown_refl _ _⟩
theorem add_full {b : Nat} {n : Int} (hn : 0 ≤ n) (hn9 : n ≤ 1000) {p g : Nat} {w : World} (h : Full b 1 0 n p g w) :
    Calls Tryz.prog 31 #[.pointer (some ⟨b, 3, none⟩), .int .i64 1] w fun e w' => e = .returned (.int .i64 (n + 1)) ∧ Full b 1 0 (n + 1) p g w' ∧ w.grownBy w' (some b) :=
  (add_any b 1 0 n _ _ hn hn9 w h.ck).mono fun e w' ⟨he, hw⟩ => ⟨he, by rw [hw]; exact h.s3 _, by rw [hw]; exact grown_setCell _ b 3 _⟩
theorem Full.looks {b : Nat} {d s n : Int} {p g : Nat} {W : World} (h : Full b d s n p g W) (k : ByteArray) :
    (Instr.lookup 60 (.map (some p)) (.string k) true).run Tryz.prog W = .ok (.tuple #[.string ((look ptsL k).getD ⟨#[]⟩), .bool (look ptsL k).isSome]) W ∧
    (Instr.lookup 60 (.map (some g)) (.string k) false).run Tryz.prog W = .ok (.string ((look grsL k).getD ⟨#[]⟩)) W :=
  ⟨run_look Tryz.underlying60 Tryz.underlying9 zstr h.pt k true, run_look Tryz.underlying60 Tryz.underlying9 zstr h.gr k false⟩
set_option maxRecDepth 100000 in
set_option maxHeartbeats 4000000 in
theorem of_any (b : Nat) (n : Int) (hn : 0 ≤ n) (hn9 : n ≤ 1000) (lang : ByteArray) (w : World) (h : Mks b n w) :
    Calls Tryz.prog 15 #[.pointer (some ⟨b, 0, none⟩), .string lang] w fun e w' => e = .returned (.tuple #[.string (ptC lang), .string (grC lang)]) ∧ Mks b (n + 1) w' ∧ w.grownBy w' (some b) := by
  have hmf : ∀ (fn : Fn) (first cap : Array Value) (w : World), (Instr.makeFunc fn first cap).run Tryz.prog w = .ok (.func fn first cap) w := fun _ _ _ _ => rfl
  have hpx : ∀ z, (look ptsL lang).isSome = z → ptC lang = if z = true then (look ptsL lang).getD ⟨#[]⟩ else ⟨#[46]⟩ := fun z hz => by unfold ptC; rw [hz]
  have hgx : ∀ z, (look ptsL lang).isSome = z → grC lang = if z = true then (look grsL lang).getD ⟨#[]⟩ else ⟨#[44]⟩ := fun z hz => by unfold grC; rw [hz]
  generalize ptC lang = px at *
  generalize grC lang = gx at *
  go_enter Tryz.func15, Tryz.ntmps15
  go_upto_region 3 with (first
    | (go_at_call 29; refine (do_mks h).mono ?_; rintro e w1 ⟨rfl, p, g, h1, g1⟩)
    | (go_at_call 31; refine (add_full hn hn9 h1).mono ?_; rintro e w2 ⟨rfl, h2, g2⟩))
  obtain ⟨l1, l2⟩ := h2.looks lang
  obtain ⟨l3, l4⟩ := h2.drew.looks lang
  have hg := g1.trans g2
  have c4 := h2.ck.c4
  have c5 := h2.ck.c5
  have hF : Mks b (n + 1) w2 := .inr ⟨p, g, h2⟩
  clear h h1 g1 g2 h2
  generalize (look ptsL lang).getD ⟨#[]⟩ = x at *
  generalize (look grsL lang).getD ⟨#[]⟩ = y at *
  generalize hz : (look ptsL lang).isSome = z at *
  have ex := hpx z rfl
  have ey := hgx z rfl
  clear hpx hgx hz
  cases z with
  | true =>
    simp only [if_true] at ex ey
    subst ex; subst ey
    go_wp2
    go_region_with (fail)
    all_goals
      go_wp2
      go_ret2
      exact ⟨rfl, by first | exact hF | exact hF.drew, by first | exact hg | exact hg.trans (grown_drew _ _)⟩
  | false =>
    simp only [Bool.false_eq_true, if_false] at ex ey
    subst ex; subst ey
    go_wp2
    go_ret2
    exact ⟨rfl, hF, hg⟩
end Go.Proofs.YtajgnkncdkibeaaGreatDoor.M
namespace Go.Proofs.YtajgnkncdkibeaaGreatDoor
open Go.RowKit Go.Proofs.YtajgnkncdkibeaaGreatDoorW.PrintWords
set_option linter.unusedVariables false
set_option linter.unusedSimpArgs false
def grpR (B : List UInt8) : List UInt8 → List UInt8
  | [] => []
  | c :: t => (if (t.length + 1) % 3 = 0 then B else []) ++ c :: grpR B t
def grp (B : List UInt8) : List UInt8 → List UInt8
  | [] => []
  | c :: t => c :: grpR B t
def restG (B D : List UInt8) (i : Nat) : List UInt8 := if i = 0 then grp B D else grpR B (D.drop i)
theorem restG_zero (B D : List UInt8) (c : UInt8) (h : D[0]? = some c) : restG B D 0 = [c] ++ restG B D (0 + 1) := by
  cases D with
  | nil => simp at h
  | cons a t =>
    have : a = c := by simpa using h
    subst this
    rfl
theorem drop_at' {D : List UInt8} {i : Nat} {c : UInt8} (h : D[i]? = some c) : D.drop i = c :: D.drop (i + 1) := by
  obtain ⟨hl, e⟩ := List.getElem?_eq_some_iff.1 h
  rw [List.drop_eq_getElem_cons hl, e]
theorem restG_yes (B D : List UInt8) (i : Nat) (c : UInt8) (h0 : i ≠ 0) (h : D[i]? = some c) (h3 : (D.length - i) % 3 = 0) : restG B D i = B ++ [c] ++ restG B D (i + 1) := by
  obtain ⟨hl, _⟩ := List.getElem?_eq_some_iff.1 h
  unfold restG
  rw [if_neg h0, if_neg (by omega), drop_at' h]
  rw [show grpR B (c :: D.drop (i + 1)) = (if ((D.drop (i + 1)).length + 1) % 3 = 0 then B else []) ++ c :: grpR B (D.drop (i + 1)) from rfl]
  rw [List.length_drop, if_pos (by omega)]
  simp
theorem restG_no (B D : List UInt8) (i : Nat) (c : UInt8) (h0 : i ≠ 0) (h : D[i]? = some c) (h3 : ¬ (D.length - i) % 3 = 0) : restG B D i = [c] ++ restG B D (i + 1) := by
  obtain ⟨hl, _⟩ := List.getElem?_eq_some_iff.1 h
  unfold restG
  rw [if_neg h0, if_neg (by omega), drop_at' h]
  rw [show grpR B (c :: D.drop (i + 1)) = (if ((D.drop (i + 1)).length + 1) % 3 = 0 then B else []) ++ c :: grpR B (D.drop (i + 1)) from rfl]
  rw [List.length_drop, if_neg (by omega)]
  simp
theorem grpR_len (B : List UInt8) : ∀ L, (grpR B L).length ≤ (B.length + 1) * L.length
  | [] => by simp [grpR]
  | c :: t => by
    have := grpR_len B t
    unfold grpR
    rw [List.length_append, List.length_cons, List.length_cons, Nat.mul_add, Nat.mul_one]
    split <;> simp <;> omega
set_option maxRecDepth 100000 in
set_option maxHeartbeats 4000000 in
theorem group_any (d b : ByteArray) (w : World) (hd : d.size ≤ 1000) (hb : b.size ≤ 1000) :
    Calls Tryz.prog 32 #[.string d, .string b] w fun e w' => e = .returned (.string ⟨(grp b.data.toList d.data.toList).toArray⟩) ∧ Below w.heap.size w w' := by
  have hl : d.data.toList.length = d.size := (Lib.size_eq d).symm
  have hlb : b.data.toList.length = b.size := (Lib.size_eq b).symm
  have hfresh := Lib.fresh_isBuffer 104 5 w
  obtain ⟨R, hR⟩ : ∃ R, grp b.data.toList d.data.toList = R := ⟨_, rfl⟩
  rw [hR]
  have hRl : R.length ≤ 1001 * 1000 + 1 := by
    rw [← hR]
    cases h : d.data.toList with
    | nil => simp [grp]
    | cons c t =>
      rw [h, List.length_cons] at hl
      have := grpR_len b.data.toList t
      have h2 : (b.data.toList.length + 1) * t.length ≤ 1001 * 1000 := Nat.mul_le_mul (by omega) (by omega)
      show (c :: grpR _ t).length ≤ _
      rw [List.length_cons]
      omega
  have HR := Lib.hid hR; clear hR
  go_enter Tryz.func32, Tryz.ntmps32
  go_wp2
  go_loopg [9] d.size (fun gk si wx => ∃ (i : Nat) (acc : List UInt8), si = .int .i64 i ∧ i ≤ d.size ∧ Lib.IsBuffer 104 5 w.heap.size w.heap.size (Lib.byteCells acc) wx ∧ Below w.heap.size w wx ∧ acc ++ restG b.data.toList d.data.toList i = R ∧ d.size ≤ i + gk)
  case atStart => exact ⟨0, [], rfl, by omega, hfresh, (Below.refl _ _).alloc (Nat.le_refl _) _, by rw [← HR.out]; rfl, by omega⟩
  case round =>
    obtain ⟨i, acc, rfl, hi, hI, hbw, hacc, hfu⟩ := hrel
    clear hfresh HR
    have hsz := hbw.size
    have hal : acc.length ≤ R.length := by rw [← hacc, List.length_append]; omega
    have HA := Lib.hid hacc; clear hacc
    by_cases hp : i < d.size
    · obtain ⟨f, rfl⟩ : ∃ f, gk = f + 1 := ⟨gk - 1, by omega⟩
      have hpz : (i : Int) < (d.size : Int) := by omega
      have hip : d.data.toList[i]? = some (d[i]'hp) := by rw [List.getElem?_eq_getElem (by omega)]; rfl
      have cB := fun W bs hI hB h1 h2 => Tryz.Buffer_WriteByte w.heap.size w.heap.size bs ((d[i]'hp).toNat : Int) W hI hB h1 h2
      have cS := fun W bs hI hB h1 h2 => Tryz.Buffer_WriteString w.heap.size w.heap.size bs b W hI hB h1 h2
      have hbl : (Lib.byteCells acc).length = acc.length := Lib.byteCells_length _
      have Hbl := Lib.hid hbl; clear hbl
      have Hip := Lib.hid hip; clear hip
      have Hl := Lib.hid hl; clear hl
      have Hlb := Lib.hid hlb; clear hlb
      by_cases h0 : i = 0
      · subst h0
        have e1 : restG b.data.toList d.data.toList 0 = [d[0]'hp] ++ restG b.data.toList d.data.toList (0 + 1) := restG_zero _ _ _ Hip.out
        have HE := Lib.hid e1; clear e1
        go_wp2_with (go_at_call 48; ((with_reducible refine (cB _ _ hI (by assumption) (Lib.byteCells_one _) (by rw [Hbl.out]; omega)).mono ?_); rintro e W1 ⟨rfl, hI1, hb1⟩))
        go_roundg f
        case measure => omega
        case rel => exact ⟨0 + 1, acc ++ [d[0]'hp], by go_num, by omega, by rw [Lib.byteCells_append]; exact hI1, hbw.trans hb1, by rw [← HA.out, HE.out, List.append_assoc], by omega⟩
      · have hp0 : (0 : Int) < (i : Int) := by omega
        by_cases h3 : (d.size - i) % 3 = 0
        · have hz3 : (((d.size : Int) - i) % 3 == 0) = true := by rw [beq_iff_eq]; omega
          have e1 : restG b.data.toList d.data.toList i = b.data.toList ++ [d[i]'hp] ++ restG b.data.toList d.data.toList (i + 1) := restG_yes _ _ i _ h0 Hip.out (by rw [Hl.out]; exact h3)
          have HE := Lib.hid e1; clear e1
          go_wp2_with (first
            | (go_at_call 47; ((with_reducible refine (cS _ _ hI (by assumption) (Lib.byteCells_one _) (by rw [Hbl.out]; omega)).mono ?_); rintro e W1 ⟨rfl, hI1, hb1⟩; rw [← Lib.byteCells_append] at hI1; have hs1 := hb1.size))
            | (go_at_call 48; ((with_reducible refine (cB _ _ hI1 (by omega) (Lib.byteCells_one _) (by rw [Lib.byteCells_length, List.length_append, Hlb.out]; omega)).mono ?_); rintro e W2 ⟨rfl, hI2, hb2⟩)))
          go_roundg f
          case measure => omega
          case rel => exact ⟨i + 1, acc ++ b.data.toList ++ [d[i]'hp], by go_num, by omega, by rw [Lib.byteCells_append]; exact hI2, (hbw.trans hb1).trans hb2, by rw [← HA.out, HE.out]; simp, by omega⟩
        · have hz3 : (((d.size : Int) - i) % 3 == 0) = false := by rw [beq_eq_false_iff_ne]; omega
          have e1 : restG b.data.toList d.data.toList i = [d[i]'hp] ++ restG b.data.toList d.data.toList (i + 1) := restG_no _ _ i _ h0 Hip.out (by rw [Hl.out]; exact h3)
          have HE := Lib.hid e1; clear e1
          go_wp2_with (go_at_call 48; ((with_reducible refine (cB _ _ hI (by assumption) (Lib.byteCells_one _) (by rw [Hbl.out]; omega)).mono ?_); rintro e W1 ⟨rfl, hI1, hb1⟩))
          go_roundg f
          case measure => omega
          case rel => exact ⟨i + 1, acc ++ [d[i]'hp], by go_num, by omega, by rw [Lib.byteCells_append]; exact hI1, hbw.trans hb1, by rw [← HA.out, HE.out, List.append_assoc], by omega⟩
    · obtain rfl : i = d.size := by omega
      have e1 : restG b.data.toList d.data.toList d.size = [] := by
        unfold restG
        by_cases h0 : d.size = 0
        · rw [if_pos h0, List.eq_nil_of_length_eq_zero (show d.data.toList.length = 0 by omega)]; rfl
        · rw [if_neg h0, List.drop_eq_nil_of_le (by omega)]; rfl
      have e2 : acc = R := by rw [← HA.out, e1, List.append_nil]
      subst e2
      have cT := Tryz.Buffer_String w.heap.size w.heap.size acc wr hI
      clear HA e1
      go_wp2_with (go_at_call 49; ((with_reducible refine cT.mono ?_); rintro e W1 ⟨rfl, n, rfl⟩))
      go_ret
      exact ⟨rfl, pw_below_drewN hbw n⟩
end Go.Proofs.YtajgnkncdkibeaaGreatDoor
namespace Go.Proofs.YtajgnkncdkibeaaGreatDoor
open Go.RowKit Go.Proofs.YtajgnkncdkibeaaGreatDoor.M
set_option linter.unusedVariables false
set_option linter.unusedSimpArgs false
structure Fm (w : World) (b : Nat) (cnt : Int) (n : Bool) (D : ByteArray) (k mi mf xf : Int) (pl rk : Bool) (W : World) : Prop where
  mks : Mks b cnt W
  blk : W.heap[w.heap.size]? = some (.cells #[.bool n, .string D, .int .i64 k] 29 (0, 0))
  opt : W.heap[w.heap.size + 1]? = some (.cells #[.int .i64 mi, .int .i64 mf, .int .i64 xf, .bool pl, .bool rk] 26 (0, 0))
  gw : w.grownBy W (some b)
  lt : b < w.heap.size
section
variable {w W : World} {b : Nat} {cnt k mi mf xf : Int} {n pl rk : Bool} {D : ByteArray}
theorem Fm.step {W1 : World} (h : Fm w b cnt n D k mi mf xf pl rk W) (c : Below W.heap.size W W1) : Fm w b cnt n D k mi mf xf pl rk W1 :=
  ⟨h.mks.step c, below_blockOf c (Nat.le_refl _) h.blk, below_blockOf c (Nat.le_refl _) h.opt, h.gw.trans (grown_below c (Nat.le_refl _)), h.lt⟩
theorem Fm.drew (h : Fm w b cnt n D k mi mf xf pl rk W) : Fm w b cnt n D k mi mf xf pl rk W.drew := h.step ((Below.refl _ _).drew)
theorem Fm.of {W1 : World} {c1 : Int} (h : Fm w b cnt n D k mi mf xf pl rk W) (hm : Mks b c1 W1) (hg : W.grownBy W1 (some b)) : Fm w b c1 n D k mi mf xf pl rk W1 :=
  ⟨hm, (hg.block _ (Array.getElem?_eq_some_iff.1 h.blk).1 (fun e => by have := h.lt; cases e; omega)).trans h.blk, (hg.block _ (Array.getElem?_eq_some_iff.1 h.opt).1 (fun e => by have := h.lt; cases e; omega)).trans h.opt, h.gw.trans hg, h.lt⟩
theorem Fm.get (h : Fm w b cnt n D k mi mf xf pl rk W) : W.cell? ⟨w.heap.size, 0, none⟩ = some (.bool n) ∧ W.cell? ⟨w.heap.size, 1, none⟩ = some (.string D) ∧ W.cell? ⟨w.heap.size, 2, none⟩ = some (.int .i64 k) ∧
    W.cell? ⟨w.heap.size + 1, 0, none⟩ = some (.int .i64 mi) ∧ W.cell? ⟨w.heap.size + 1, 1, none⟩ = some (.int .i64 mf) ∧ W.cell? ⟨w.heap.size + 1, 2, none⟩ = some (.int .i64 xf) ∧ W.cell? ⟨w.heap.size + 1, 3, none⟩ = some (.bool pl) ∧ W.cell? ⟨w.heap.size + 1, 4, none⟩ = some (.bool rk) :=
  ⟨(Lib.cell_of_heap h.blk 0).trans rfl, (Lib.cell_of_heap h.blk 1).trans rfl, (Lib.cell_of_heap h.blk 2).trans rfl, (Lib.cell_of_heap h.opt 0).trans rfl, (Lib.cell_of_heap h.opt 1).trans rfl, (Lib.cell_of_heap h.opt 2).trans rfl, (Lib.cell_of_heap h.opt 3).trans rfl, (Lib.cell_of_heap h.opt 4).trans rfl⟩
theorem Fm.fz (h : Fm w b cnt n D k mi mf xf pl rk W) (i : Nat) : W.frozen? ⟨w.heap.size, i, none⟩ = false := Lib.frozen_of_heap h.blk i
theorem mks_set {x : Nat} {i : Nat} {v : Value} (h : Mks b cnt W) (hx : b < x) (hW : ∀ p g, Full b 1 0 cnt p g W → x ≠ p ∧ x ≠ g) : Mks b cnt (W.setCell ⟨x, i, none⟩ v) := by
  rcases h with ⟨h, e⟩ | ⟨p, g, h⟩
  · exact .inl ⟨h.kept (M.grown_setCell W x i v) (fun e => by cases e; omega), e⟩
  · refine .inr ⟨p, g, h.kept (M.grown_setCell W x i v) (fun k hk => ?_)⟩
    cases hk
    have := hW p g h
    exact ⟨by omega, this.1, this.2⟩
theorem cells_no {b : Nat} {cnt : Int} {W : World} {x : Nat} {cs : Array Value} {T : TypeId} {fr : Nat × Nat} (hx : W.heap[x]? = some (.cells cs T fr)) : ∀ p g, Full b 1 0 cnt p g W → x ≠ p ∧ x ≠ g :=
  fun p g h => ⟨fun e => (by have := h.pt; rw [← e, hx] at this; cases this), fun e => (by have := h.gr; rw [← e, hx] at this; cases this)⟩
theorem Fm.set {i : Nat} {v : Value} (h : Fm w b cnt n D k mi mf xf pl rk W) : Mks b cnt (W.setCell ⟨w.heap.size, i, none⟩ v) ∧ w.grownBy (W.setCell ⟨w.heap.size, i, none⟩ v) (some b) :=
  ⟨mks_set h.mks h.lt (cells_no h.blk), h.gw.andThen (M.grown_setCell W w.heap.size i v) (fun j hj => by cases hj; exact .inl (Nat.le_refl _))⟩
theorem Fm.put (h : Fm w b cnt n D k mi mf xf pl rk W) (n1 : Bool) (D1 : ByteArray) (k1 : Int) :
    Fm w b cnt n1 D1 k1 mi mf xf pl rk (((W.setCell ⟨w.heap.size, 0, none⟩ (.bool n1)).setCell ⟨w.heap.size, 1, none⟩ (.string D1)).setCell ⟨w.heap.size, 2, none⟩ (.int .i64 k1)) := by
  have s0 : Fm w b cnt n1 D k mi mf xf pl rk (W.setCell ⟨w.heap.size, 0, none⟩ (.bool n1)) := ⟨h.set.1, (dc_set h.blk).trans rfl, (dc_far (by omega)).trans h.opt, h.set.2, h.lt⟩
  have s1 : Fm w b cnt n1 D1 k mi mf xf pl rk ((W.setCell ⟨w.heap.size, 0, none⟩ (.bool n1)).setCell ⟨w.heap.size, 1, none⟩ (.string D1)) := ⟨s0.set.1, (dc_set s0.blk).trans rfl, (dc_far (by omega)).trans s0.opt, s0.set.2, s0.lt⟩
  exact ⟨s1.set.1, (dc_set s1.blk).trans rfl, (dc_far (by omega)).trans s1.opt, s1.set.2, s1.lt⟩
theorem Fm.start (hm : Mks b cnt w) (hb : b < w.heap.size) (n : Bool) (D : ByteArray) (k mi mf xf : Int) (pl rk : Bool) :
    Fm w b cnt n D k mi mf xf pl rk ((w.alloc (.cells #[.bool n, .string D, .int .i64 k] 29)).alloc (.cells #[.int .i64 mi, .int .i64 mf, .int .i64 xf, .bool pl, .bool rk] 26)) := by
  have m1 := heap_alloc_new w (.cells #[.bool n, .string D, .int .i64 k] 29)
  have z1 : (w.alloc (.cells #[.bool n, .string D, .int .i64 k] 29)).heap.size = w.heap.size + 1 := by simp
  have b1 := (Below.refl w.heap.size w).alloc (Nat.le_refl _) (.cells #[.bool n, .string D, .int .i64 k] 29)
  generalize w.alloc (.cells #[.bool n, .string D, .int .i64 k] 29) = U at *
  have m2 := heap_alloc_new U (.cells #[.int .i64 mi, .int .i64 mf, .int .i64 xf, .bool pl, .bool rk] 26)
  rw [z1] at m2
  have b2 := b1.alloc (by rw [z1]; omega) (.cells #[.int .i64 mi, .int .i64 mf, .int .i64 xf, .bool pl, .bool rk] 26)
  exact ⟨hm.step b2, (Below.heap_alloc _ _ w.heap.size (by rw [z1]; omega)).trans m1, m2, M.grown_below b2 (Nat.le_refl _), hb⟩
end
def fmS (lang : ByteArray) (pl : Bool) (E : ByteArray) (K : Nat) : ByteArray := if pl = true then E.extract 0 (E.size - K) else ⟨(grp (grC lang).data.toList (E.extract 0 (E.size - K)).data.toList).toArray⟩
def fmP (lang : ByteArray) (pl : Bool) (E : ByteArray) (K : Nat) : ByteArray := if 0 < K then fmS lang pl E K ++ (ptC lang ++ E.extract (E.size - K) E.size) else fmS lang pl E K
def fmC (lang : ByteArray) (pl n : Bool) (E : ByteArray) (K : Nat) : ByteArray := if (n && !(Lib.trimB E.data.toList 48).isEmpty) = true then ⟨#[45]⟩ ++ fmP lang pl E K else fmP lang pl E K
theorem grc_len (B : List UInt8) : ∀ L : List UInt8, (grp B L).length ≤ (B.length + 1) * L.length
  | [] => by simp [grp]
  | c :: r => by
    have := grpR_len B r
    simp only [grp, List.length_cons] at *
    rw [Nat.mul_succ]
    omega
theorem look_size {l : List (ByteArray × ByteArray)} (h : l.all (fun p => decide (p.2.size ≤ 3)) = true) (k : ByteArray) : ((M.look l k).getD ⟨#[]⟩).size ≤ 3 := by
  induction l with
  | nil => show (⟨#[]⟩ : ByteArray).size ≤ 3; decide
  | cons p r ih =>
    rw [List.all_cons, Bool.and_eq_true] at h
    unfold M.look
    split
    · simpa using h.1
    · exact ih h.2
theorem ptC_size (lang : ByteArray) : (ptC lang).size ≤ 3 := by
  unfold ptC; split
  · exact look_size (by kernel_rfl) lang
  · decide
theorem grC_size (lang : ByteArray) : (grC lang).size ≤ 3 := by
  unfold grC; split
  · exact look_size (by kernel_rfl) lang
  · decide
theorem fmS_size (lang : ByteArray) (pl : Bool) (E : ByteArray) (K : Nat) (hE : E.size ≤ 900) : (fmS lang pl E K).size ≤ 3600 := by
  have hx : (E.extract 0 (E.size - K)).size ≤ 900 := by rw [ByteArray.size_extract]; omega
  unfold fmS
  split
  · omega
  · have h1 := grc_len (grC lang).data.toList (E.extract 0 (E.size - K)).data.toList
    have h2 := grC_size lang
    rw [Lib.size_eq] at h2 hx
    show (grp (grC lang).data.toList (E.extract 0 (E.size - K)).data.toList).toArray.size ≤ 3600
    simp only [List.size_toArray]
    have h3 : ((grC lang).data.toList.length + 1) * (E.extract 0 (E.size - K)).data.toList.length ≤ 4 * 900 := Nat.mul_le_mul (by omega) hx
    omega
set_option maxRecDepth 100000 in
set_option maxHeartbeats 4000000 in
theorem format_any (b : Nat) (cnt : Int) (h0 : 0 ≤ cnt) (h9 : cnt ≤ 1000) (lang : ByteArray) (mi mf xf : Int) (pl rk n : Bool) (D : ByteArray) (k : Int) (E : ByteArray) (K : Nat) (hK : K < E.size) (hE : E.size ≤ 900)
    (cS : ∀ W, Calls Tryz.prog 12 #[optV mi mf xf pl rk, decV n D k] W fun e w' => e = .returned (decV n E K) ∧ Below W.heap.size W w')
    (w : World) (hm : Mks b cnt w) (hb : b < w.heap.size) :
    Calls Tryz.prog 16 #[.pointer (some ⟨b, 0, none⟩), .string lang, decV n D k, optV mi mf xf pl rk] w fun e w' => e = .returned (.string (fmC lang pl n E K)) ∧ Mks b (cnt + 1) w' ∧ w.grownBy w' (some b) := by
  obtain ⟨F, hF0⟩ : ∃ F, fmC lang pl n E K = F := ⟨_, rfl⟩
  rw [hF0]
  have hS := Fm.start hm hb n D k mi mf xf pl rk
  have cO := fun W (h : Mks b cnt W) => of_any b cnt h0 h9 lang W h
  have cW := fun W => whole_any n E K W (by omega) (by omega)
  have cP := fun W => part_any n E K W (by omega) (by omega)
  have cZ := fun W => zero_any n E K W (by omega)
  have s4 := extract_size E (E.size - K) (by omega)
  have gs := grC_size lang
  have ps := ptC_size lang
  have cG := fun W => group_any (E.extract 0 (E.size - K)) (grC lang) W (by omega) (by omega)
  unfold decV optV at *
  go_enter Tryz.func16, Tryz.ntmps16
  go_upto_region 2 with (go_at_call 15; refine (cO _ hS.mks).mono ?_; rintro e W1 ⟨rfl, m1, g1⟩)
  have h1 := hS.of m1 g1
  clear m1 g1 hS cO
  obtain ⟨p0, p1, p2, p3, p4, p5, p6, p7⟩ := h1.get
  go_upto_region 3 with (go_at_call 12; refine (cS _).mono ?_; rintro e W2 ⟨rfl, b2⟩; have h2 := h1.step b2; obtain ⟨p0, p1, p2, p3, p4, p5, p6, p7⟩ := h2.get; have z0 := h2.fz 0; have z1 := h2.fz 1; have z2 := h2.fz 2)
  have h3 := h2.put n E K
  clear p0 p1 p2 p3 p4 p5 p6 p7 z0 z1 z2 h1 h2 b2 cS
  generalize ((W2.setCell ⟨w.heap.size, 0, none⟩ (.bool n)).setCell ⟨w.heap.size, 1, none⟩ (.string E)).setCell ⟨w.heap.size, 2, none⟩ (.int .i64 K) = W3 at *
  obtain ⟨p0, p1, p2, p3, p4, p5, p6, p7⟩ := h3.get
  go_upto_region 4 with (go_at_call 24; refine (cW _).mono ?_; rintro e W4 ⟨rfl, b4⟩; have h4 := h3.step b4)
  clear p0 p1 p2 p3 p4 p5 p6 p7 h3 b4 cW
  obtain ⟨p0, p1, p2, p3, p4, p5, p6, p7⟩ := h4.get
  have hS9 := fmS_size lang pl E K hE
  have hx9 : (E.extract (E.size - K) E.size).size ≤ 900 := by rw [ByteArray.size_extract]; omega
  have hfin : ∀ S, fmS lang pl E K = S → F = (if (n && !(Lib.trimB E.data.toList 48).isEmpty) = true then ⟨#[45]⟩ ++ (if 0 < K then S ++ (ptC lang ++ E.extract (E.size - K) E.size) else S) else (if 0 < K then S ++ (ptC lang ++ E.extract (E.size - K) E.size) else S)) := fun S h => by rw [← hF0]; unfold fmC fmP; rw [h]
  have cG' : pl = false → ∀ W, Calls Tryz.prog 32 #[.string (E.extract 0 (E.size - K)), .string (grC lang)] W fun e w' => e = .returned (.string (fmS lang pl E K)) ∧ Below W.heap.size W w' := fun hp W => (cG W).mono fun e w' ⟨he, hb⟩ => ⟨by rw [he, hp]; rfl, hb⟩
  have hT : pl = true → E.extract 0 (E.size - K) = fmS lang pl E K := fun hp => by rw [hp]; rfl
  clear hF0
  generalize fmS lang pl E K = S at *
  have hF := hfin S rfl
  clear hfin cG gs
  generalize E.extract 0 (E.size - K) = X at *
  generalize hY : E.extract (E.size - K) E.size = Y at *
  generalize hP : ptC lang = P at *
  generalize grC lang = G at *
  generalize hz : (Lib.trimB E.data.toList 48).isEmpty = z at *
  have a1 : (S.size : Int) ≤ 8388608 := by omega
  have a2 : (P.size : Int) ≤ 8388608 := by omega
  have a3 : (Y.size : Int) ≤ 8388608 := by omega
  have a4 : ((P ++ Y).size : Int) ≤ 8388608 := by rw [ByteArray.size_append]; omega
  have a5 : ((⟨#[45]⟩ : ByteArray).size : Int) ≤ 8388608 := by decide
  cases pl with
  | false =>
    have cGf := cG' rfl
    clear cG' hT
    go_upto_region 6 with (go_at_call 32; refine (cGf _).mono ?_; rintro e W5 ⟨rfl, b5⟩; have h5 := h4.step b5)
    clear p0 p1 p2 p3 p4 p5 p6 p7 h4 b5 cGf
    obtain ⟨p0, p1, p2, p3, p4, p5, p6, p7⟩ := h5.get
    by_cases hk0 : 0 < K
    · have g1 : decide ((K : Int) > 0) = true := decide_eq_true (by omega)
      simp only [if_pos hk0] at hF
      go_upto_region 8 with (go_at_call 33; refine (cP _).mono ?_; rintro e W6 ⟨rfl, b6⟩; have h6 := h5.step b6)
      clear p0 p1 p2 p3 p4 p5 p6 p7 h5 b6 cP
      obtain ⟨p0, p1, p2, p3, p4, p5, p6, p7⟩ := h6.get
      have s9 : ((S ++ (P ++ Y)).size : Int) ≤ 8388608 := by rw [ByteArray.size_append, ByteArray.size_append]; omega
      generalize S ++ (P ++ Y) = S2 at *
      cases n with
      | false =>
        go_wp2
        go_ret
        exact ⟨by first | (rw [hF]; simp; done) | rfl | (simp; done), h6.mks, h6.gw⟩
      | true =>
        cases z with
        | true =>
          go_wp2_with (go_at_call 34; refine (cZ _).mono ?_; rintro e W8 ⟨rfl, b8⟩; have h8 := h6.step b8)
          go_ret
          exact ⟨by first | (rw [hF]; simp; done) | rfl | (simp; done), h8.mks, h8.gw⟩
        | false =>
          go_wp2_with (go_at_call 34; refine (cZ _).mono ?_; rintro e W8 ⟨rfl, b8⟩; have h8 := h6.step b8)
          go_ret
          exact ⟨by first | (rw [hF]; simp; done) | rfl | (simp; done), h8.mks, h8.gw⟩
    · have g1 : decide ((K : Int) > 0) = false := decide_eq_false (by omega)
      simp only [if_neg hk0] at hF
      go_upto_region 8 with (fail)
      cases n with
      | false =>
        go_wp2
        go_ret
        exact ⟨by first | (rw [hF]; simp; done) | rfl | (simp; done), h5.mks, h5.gw⟩
      | true =>
        cases z with
        | true =>
          go_wp2_with (go_at_call 34; refine (cZ _).mono ?_; rintro e W8 ⟨rfl, b8⟩; have h8 := h5.step b8)
          go_ret
          exact ⟨by first | (rw [hF]; simp; done) | rfl | (simp; done), h8.mks, h8.gw⟩
        | false =>
          go_wp2_with (go_at_call 34; refine (cZ _).mono ?_; rintro e W8 ⟨rfl, b8⟩; have h8 := h5.step b8)
          go_ret
          exact ⟨by first | (rw [hF]; simp; done) | rfl | (simp; done), h8.mks, h8.gw⟩
  | true =>
    obtain rfl := hT rfl
    clear cG'
    go_upto_region 6 with (fail)
    by_cases hk0 : 0 < K
    · have g1 : decide ((K : Int) > 0) = true := decide_eq_true (by omega)
      simp only [if_pos hk0] at hF
      go_upto_region 8 with (go_at_call 33; refine (cP _).mono ?_; rintro e W6 ⟨rfl, b6⟩; have h6 := h4.step b6)
      clear p0 p1 p2 p3 p4 p5 p6 p7 h4 b6 cP
      obtain ⟨p0, p1, p2, p3, p4, p5, p6, p7⟩ := h6.get
      have s9 : ((X ++ (P ++ Y)).size : Int) ≤ 8388608 := by rw [ByteArray.size_append, ByteArray.size_append]; omega
      generalize X ++ (P ++ Y) = S2 at *
      cases n with
      | false =>
        go_wp2
        go_ret
        exact ⟨by first | (rw [hF]; simp; done) | rfl | (simp; done), h6.mks, h6.gw⟩
      | true =>
        cases z with
        | true =>
          go_wp2_with (go_at_call 34; refine (cZ _).mono ?_; rintro e W8 ⟨rfl, b8⟩; have h8 := h6.step b8)
          go_ret
          exact ⟨by first | (rw [hF]; simp; done) | rfl | (simp; done), h8.mks, h8.gw⟩
        | false =>
          go_wp2_with (go_at_call 34; refine (cZ _).mono ?_; rintro e W8 ⟨rfl, b8⟩; have h8 := h6.step b8)
          go_ret
          exact ⟨by first | (rw [hF]; simp; done) | rfl | (simp; done), h8.mks, h8.gw⟩
    · have g1 : decide ((K : Int) > 0) = false := decide_eq_false (by omega)
      simp only [if_neg hk0] at hF
      go_upto_region 8 with (fail)
      cases n with
      | false =>
        go_wp2
        go_ret
        exact ⟨by first | (rw [hF]; simp; done) | rfl | (simp; done), h4.mks, h4.gw⟩
      | true =>
        cases z with
        | true =>
          go_wp2_with (go_at_call 34; refine (cZ _).mono ?_; rintro e W8 ⟨rfl, b8⟩; have h8 := h4.step b8)
          go_ret
          exact ⟨by first | (rw [hF]; simp; done) | rfl | (simp; done), h8.mks, h8.gw⟩
        | false =>
          go_wp2_with (go_at_call 34; refine (cZ _).mono ?_; rintro e W8 ⟨rfl, b8⟩; have h8 := h4.step b8)
          go_ret
          exact ⟨by first | (rw [hF]; simp; done) | rfl | (simp; done), h8.mks, h8.gw⟩
end Go.Proofs.YtajgnkncdkibeaaGreatDoor
namespace Go.Proofs.YtajgnkncdkibeaaGreatDoor.G
open Go.RowKit Go.Proofs.YtajgnkncdkibeaaGreatDoorW.PrintWords
set_option linter.unusedVariables false
set_option linter.unusedSimpArgs false
theorem isNaN_str (s : ByteArray) (w : World) : Calls Tryz.prog 42 #[.string s] w fun e w' => e = .returned (.bool false) ∧ w = w' := by
  go_enter Tryz.func42, Tryz.ntmps42
  go_wp2
  go_ret
  exact ⟨by simp, rfl⟩
def cmpS (a b : List UInt8) : Int := if Op.bytesLess a b = true then -1 else if (a == b) = true then 0 else 1
theorem cmp_str (a b : ByteArray) (w : World) : Calls Tryz.prog 26 #[.string a, .string b] w fun e w' => e = .returned (.int .i64 (cmpS a.toList b.toList)) ∧ w = w' := by
  unfold cmpS
  have cN := isNaN_str
  by_cases h1 : Op.bytesLess a.toList b.toList = true
  · rw [if_pos h1]
    go_enter Tryz.func26, Tryz.ntmps26
    go_wp2_with (go_at_call 42; refine (cN _ _).mono ?_; rintro e w' ⟨rfl, rfl⟩)
    go_ret
    exact ⟨rfl, rfl⟩
  · have h1 : Op.bytesLess a.toList b.toList = false := by simpa using h1
    rw [if_neg (by rw [h1]; decide)]
    by_cases h2 : (a.toList == b.toList) = true
    · rw [if_pos h2]
      go_enter Tryz.func26, Tryz.ntmps26
      go_wp2_with (go_at_call 42; refine (cN _ _).mono ?_; rintro e w' ⟨rfl, rfl⟩)
      go_ret
      exact ⟨rfl, rfl⟩
    · have h2 : (a.toList == b.toList) = false := Bool.eq_false_iff.mpr h2
      rw [if_neg (by rw [h2]; decide)]
      go_enter Tryz.func26, Tryz.ntmps26
      go_wp2_with (go_at_call 42; refine (cN _ _).mono ?_; rintro e w' ⟨rfl, rfl⟩)
      go_ret
      exact ⟨rfl, rfl⟩
end Go.Proofs.YtajgnkncdkibeaaGreatDoor.G
namespace Go.Proofs.YtajgnkncdkibeaaGreatDoorW.PrintLast
section
variable {P : Program} {ops : Array Oper} {Q : Exit → Act → World → Prop} {md : Region.Mode} {S : World → Prop} {ds : List Nat} {T : Bool × List (List Nat × List Nat)}
end
end Go.Proofs.YtajgnkncdkibeaaGreatDoorW.PrintLast
namespace Go.Proofs.YtajgnkncdkibeaaGreatDoorW.PrintWords
open Go.RowKit
section
variable {w w' u : World} {m B g : Nat} {o : Obj} {row : Option Nat} {S : Nat → Prop} {a : Addr} {v : Value}
end
namespace Kd
section
variable {α : Type} {d : Kd α} {e base n m : Nat} {ok : Nat → Prop} {w w' : World} {v : Value} {A : Option Addr} {xs : List α}
end
end Kd
end Go.Proofs.YtajgnkncdkibeaaGreatDoorW.PrintWords
namespace Go.Proofs.YtajgnkncdkibeaaGreatDoorW.PrintWords
open Go.RowKit
section
variable {P : Program} {d : Nat} {xs ys : Array Value} {f : Field} {fs : List Field} {a b : Value} {r s : Bool} {w : World}
theorem eqf_last (hn : (f.name == "_") = false) (ha : (part f.type xs f.offset).run P w = .ok a w) (hb : (part f.type ys f.offset).run P w = .ok b w) (he : (Op.equalIn d f.type a b).run P w = .ok r w) : (Op.eqFields d xs ys [f]).run P w = .ok r w := by
  have hn' : f.name ≠ "_" := by simpa using hn
  simp only [Op.eqFields, if_pos hn', Sem.run_bind, ha, hb, he, Result.andThen_ok]
  cases r <;> simp
theorem eqf_cons (hn : (f.name == "_") = false) (ha : (part f.type xs f.offset).run P w = .ok a w) (hb : (part f.type ys f.offset).run P w = .ok b w) (he : (Op.equalIn d f.type a b).run P w = .ok r w) (hr : (Op.eqFields d xs ys fs).run P w = .ok s w) : (Op.eqFields d xs ys (f :: fs)).run P w = .ok (r && s) w := by
  have hn' : f.name ≠ "_" := by simpa using hn
  rw [Op.eqFields]
  simp only [if_pos hn', Sem.run_bind, ha, hb, he, Result.andThen_ok]
  cases r
  · simp
  · simpa using hr
theorem eqA_of {t : TypeId} {fs : Array Field} (hu : P.underlying t = some (.struct fs)) (hp : P.stoodInHeld t = false) (h : (Op.eqFields d xs ys fs.toList).run P w = .ok r w) : (Op.equalIn (d + 1) t (.agg xs) (.agg ys)).run P w = .ok r w := by
  have hf : P.fieldsOf t = fs := by simp [Program.fieldsOf, hu]
  rw [run_equalIn_struct (P := P) w d t xs ys (by rw [hf]; exact hu) hp, hf]
  exact h
end
end Go.Proofs.YtajgnkncdkibeaaGreatDoorW.PrintWords
