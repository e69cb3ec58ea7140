/- whatever options, one by one: what they are then, or that it is none (Text 3 of 5: what the law's proof rests on, joined; walks printed by the kit's print over given contracts, walks and plain laws by hand.) -/
import Derived.Test.YtajgnkncdkibeaaGreatDoorProg
import Derived.Below
import Derived.Deep.Draws
import Derived.Deep.AppendLies
import Derived.Maps.AppendAt
import Derived.OwnWalk
import Derived.Laws.BytesArg
import Derived.Laws.MakeOwn
import Derived.Laws.OwnMore
import Derived.Deep.OwnRows
import Derived.Tactics
import Derived.Lib.ConvBytes
import Derived.Laws.Slices
import Derived.WalkKit
import Derived.KernelRfl
import Derived.RowKit3
import Derived.Deep.LoopGhost
import Derived.Deep.QuietTactic
import Derived.BigQuiet
import Derived.WideLaws
import Derived.Deep.DeepCutAuto
import Derived.Deep.CutBlock
import Derived.Deep.RegionHeld3
import Derived.Laws.Rows
import Derived.Lib.AppendStr
import Derived.ArgAppend
import Derived.Laws.IdiomCopy
import Derived.OrdersHeld
import Derived.Laws.BitsLemmas
import Derived.RowKit
import Derived.Laws.Cover1
import Derived.Laws.Runes
import Derived.Deep.RegionWith
import Derived.Deep.DrawnRows
import Derived.Handy
import Derived.Test.YtajgnkncdkibeaaGreatDoorCards
import Derived.Test.YtajgnkncdkibeaaGreatDoorTie
import Derived.Lib.SmallJoins
import Derived.SizedLaws
import Derived.Deep.Slices
import Derived.Deep.Fields
import Derived.ProofKit
import Derived.OpenShut
import Derived.ShutString
import Derived.Deep.DeepHandedRow
import Derived.Lib.LaidU8
import Derived.Lib.LaidU8T
import Derived.LaidOnce
import Derived.LaidMore
import Derived.Deep.DeepWitnessRowRef
import Derived.Deep.DeepLaidRun
import Derived.Test.YtajgnkncdkibeaaGreatDoorNse0
import Derived.Test.YtajgnkncdkibeaaGreatDoorNse1
namespace Go.Proofs.YtajgnkncdkibeaaGreatDoorW.PrintWords
theorem Reps.one {α : Type} {R : α → List Value → Prop} {ps : List α} {cs : List Value} {p : α} {v : Value} (hp : R p [v]) (h : Reps R 1 ps cs) : Reps R 1 (p :: ps) (v :: cs) := by
  refine ⟨by simp [h.1], fun j q hq => ?_⟩
  cases j with
  | zero =>
    simp only [List.getElem?_cons_zero, Option.some.injEq] at hq
    subst hq
    simpa using hp
  | succ j =>
    simp only [List.getElem?_cons_succ] at hq
    have h1 := h.2 j q hq
    simpa [Nat.mul_one] using h1
theorem Reps.front {α : Type} {R : α → List Value → Prop} {size : Nat} {ps : List α} {cs c all : List Value} {p : α} (hp : R p c) (hc : c.length = size) (h : Reps R size ps cs) (ha : c ++ cs = all) : Reps R size (p :: ps) all := by
  subst ha
  refine ⟨by rw [List.length_append, hc, h.1, List.length_cons, Nat.succ_mul, Nat.add_comm], fun j q hq => ?_⟩
  cases j with
  | zero =>
    simp only [List.getElem?_cons_zero, Option.some.injEq] at hq
    subst hq
    rw [Nat.zero_mul, List.drop_zero, List.take_append_of_le_length (by omega), List.take_of_length_le (by omega)]
    exact hp
  | succ j =>
    simp only [List.getElem?_cons_succ] at hq
    have h1 := h.2 j q hq
    rw [Nat.succ_mul, List.drop_append, List.drop_of_length_le (by rw [hc]; exact Nat.le_add_left _ _), List.nil_append, hc, Nat.add_sub_cancel]
    exact h1
theorem Reps.c2 {α : Type} {R : α → List Value → Prop} {ps : List α} {cs : List Value} {p : α} {va vb : Value} (hp : R p [va, vb]) (h : Reps R 2 ps cs) : Reps R 2 (p :: ps) (va :: vb :: cs) := Reps.front hp rfl h rfl
theorem Reps.c3 {α : Type} {R : α → List Value → Prop} {ps : List α} {cs : List Value} {p : α} {va vb vc : Value} (hp : R p [va, vb, vc]) (h : Reps R 3 ps cs) : Reps R 3 (p :: ps) (va :: vb :: vc :: cs) := Reps.front hp rfl h rfl
theorem Reps.c4 {α : Type} {R : α → List Value → Prop} {ps : List α} {cs : List Value} {p : α} {va vb vc vd : Value} (hp : R p [va, vb, vc, vd]) (h : Reps R 4 ps cs) : Reps R 4 (p :: ps) (va :: vb :: vc :: vd :: cs) := Reps.front hp rfl h rfl
theorem Reps.c5 {α : Type} {R : α → List Value → Prop} {ps : List α} {cs : List Value} {p : α} {va vb vc vd ve : Value} (hp : R p [va, vb, vc, vd, ve]) (h : Reps R 5 ps cs) : Reps R 5 (p :: ps) (va :: vb :: vc :: vd :: ve :: cs) := Reps.front hp rfl h rfl
theorem Reps.c6 {α : Type} {R : α → List Value → Prop} {ps : List α} {cs : List Value} {p : α} {va vb vc vd ve vf : Value} (hp : R p [va, vb, vc, vd, ve, vf]) (h : Reps R 6 ps cs) : Reps R 6 (p :: ps) (va :: vb :: vc :: vd :: ve :: vf :: cs) := Reps.front hp rfl h rfl
theorem Reps.c7 {α : Type} {R : α → List Value → Prop} {ps : List α} {cs : List Value} {p : α} {va vb vc vd ve vf vg : Value} (hp : R p [va, vb, vc, vd, ve, vf, vg]) (h : Reps R 7 ps cs) : Reps R 7 (p :: ps) (va :: vb :: vc :: vd :: ve :: vf :: vg :: cs) := Reps.front hp rfl h rfl
theorem Reps.c8 {α : Type} {R : α → List Value → Prop} {ps : List α} {cs : List Value} {p : α} {va vb vc vd ve vf vg vh : Value} (hp : R p [va, vb, vc, vd, ve, vf, vg, vh]) (h : Reps R 8 ps cs) : Reps R 8 (p :: ps) (va :: vb :: vc :: vd :: ve :: vf :: vg :: vh :: cs) := Reps.front hp rfl h rfl
theorem Reps.c9 {α : Type} {R : α → List Value → Prop} {ps : List α} {cs : List Value} {p : α} {va vb vc vd ve vf vg vh vi : Value} (hp : R p [va, vb, vc, vd, ve, vf, vg, vh, vi]) (h : Reps R 9 ps cs) : Reps R 9 (p :: ps) (va :: vb :: vc :: vd :: ve :: vf :: vg :: vh :: vi :: cs) := Reps.front hp rfl h rfl
theorem Reps.c10 {α : Type} {R : α → List Value → Prop} {ps : List α} {cs : List Value} {p : α} {va vb vc vd ve vf vg vh vi vj : Value} (hp : R p [va, vb, vc, vd, ve, vf, vg, vh, vi, vj]) (h : Reps R 10 ps cs) : Reps R 10 (p :: ps) (va :: vb :: vc :: vd :: ve :: vf :: vg :: vh :: vi :: vj :: cs) := Reps.front hp rfl h rfl
end Go.Proofs.YtajgnkncdkibeaaGreatDoorW.PrintWords
namespace Go.Proofs.YtajgnkncdkibeaaGreatDoorW.PrintWords
open Go.RowKit
section
variable {P : Program} {ops : Array Oper} {rest : List Oper} {o : Oper} {a : Act} {Q : Exit → Act → World → Prop} {W : World}
theorem gate_guard (hw : Region.wanted o (yielded ops a.tmps) = true) (h : wpList P ops Q ({ o with guard := none } :: rest) a W) : wpList P ops Q (o :: rest) a W := by
  have h1 : Region.wanted { o with guard := none } (yielded ops a.tmps) = true := rfl
  unfold wpList at h ⊢
  rw [if_pos h1] at h
  rw [if_pos hw]
  exact h
end
end Go.Proofs.YtajgnkncdkibeaaGreatDoorW.PrintWords
namespace Go.Proofs.YtajgnkncdkibeaaGreatDoor.U
open Go.RowKit Go.Proofs.YtajgnkncdkibeaaGreatDoor.G Go.Proofs.YtajgnkncdkibeaaGreatDoorW.PrintWords Go.Proofs.YtajgnkncdkibeaaGreatDoorW.PrintLast Go.Proofs.YtajgnkncdkibeaaGreatDoorW.PrintMore
attribute [local go_sem] max2_int min2_int max_two min_two max_three min_three max_four min_four
set_option linter.unusedVariables false
set_option linter.unusedSimpArgs false
def errW : Option Int → Value
  | none => .nilIface
  | some c => .iface 0 (.int .i64 c)
theorem errW_none : errW none = .nilIface := rfl
theorem errW_some (c : Int) : errW (some c) = .iface 0 (.int .i64 c) := rfl
end Go.Proofs.YtajgnkncdkibeaaGreatDoor.U
namespace Go.Proofs.YtajgnkncdkibeaaGreatDoor.U
open Go.RowKit Go.Proofs.YtajgnkncdkibeaaGreatDoor.G Go.Proofs.YtajgnkncdkibeaaGreatDoorW.PrintWords Go.Proofs.YtajgnkncdkibeaaGreatDoorW.PrintLast Go.Proofs.YtajgnkncdkibeaaGreatDoorW.PrintMore
attribute [local go_sem] max2_int min2_int max_two min_two max_three min_three max_four min_four
set_option linter.unusedVariables false
set_option linter.unusedSimpArgs false
def dec_make0.f (a0 : Bool) (a1 : ByteArray) (a2 : Int) : Option (Bool × ByteArray × Int) := (strings_TrimLeft.f a1 (⟨#[48]⟩ : ByteArray)).bind fun t102 => (if (wrap64 ((wrap64 (a2 + 1)) - (t102.size : Int))) > 0 then ((strings_Repeat.f (⟨#[48]⟩ : ByteArray) (wrap64 ((wrap64 (a2 + 1)) - (t102.size : Int)))).bind fun t103 => (if t103.size + t102.size ≤ 9223372036854775807 then (some (a0, t103 ++ t102, a2)) else (none))) else (some (a0, t102, a2)))
set_option maxHeartbeats 8000000 in
set_option maxRecDepth 100000 in
theorem dec_make0.calls (a0 : Bool) (a1 : ByteArray) (a2 : Int) (r1 : Bool) (r2 : ByteArray) (r3 : Int) (w : World) (h : dec_make0.f a0 a1 a2 = some (r1, r2, r3)) :
    Calls Tryz.prog 28 #[.bool a0, .string a1, .int .i64 a2] w fun e w' => e = .returned (.agg #[.bool r1, .string r2, .int .i64 r3]) ∧ Below w.heap.size w w' := by
  have hu29 := Tryz.underlying29
  have HB := Aside0.mk (Below.refl w.heap.size w)
  have H : ((strings_TrimLeft.f a1 (⟨#[48]⟩ : ByteArray)).bind fun t102 => (if (wrap64 ((wrap64 (a2 + 1)) - (t102.size : Int))) > 0 then ((strings_Repeat.f (⟨#[48]⟩ : ByteArray) (wrap64 ((wrap64 (a2 + 1)) - (t102.size : Int)))).bind fun t103 => (if t103.size + t102.size ≤ 9223372036854775807 then (some (a0, t103 ++ t102, a2)) else (none))) else (some (a0, t102, a2)))) = some (r1, r2, r3) := h
  clear h
  replace H := Option.bind_eq_some_iff.mp H
  obtain ⟨t102, A40, H⟩ := H
  replace H : (if (wrap64 ((wrap64 (a2 + 1)) - (t102.size : Int))) > 0 then ((strings_Repeat.f (⟨#[48]⟩ : ByteArray) (wrap64 ((wrap64 (a2 + 1)) - (t102.size : Int)))).bind fun t103 => (if t103.size + t102.size ≤ 9223372036854775807 then (some (a0, t103 ++ t102, a2)) else (none))) else (some (a0, t102, a2))) = some (r1, r2, r3) := H
  have A4 := Aside0.mk A40
  clear A40
  by_cases c5 : (wrap64 ((wrap64 (a2 + 1)) - (t102.size : Int))) > 0
  · rw [if_pos c5] at H
    have c5b0 : decide (0 < (wrap64 ((wrap64 (a2 + 1)) - (t102.size : Int)))) = true := decide_eq_true c5
    clear c5
    replace H := Option.bind_eq_some_iff.mp H
    obtain ⟨t103, A60, H⟩ := H
    replace H : (if t103.size + t102.size ≤ 9223372036854775807 then (some (a0, t103 ++ t102, a2)) else (none)) = some (r1, r2, r3) := H
    have A6 := Aside0.mk A60
    clear A60
    by_cases c7 : t103.size + t102.size ≤ 9223372036854775807
    · rw [if_pos c7] at H
      try simp only [show wrap64 ((t103.size : Int) + (t102.size : Int)) = (t103.size : Int) + (t102.size : Int) from by unfold wrap64; omega] at *
      have c7b0 := eq_true c7
      have c7b1 : decide (t103.size + t102.size ≤ 9223372036854775807) = true := decide_eq_true c7
      try have c7b2 : (9223372036854775807 < t103.size + t102.size) = False := eq_false (Nat.not_lt.2 c7)
      simp only [Option.some.injEq, Prod.mk.injEq] at H
      obtain ⟨rfl, rfl, rfl⟩ := H
      go_enter Tryz.func28, Tryz.ntmps28
      go_wp2_with (first | ((with_reducible refine gate_dst (N := 6) rfl ?_); refine box_event ?hg (N := 6) ?hd (cs := #[.bool false, .string (⟨#[]⟩ : ByteArray), .int .i64 0]) (t := 29) ?hr ?_; (case hd => rfl); (case hg => rfl); (case hr => first | (go_simp; done) | (go_simp; rfl)); intro gb101 hg w8 hbox hb; have n0_ := Aside0.mk (below_step (by repeat (first | (with_reducible first | exact HB.out | apply below_alloc | apply pw_below_drewN | apply below_drew1) | exact HB.out)) hb); have n1_ := Aside0.mk (hbox); have n2_ := Aside0.mk ((by rw [hg]; exact (below_size (by repeat (first | (with_reducible first | exact HB.out | apply below_alloc | apply pw_below_drewN | apply below_drew1) | exact HB.out))) : w.heap.size ≤ gb101)); have n3_ := Aside0.mk ((by rw [hg]; exact (below_size (by repeat (first | (with_reducible first | exact HB.out | apply below_alloc | apply pw_below_drewN | apply below_drew1) | exact HB.out))) : w.heap.size ≤ gb101)); clear HB; have HB := n0_; have BK101 := n1_; have GW101 := n2_; have GE101 := n3_; clear n0_ n1_ n2_ n3_; clear hb hbox hg) | ((with_reducible refine gate_callee (f := 43) rfl ?_); refine goesL_ (some 9) rfl rfl Tryz.func43 (by kernel_rfl) rfl #[.string a1, .string (⟨#[48]⟩ : ByteArray)] rfl (by (try simp only [List.map_toArray, List.map_cons, List.map_nil]); first | done | rfl | (simp only [List.length_drop, List.length_take]; rfl)) ?_; (with_reducible refine (strings_TrimLeft.calls a1 (⟨#[48]⟩ : ByteArray) t102 _ A4.out).mono ?_); rintro e w9 ⟨rfl, hb⟩; refine ⟨_, rfl, ?_⟩; have n0_ := Aside0.mk (blk_below (g := gb101) (o := .cells #[.bool false, .string (⟨#[]⟩ : ByteArray), .int .i64 0] 29 (0, 0)) (by (with_reducible repeat (first | refine blk_drewN ?_ _ | refine blk_drew ?_ | refine blk_alloc ?_ _)); exact BK101.out) hb); have n1_ := Aside0.mk (below_step (by repeat (first | (with_reducible first | exact HB.out | apply below_alloc | apply pw_below_drewN | apply below_drew1 | refine below_set ?_ GE101.out) | exact HB.out)) hb); clear BK101; clear HB; have BK101 := n0_; have HB := n1_; clear n0_ n1_; (try clear hb); (try clear hb2); (try clear hk); (try clear hi)) | ((with_reducible refine gate_callee (f := 25) rfl ?_); refine goesL_ (some 18) rfl rfl Tryz.func25 (by kernel_rfl) rfl #[.string (⟨#[48]⟩ : ByteArray), .int .i64 (wrap64 ((wrap64 (a2 + 1)) - (t102.size : Int)))] rfl (by (try simp only [List.map_toArray, List.map_cons, List.map_nil]); first | done | rfl | (simp only [List.length_drop, List.length_take]; rfl)) ?_; (with_reducible refine (strings_Repeat.calls (⟨#[48]⟩ : ByteArray) (wrap64 ((wrap64 (a2 + 1)) - (t102.size : Int))) t103 _ A6.out).mono ?_); rintro e w10 ⟨rfl, hb⟩; refine ⟨_, rfl, ?_⟩; have n0_ := Aside0.mk (blk_below (g := gb101) (o := .cells #[.bool false, .string (⟨#[]⟩ : ByteArray), .int .i64 0] 29 (0, 0)) (by (with_reducible repeat (first | refine blk_drewN ?_ _ | refine blk_drew ?_ | refine blk_alloc ?_ _)); exact BK101.out) hb); have n1_ := Aside0.mk (below_step (by repeat (first | (with_reducible first | exact HB.out | apply below_alloc | apply pw_below_drewN | apply below_drew1 | refine below_set ?_ GE101.out) | exact HB.out)) hb); clear BK101; clear HB; have BK101 := n0_; have HB := n1_; clear n0_ n1_; (try clear hb); (try clear hb2); (try clear hk); (try clear hi); have hcz11_0 : w10.cell? ⟨gb101, 0, none⟩ = some (.bool false) := (blk_cell BK101.out 0).trans rfl; have hcz11_1 : w10.cell? ⟨gb101, 1, none⟩ = some (.string (⟨#[]⟩ : ByteArray)) := (blk_cell BK101.out 1).trans rfl; have hcz11_2 : w10.cell? ⟨gb101, 2, none⟩ = some (.int .i64 0) := (blk_cell BK101.out 2).trans rfl; have hfz11_0 := blk_frozen BK101.out 0; have hfz11_1 := blk_frozen BK101.out 1; have hfz11_2 := blk_frozen BK101.out 2))
      refine bodyPost_ret (results_cell_row rfl _ _ gb101 29 #[.bool a0, .string (t103 ++ t102), .int .i64 a2] (0, 0) _ rfl (by (with_reducible repeat (first | refine blk_drewN ?_ _ | refine blk_drew ?_ | refine blk_alloc ?_ _)); refine blk_put (cs := #[.bool a0, .string (t103 ++ t102), .int .i64 0]) ?_ 2 _ rfl; (with_reducible repeat (first | refine blk_drewN ?_ _ | refine blk_drew ?_ | refine blk_alloc ?_ _)); refine blk_put (cs := #[.bool a0, .string (⟨#[]⟩ : ByteArray), .int .i64 0]) ?_ 1 _ rfl; (with_reducible repeat (first | refine blk_drewN ?_ _ | refine blk_drew ?_ | refine blk_alloc ?_ _)); refine blk_put (cs := #[.bool false, .string (⟨#[]⟩ : ByteArray), .int .i64 0]) ?_ 0 _ rfl; (with_reducible repeat (first | refine blk_drewN ?_ _ | refine blk_drew ?_ | refine blk_alloc ?_ _)); exact BK101.out) Tryz.underlying29 rfl (by kernel_rfl)) rfl ?_
      exact ⟨by first | rfl | (simp [errW_none, errW_some] <;> rfl) | (simp [*, errW_none, errW_some] <;> rfl), by repeat (first | (with_reducible first | exact HB.out | apply below_alloc | apply pw_below_drewN | apply below_drew1 | refine below_set ?_ GE101.out) | exact HB.out)⟩
    · rw [if_neg c7] at H
      exact absurd H (by simp)
  · rw [if_neg c5] at H
    have c5b0 : decide (0 < (wrap64 ((wrap64 (a2 + 1)) - (t102.size : Int)))) = false := decide_eq_false c5
    clear c5
    simp only [Option.some.injEq, Prod.mk.injEq] at H
    obtain ⟨rfl, rfl, rfl⟩ := H
    go_enter Tryz.func28, Tryz.ntmps28
    go_wp2_with (first | ((with_reducible refine gate_dst (N := 6) rfl ?_); refine box_event ?hg (N := 6) ?hd (cs := #[.bool false, .string (⟨#[]⟩ : ByteArray), .int .i64 0]) (t := 29) ?hr ?_; (case hd => rfl); (case hg => rfl); (case hr => first | (go_simp; done) | (go_simp; rfl)); intro gb101 hg w12 hbox hb; have n0_ := Aside0.mk (below_step (by repeat (first | (with_reducible first | exact HB.out | apply below_alloc | apply pw_below_drewN | apply below_drew1) | exact HB.out)) hb); have n1_ := Aside0.mk (hbox); have n2_ := Aside0.mk ((by rw [hg]; exact (below_size (by repeat (first | (with_reducible first | exact HB.out | apply below_alloc | apply pw_below_drewN | apply below_drew1) | exact HB.out))) : w.heap.size ≤ gb101)); have n3_ := Aside0.mk ((by rw [hg]; exact (below_size (by repeat (first | (with_reducible first | exact HB.out | apply below_alloc | apply pw_below_drewN | apply below_drew1) | exact HB.out))) : w.heap.size ≤ gb101)); clear HB; have HB := n0_; have BK101 := n1_; have GW101 := n2_; have GE101 := n3_; clear n0_ n1_ n2_ n3_; clear hb hbox hg) | ((with_reducible refine gate_callee (f := 43) rfl ?_); refine goesL_ (some 9) rfl rfl Tryz.func43 (by kernel_rfl) rfl #[.string a1, .string (⟨#[48]⟩ : ByteArray)] rfl (by (try simp only [List.map_toArray, List.map_cons, List.map_nil]); first | done | rfl | (simp only [List.length_drop, List.length_take]; rfl)) ?_; (with_reducible refine (strings_TrimLeft.calls a1 (⟨#[48]⟩ : ByteArray) t102 _ A4.out).mono ?_); rintro e w13 ⟨rfl, hb⟩; refine ⟨_, rfl, ?_⟩; have n0_ := Aside0.mk (blk_below (g := gb101) (o := .cells #[.bool false, .string (⟨#[]⟩ : ByteArray), .int .i64 0] 29 (0, 0)) (by (with_reducible repeat (first | refine blk_drewN ?_ _ | refine blk_drew ?_ | refine blk_alloc ?_ _)); exact BK101.out) hb); have n1_ := Aside0.mk (below_step (by repeat (first | (with_reducible first | exact HB.out | apply below_alloc | apply pw_below_drewN | apply below_drew1 | refine below_set ?_ GE101.out) | exact HB.out)) hb); clear BK101; clear HB; have BK101 := n0_; have HB := n1_; clear n0_ n1_; (try clear hb); (try clear hb2); (try clear hk); (try clear hi); have hcz14_0 : w13.cell? ⟨gb101, 0, none⟩ = some (.bool false) := (blk_cell BK101.out 0).trans rfl; have hcz14_1 : w13.cell? ⟨gb101, 1, none⟩ = some (.string (⟨#[]⟩ : ByteArray)) := (blk_cell BK101.out 1).trans rfl; have hcz14_2 : w13.cell? ⟨gb101, 2, none⟩ = some (.int .i64 0) := (blk_cell BK101.out 2).trans rfl; have hfz14_0 := blk_frozen BK101.out 0; have hfz14_1 := blk_frozen BK101.out 1; have hfz14_2 := blk_frozen BK101.out 2))
    refine bodyPost_ret (results_cell_row rfl _ _ gb101 29 #[.bool a0, .string t102, .int .i64 a2] (0, 0) _ rfl (by (with_reducible repeat (first | refine blk_drewN ?_ _ | refine blk_drew ?_ | refine blk_alloc ?_ _)); refine blk_put (cs := #[.bool a0, .string t102, .int .i64 0]) ?_ 2 _ rfl; (with_reducible repeat (first | refine blk_drewN ?_ _ | refine blk_drew ?_ | refine blk_alloc ?_ _)); refine blk_put (cs := #[.bool a0, .string (⟨#[]⟩ : ByteArray), .int .i64 0]) ?_ 1 _ rfl; (with_reducible repeat (first | refine blk_drewN ?_ _ | refine blk_drew ?_ | refine blk_alloc ?_ _)); refine blk_put (cs := #[.bool false, .string (⟨#[]⟩ : ByteArray), .int .i64 0]) ?_ 0 _ rfl; (with_reducible repeat (first | refine blk_drewN ?_ _ | refine blk_drew ?_ | refine blk_alloc ?_ _)); exact BK101.out) Tryz.underlying29 rfl (by kernel_rfl)) rfl ?_
    exact ⟨by first | rfl | (simp [errW_none, errW_some] <;> rfl) | (simp [*, errW_none, errW_some] <;> rfl), by repeat (first | (with_reducible first | exact HB.out | apply below_alloc | apply pw_below_drewN | apply below_drew1 | refine below_set ?_ GE101.out) | exact HB.out)⟩
end Go.Proofs.YtajgnkncdkibeaaGreatDoor.U
namespace Go.Proofs.YtajgnkncdkibeaaGreatDoor
open Go.RowKit Go.Proofs.YtajgnkncdkibeaaGreatDoorW.PrintWords Go.Proofs.YtajgnkncdkibeaaGreatDoorW.PrintMore
set_option linter.unusedVariables false
set_option linter.unusedSimpArgs false
def incR : List UInt8 → List UInt8
  | [] => [49]
  | c :: t => if c.toNat < 57 then (c.toNat + 1).toUInt8 :: t else 48 :: incR t
def incL (l : List UInt8) : List UInt8 := (incR l.reverse).reverse
structure Lies (g : Nat) (M : List UInt8) (w : World) : Prop where
  cell : ∀ j c, M[j]? = some c → w.cell? ⟨g, j, none⟩ = some (.int .u8 c.toNat)
  free : ∀ j, j < M.length → w.frozen? ⟨g, j, none⟩ = false
theorem Lies.below {g : Nat} {M : List UInt8} {w w' : World} (h : Lies g M w) (hb : Below w.heap.size w w') (hg : g < w.heap.size) : Lies g M w' :=
  ⟨fun j c hj => by rw [hb.cell (p := ⟨g, j, none⟩) hg]; exact h.cell j c hj, fun j hj => by rw [hb.frozen (p := ⟨g, j, none⟩) hg]; exact h.free j hj⟩
theorem Lies.set {g : Nat} {M : List UInt8} {w : World} (h : Lies g M w) (i : Nat) (hi : i < M.length) (c : UInt8) : Lies g (M.set i c) (w.setCell ⟨g, i, none⟩ (.int .u8 c.toNat)) := by
  refine ⟨fun j x hj => ?_, fun j hj => ?_⟩
  · rw [List.getElem?_set] at hj
    by_cases e : i = j
    · subst e
      rw [if_pos rfl, if_pos hi] at hj
      obtain rfl := Option.some.inj hj
      exact World.cell?_setCell_same _ _ _ (h.cell i _ (List.getElem?_eq_getElem hi))
    · rw [if_neg e] at hj
      rw [World.cell?_setCell_other _ _ ⟨g, j, none⟩ _ (by intro h; exact e (by injection h))]
      exact h.cell j x hj
  · rw [World.frozen?_setCell]
    rw [List.length_set] at hj
    exact h.free j hj
theorem strOfNums_list (l : List UInt8) : strOfNums (l.map fun b => (b.toNat : Int)) = ⟨l.toArray⟩ := by
  apply ByteArray.ext
  apply Array.toList_inj.1
  rw [strOfNums_data, List.map_map]
  show l.map _ = l
  conv => rhs; rw [← List.map_id l]
  exact List.map_congr_left fun b _ => by simp
theorem Lies.str {g : Nat} {M : List UInt8} {w : World} (h : Lies g M w) (cap : Nat) : (convert 73 9 (.slice (some ⟨g, 0, none⟩) M.length cap)).run Tryz.prog w = .ok (.string ⟨M.toArray⟩) w := by
  rw [run_convert_bytes_arg (P := Tryz.prog) w 73 5 Tryz.underlying73 Tryz.underlying5 g 0 M.length cap (M.map fun b => (b.toNat : Int)) (by simp) (fun i hi => by
    rw [Nat.zero_add, h.cell i _ (List.getElem?_eq_getElem hi)]
    simp [List.getD, List.getElem?_eq_getElem hi]) 9 Tryz.underlying9, strOfNums_list]
theorem incL_step (a : List UInt8) (c : UInt8) (j : Nat) (h : 57 ≤ c.toNat) : incL (a ++ [c]) ++ List.replicate j 48 = incL a ++ List.replicate (j + 1) 48 := by
  unfold incL
  rw [List.reverse_append]
  show (incR (c :: a.reverse)).reverse ++ _ = _
  rw [show incR (c :: a.reverse) = if c.toNat < 57 then (c.toNat + 1).toUInt8 :: a.reverse else 48 :: incR a.reverse from rfl, if_neg (by omega)]
  rw [List.reverse_cons, List.append_assoc, List.replicate_succ]
  rfl
theorem incL_stop (a : List UInt8) (c : UInt8) (h : c.toNat < 57) : incL (a ++ [c]) = a ++ [(c.toNat + 1).toUInt8] := by
  unfold incL
  rw [List.reverse_append]
  show (incR (c :: a.reverse)).reverse = _
  rw [show incR (c :: a.reverse) = if c.toNat < 57 then (c.toNat + 1).toUInt8 :: a.reverse else 48 :: incR a.reverse from rfl, if_pos h]
  simp
theorem incL_nil : incL [] = [49] := rfl
theorem Lies.of_own {w : World} {base g n cap : Nat} {l : List UInt8} {xs : List Value} (h : w.ownsRow base 5 1 (.slice (some ⟨g, 0, none⟩) n cap) n xs) (hx : xs = l.map fun c => Value.int .u8 c.toNat) : Lies g l w := by
  rcases h.2 with ⟨h, _⟩ | ⟨g3, cap3, cur, h, _, hh, h2, _, h4, h5⟩
  · cases h
  · injection h with h1 _ _
    injection h1 with h1
    injection h1 with h1
    subst h1
    subst hx
    rw [Nat.mul_one] at h5
    refine ⟨fun j c hj => ?_, fun j hj => Lib.frozen_of_heap hh j⟩
    rw [Lib.cell_of_heap hh]
    have e : (cur.toList.take n)[j]? = some (.int .u8 c.toNat) := by rw [h5, List.getElem?_map, hj]; rfl
    rw [List.getElem?_take] at e
    split at e
    · rw [← Array.getElem?_toList]; exact e
    · cases e
theorem u8Info : (Tryz.prog.info? 5).map (fun i => (i.zero, i.size, i.bytes)) = some (some (.int .u8 0), 1, 1) := by kernel_rfl
set_option maxRecDepth 100000 in
set_option maxHeartbeats 4000000 in
theorem up_any (l : List UInt8) (g cap : Nat) (w : World) (hn : 1 ≤ l.length) (hl : l.length ≤ 1000) (hL : Lies g l w) (hg : g < w.heap.size) :
    Calls Tryz.prog 27 #[.slice (some ⟨g, 0, none⟩) l.length cap] w fun e w' => ∃ g' cap', e = .returned (.slice (some ⟨g', 0, none⟩) (incL l).length cap') ∧ Lies g' (incL l) w' ∧ g' < w'.heap.size ∧ Below g w w' := by
  obtain ⟨R, hR⟩ : ∃ R, incL l = R := ⟨_, rfl⟩
  rw [hR]
  have HR := Lib.hid hR; clear hR
  have HL := Lib.hid hL; clear hL
  go_enter Tryz.func27, Tryz.ntmps27
  go_wp2
  go_loopg [3] l.length (fun gk si wx => ∃ (i : Nat) (z : Int), si = .int .i64 z ∧ z + 1 = i ∧ i ≤ l.length ∧ Lies g (l.take i ++ List.replicate (l.length - i) 48) wx ∧ Below g w wx ∧ incL (l.take i) ++ List.replicate (l.length - i) 48 = R ∧ i ≤ gk)
  case atStart => exact ⟨l.length, (l.length : Int) - 1, rfl, by omega, Nat.le_refl _, by simpa using HL.out, Below.refl _ _, by simpa using HR.out, Nat.le_refl _⟩
  case round =>
    obtain ⟨i, z, rfl, hz, hi, hL, hb, hr, hfu⟩ := hrel
    clear HL HR
    have hsz := hb.size
    have Hr := Lib.hid hr; clear hr
    cases i with
    | zero =>
      obtain rfl : z = -1 := by omega
      have hL0 : Lies g (List.replicate l.length 48) wr := by simpa using hL
      have hR0 : R = 49 :: List.replicate l.length 48 := by rw [← Hr.out]; simp [incL_nil]
      have hnews : ∀ (j : Nat) (u : Value), (List.replicate l.length (Value.int .u8 48))[j]? = some u → (wr.alloc (.cells #[.int .u8 49] 5)).cell? ((⟨g, 0, none⟩ : Addr).add j) = some u := fun j u hj => by
        obtain ⟨hlt, e⟩ := List.getElem?_eq_some_iff.1 hj
        rw [List.length_replicate] at hlt
        rw [List.getElem_replicate] at e
        subst e
        rw [add_plain, World.cell?_alloc_lt _ _ _ (by show g < wr.heap.size; omega)]
        exact hL0.cell j 48 (by rw [List.getElem?_replicate, if_pos hlt])
      have hown : (wr.alloc (.cells #[.int .u8 49] 5)).ownsRow wr.heap.size 5 1 (.slice (some ⟨wr.heap.size, 0, none⟩) 1 1) 1 [.int .u8 49] := ⟨rfl, .inr ⟨wr.heap.size, 1, #[.int .u8 49], rfl, Nat.le_refl _, heap_alloc_new wr _, Nat.le_refl _, by decide, rfl, rfl⟩⟩
      have hone : ∀ u ∈ List.replicate l.length (Value.int .u8 48), u.oneCell' = true := fun u hu => by rw [List.eq_of_mem_replicate hu]; rfl
      have Hone := Lib.hid hone; clear hone
      obtain ⟨i0, hi0, hz0, hz1, hz2⟩ := info_parts u8Info
      have Hn := Lib.hid hnews; clear hnews
      have Ho := Lib.hid hown; clear hown
      have H0 := Lib.hid hL0; clear hL0
      have HR0 := Lib.hid hR0; clear hR0
      clear hL
      go_wp2_with (at_builtin; refine wpList_append_lies _ rfl _ _ 73 rfl wr.heap.size 5 i0 (.int .u8 0) 1 1 Tryz.underlying73 hi0 hz0 hz1 hz2 rfl (by decide) _ _ _ rfl Ho.out ⟨g, 0, none⟩ l.length cap (List.replicate l.length (Value.int .u8 48)) rfl (by simp) Hn.out Hone.out (by omega) (by unfold maxLen; omega) (by omega) (by simp) (wr.heap.size + 1) (by simp) ?_; intro g2 cap2 w1 hown2 hgrow hat hlt)
      go_ret
      have hRl : R.length = 1 + l.length := by rw [HR0.out]; simp; omega
      refine ⟨g2, cap2, ?_, ?_, hlt, ?_⟩
      · rw [hRl]; simp
      · rw [HR0.out]
        have := Lies.of_own (l := 49 :: List.replicate l.length 48) hown2 (by simp)
        exact this
      · exact (hb.alloc (by omega) _).grown hgrow (by simp; omega) (fun k hk => by have e : wr.heap.size = k := Option.some.inj (show some wr.heap.size = some k from hk); omega)
    | succ m =>
      obtain rfl : z = (m : Int) := by omega
      have hml : m < l.length := by omega
      obtain ⟨c, hc⟩ : ∃ c, l[m]? = some c := ⟨_, List.getElem?_eq_getElem hml⟩
      have htk : l.take (m + 1) = l.take m ++ [c] := by rw [List.take_add_one, hc]; rfl
      have hMl : (l.take (m + 1) ++ List.replicate (l.length - (m + 1)) 48).length = l.length := by simp; omega
      have hMm : (l.take (m + 1) ++ List.replicate (l.length - (m + 1)) 48)[m]? = some c := by
        rw [List.getElem?_append_left (by rw [List.length_take]; omega), List.getElem?_take_of_lt (by omega), hc]
      have hcm := hL.cell m c hMm
      have hfm := hL.free m (by rw [hMl]; exact hml)
      have hset : ∀ x : UInt8, (l.take (m + 1) ++ List.replicate (l.length - (m + 1)) 48).set m x = l.take m ++ x :: List.replicate (l.length - (m + 1)) 48 := fun x => by
        rw [htk, List.append_assoc, List.set_append_right _ _ (by rw [List.length_take]; omega), List.length_take, Nat.min_eq_left (by omega), Nat.sub_self]
        rfl
      have hLs : ∀ x : UInt8, Lies g (l.take m ++ x :: List.replicate (l.length - (m + 1)) 48) (wr.setCell ⟨g, m, none⟩ (.int .u8 x.toNat)) := fun x => by
        have := hL.set m (by rw [hMl]; exact hml) x
        rw [hset] at this
        exact this
      have hmz : (m : Int) < (l.length : Int) := by omega
      have hc0 : (0 : Int) ≤ (c.toNat : Int) := by omega
      have Hs := Lib.hid hLs; clear hLs hset hL
      have Hc := Lib.hid hc; clear hc
      have Htk := Lib.hid htk; clear htk
      clear hMl hMm
      by_cases h57 : c.toNat < 57
      · have h57z : (c.toNat : Int) < 57 := by omega
        obtain ⟨f, rfl⟩ : ∃ f, gk = f + 1 := ⟨gk - 1, by omega⟩
        go_wp2
        go_ret
        have hRe : R = l.take m ++ (c.toNat + 1).toUInt8 :: List.replicate (l.length - (m + 1)) 48 := by
          rw [← Hr.out, Htk.out, incL_stop _ _ h57]; simp
        have hRl : R.length = l.length := by rw [hRe]; simp; omega
        have hcn : ((c.toNat + 1).toUInt8.toNat : Int) = (c.toNat : Int) + 1 := by simp [Nat.toUInt8]; omega
        refine ⟨g, cap, ?_, ?_, ?_, ?_⟩
        · show Ending.returned (Value.slice (some ⟨g, 0, none⟩) ↑l.length cap) = _
          rw [hRl]
        · rw [hRe]
          have := Hs.out (c.toNat + 1).toUInt8
          rw [hcn] at this
          exact this
        · simpa using (by omega : g < wr.heap.size)
        · exact hb.setCell (Nat.le_refl _) _
      · have h57z : ¬ (c.toNat : Int) < 57 := by omega
        obtain ⟨f, rfl⟩ : ∃ f, gk = f + 1 := ⟨gk - 1, by omega⟩
        go_wp2
        go_roundg f
        case measure => omega
        case rel =>
          refine ⟨m, (m : Int) - 1, rfl, by omega, by omega, ?_, hb.setCell (Nat.le_refl _) _, ?_, by omega⟩
          · have := Hs.out 48
            rw [show l.length - m = (l.length - (m + 1)) + 1 by omega, List.replicate_succ]
            exact this
          · rw [← Hr.out, Htk.out, incL_step _ _ _ (by omega)]
            rw [show l.length - m = (l.length - (m + 1)) + 1 by omega]
structure RG (w : World) (n : Bool) (W : World) : Prop where
  c0 : W.cell? ⟨w.heap.size, 0, none⟩ = some (.bool n)
  e0 : W.cell? ⟨w.heap.size + 1, 0, none⟩ = some (.bool false)
  e1 : W.cell? ⟨w.heap.size + 1, 1, none⟩ = some (.string ⟨#[]⟩)
  e2 : W.cell? ⟨w.heap.size + 1, 2, none⟩ = some (.int .i64 0)
  fr : ∀ j, W.frozen? ⟨w.heap.size + 1, j, none⟩ = false
  sz : w.heap.size + 1 + 1 < W.heap.size
  bel : Below w.heap.size w W
theorem RG.step {w W W' : World} {n : Bool} (h : RG w n W) (b : Below (w.heap.size + 1 + 1) W W') : RG w n W' where
  c0 := (b.cell (p := ⟨w.heap.size, 0, none⟩) (by show w.heap.size < _; omega)).trans h.c0
  e0 := (b.cell (p := ⟨w.heap.size + 1, 0, none⟩) (by show w.heap.size + 1 < _; omega)).trans h.e0
  e1 := (b.cell (p := ⟨w.heap.size + 1, 1, none⟩) (by show w.heap.size + 1 < _; omega)).trans h.e1
  e2 := (b.cell (p := ⟨w.heap.size + 1, 2, none⟩) (by show w.heap.size + 1 < _; omega)).trans h.e2
  fr := fun j => (b.frozen (p := ⟨w.heap.size + 1, j, none⟩) (by show w.heap.size + 1 < _; omega)).trans (h.fr j)
  sz := Nat.lt_of_lt_of_le h.sz b.size
  bel := h.bel.trans (b.mono (by omega))
attribute [local go_sem] max2_int max_two
set_option maxRecDepth 100000 in
set_option maxHeartbeats 4000000 in
theorem round_more (n : Bool) (d : ByteArray) (k sc ct : Nat) (s : Int) (w : World) (hsc : (if s < 0 then (0 : Int) else s) = (sc : Int)) (hk : k < d.size) (hks : sc < k) (hct : ct + 1 + (k - sc) = d.size) (hd : ∀ c ∈ d.data.toList, 48 ≤ c.toNat ∧ c.toNat ≤ 57) (hs : d.size ≤ 1000)
    (x : UInt8) (hx : d.data.toList[ct]? = some x) (C : Int) (hC : C = -1 ∨ C = 0 ∨ C = 1) (O : Bool)
    (hcC : ∀ W, Calls Tryz.prog 26 #[.string (d.extract (ct + 1) d.size), .string ((⟨#[53]⟩ : ByteArray) ++ ⟨(Lib.repeatL [48] (k - sc - 1)).toArray⟩)] W fun e w' => e = .returned (.int .i64 C) ∧ W = w')
    (hO : (((x.toNat : Int) - 48) % 2 == 1) = O)
    (r1 : Bool) (r2 : ByteArray) (r3 : Int) (hm : U.dec_make0.f n ⟨(if C > 0 ∨ C = 0 ∧ O = true then incL (d.data.toList.take (ct + 1)) else d.data.toList.take (ct + 1)).toArray⟩ sc = some (r1, r2, r3)) :
    Calls Tryz.prog 13 #[decV n d k, .int .i64 s] w fun e w' => e = .returned (.agg #[.bool r1, .string r2, .int .i64 r3]) ∧ Below w.heap.size w w' := by
  unfold decV
  obtain ⟨X, hX⟩ : ∃ X, (w.alloc (.cells #[.bool n, .string d, .int .i64 k] 29)).alloc (.cells #[.bool false, .string ⟨#[]⟩, .int .i64 0] 29) = X := ⟨_, rfl⟩
  have hXs : X.heap.size = w.heap.size + 1 + 1 := by rw [← hX]; simp
  have hXd : X.drew.heap.size = w.heap.size + 1 + 1 := by simpa using hXs
  have bX : Below w.heap.size w X := by rw [← hX]; exact ((Below.refl _ _).alloc (Nat.le_refl _) _).alloc (by simp) _
  have c0 : X.cell? ⟨w.heap.size, 0, none⟩ = some (.bool n) := by rw [← hX]; simp [go_sem]
  have c1 : X.cell? ⟨w.heap.size, 1, none⟩ = some (.string d) := by rw [← hX]; simp [go_sem]
  have c2 : X.cell? ⟨w.heap.size, 2, none⟩ = some (.int .i64 k) := by rw [← hX]; simp [go_sem]
  have d0 : X.cell? ⟨w.heap.size + 1, 0, none⟩ = some (.bool false) := by rw [← hX]; simp [go_sem]
  have d1 : X.cell? ⟨w.heap.size + 1, 1, none⟩ = some (.string ⟨#[]⟩) := by rw [← hX]; simp [go_sem]
  have d2 : X.cell? ⟨w.heap.size + 1, 2, none⟩ = some (.int .i64 0) := by rw [← hX]; simp [go_sem]
  have f0 : ∀ j, X.frozen? ⟨w.heap.size + 1, j, none⟩ = false := fun j => by
    rw [← hX]
    have hh := heap_alloc_new (w.alloc (.cells #[.bool n, .string d, .int .i64 k] 29)) (.cells #[.bool false, .string ⟨#[]⟩, .int .i64 0] 29)
    rw [show (w.alloc (.cells #[.bool n, .string d, .int .i64 k] 29)).heap.size = w.heap.size + 1 by simp] at hh
    exact Lib.frozen_of_heap hh j
  obtain ⟨W2, hW2⟩ : ∃ W2, Lib.bytesWorld X.drew 5 (d.extract 0 (ct + 1)) = W2 := ⟨_, rfl⟩
  have b2 : Below X.heap.size X W2 := by
    rw [← hW2]
    exact ⟨rfl, rfl, rfl, by rw [Lib.bytesWorld_size]; simp, fun i hi => (Lib.bytesWorld_at_old _ _ _ _ (by simpa using hi)).trans rfl⟩
  have hsz : (d.extract 0 (ct + 1)).size = ct + 1 := by simp; omega
  have hdl : (d.extract 0 (ct + 1)).data.toList = d.data.toList.take (ct + 1) := by rw [Lib.extract_data]; simp
  have hL2 : Lies (w.heap.size + 1 + 1) (d.data.toList.take (ct + 1)) W2 := by
    refine ⟨fun j c hj => ?_, fun j hj => ?_⟩
    · rw [← hW2, ← hXd]
      have hlt : j < ct + 1 := by
        have := (List.getElem?_eq_some_iff.1 hj).1
        rw [List.length_take] at this
        omega
      rw [Lib.bytesWorld_cell _ _ _ _ (by rw [hsz]; exact hlt), hdl, List.getD_eq_getElem?_getD, hj]
      rfl
    · rw [← hW2, ← hXd]
      have hlt : j < ct + 1 := by rw [List.length_take] at hj; omega
      have hbs : j < (Lib.bytesCells X.drew 5 (d.extract 0 (ct + 1))).size := by
        simp [Lib.bytesCells]; omega
      simp only [World.frozen?, Lib.bytesWorld_at_new]
      simp; omega
  have hs2 : w.heap.size + 1 + 1 < W2.heap.size := by rw [← hW2, Lib.bytesWorld_size, hXd]; omega
  have cc := fun (a : Addr) (v : Value) (h : X.cell? a = some v) => (b2.cell (p := a) (World.block_lt_of_cell? _ _ h)).trans h
  have hR2 : RG w n W2 := ⟨cc _ _ c0, cc _ _ d0, cc _ _ d1, cc _ _ d2, fun j => (b2.frozen (p := ⟨w.heap.size + 1, j, none⟩) (by show w.heap.size + 1 < X.heap.size; omega)).trans (f0 j), hs2, bX.trans (b2.mono (by omega))⟩
  obtain ⟨CP, hCP⟩ : ∃ CP, grownCap X.drew (d.extract 0 (ct + 1)).size 0 5 = CP := ⟨_, rfl⟩
  have hk1 : (convert 9 73 (.string (d.extract 0 (ct + 1)))).run Tryz.prog X.drew = .ok (.slice (some ⟨w.heap.size + 1 + 1, 0, none⟩) ((ct + 1 : Nat)) CP) W2 := by
    rw [Lib.run_convert_string_bytes (P := Tryz.prog) X.drew 9 73 5 _ Tryz.underlying9 Tryz.underlying73 Tryz.underlying5, hW2, hXd, hCP, hsz]
  have hw1 : W2.cell? ⟨w.heap.size, 1, none⟩ = some (.string d) := cc _ _ c1
  have hcut : (d.size : Int) - ((k : Int) - sc) = (ct : Int) + 1 := by omega
  have hz0 : (0 : Int) ≤ (ct : Int) + 1 := by omega
  have hz1 : (ct : Int) + 1 ≤ (d.size : Int) := by omega
  have hle : (sc : Int) < (k : Int) := by omega
  have hxr := hd x (List.mem_of_getElem? hx)
  have hx0 : (48 : Int) ≤ (x.toNat : Int) := by omega
  have hx9 : (x.toNat : Int) ≤ 57 := by omega
  have hxt : (d.data.toList.take (ct + 1))[ct]? = some x := by rw [List.getElem?_take_of_lt (by omega), hx]
  have hll : (d.data.toList.take (ct + 1)).length = ct + 1 := by
    have := Lib.size_eq d
    rw [List.length_take]; omega
  have cR : ∀ (m : Int) (W : World), 0 ≤ m → m ≤ 1000 → Calls Tryz.prog 25 #[.string ⟨#[48]⟩, .int .i64 m] W fun e w' => e = .returned (.string ⟨(Lib.repeatL [48] m.toNat).toArray⟩) ∧ Below W.heap.size W w' := fun m W h0 h1 => by
    have := Tryz.strings_Repeat ⟨#[48]⟩ m.toNat W (by omega) (by show 1 * m.toNat ≤ _; omega)
    rw [Int.toNat_of_nonneg h0] at this
    exact this
  have cR1 := fun (W : World) => cR (((d.size - (ct + 1) : Nat) : Int) - 1) W (by omega) (by omega)
  rw [show ((((d.size - (ct + 1) : Nat) : Int) - 1)).toNat = k - sc - 1 by omega] at cR1
  clear cR
  obtain ⟨rz, hrz⟩ : ∃ rz : ByteArray, (⟨(Lib.repeatL [48] (k - sc - 1)).toArray⟩ : ByteArray) = rz := ⟨_, rfl⟩
  have hrzs : rz.size ≤ 1000 := by rw [← hrz, Lib.size_eq, Lib.repeatL_length]; show (k - sc - 1) * 1 ≤ 1000; omega
  rw [hrz] at hcC cR1
  clear hrz
  have cU := fun (W : World) h1 h2 => up_any (d.data.toList.take (ct + 1)) (w.heap.size + 1 + 1) CP W (by rw [hll]; omega) (by rw [hll]; omega) h1 h2
  rw [hll] at cU
  have cK := fun (W : World) (h : Lies (w.heap.size + 1 + 1) (d.data.toList.take (ct + 1)) W) => h.str CP
  rw [hll] at cK
  clear hll
  have Hxt := Lib.hid hxt; clear hxt hx hxr
  have HR2 := Lib.hid hR2; clear hR2
  have HL2 := Lib.hid hL2; clear hL2
  have Hm := Lib.hid hm; clear hm
  have Hd := Lib.hid hd; clear hd
  clear cc hs2 b2 hXs hXd bX c0 d0 d1 d2 f0 hsz hdl hCP
  have HW := Lib.hid hW2; clear hW2
  have CK := Lib.hid cK; clear cK
  rcases hC with rfl | rfl | rfl
  rotate_left
  rcases O with _ | _
  rotate_left
  all_goals
    have hm2 := Hm.out
    first | rw [if_pos (by decide)] at hm2 | rw [if_pos (Or.inl (by decide))] at hm2 | rw [if_neg (by decide)] at hm2 | rw [if_neg (fun h => Or.elim h (fun h => absurd h (by decide)) (fun h => absurd h.1 (by decide)))] at hm2
    have cMM := fun W => U.dec_make0.calls n _ sc r1 r2 r3 W hm2
    clear hm2 Hm
    go_enter Tryz.func13, Tryz.ntmps13
    go_wp2
    go_region_with (fail)
    all_goals
      go_wp2_with (first
        | (go_at_call 25; ((with_reducible refine (cR1 _).mono ?_); rintro e W3 ⟨rfl, b3⟩; have h3 := HR2.out.step (b3.mono (Nat.le_of_lt HR2.out.sz)); have L3 := HL2.out.below b3 HR2.out.sz; have q3 := L3.cell ct x Hxt.out; have hk3 := CK.out _ L3; have g0 := h3.c0; have g1 := h3.e0; have g2 := h3.e1; have g3 := h3.e2; have g4 := h3.fr 0; have g5 := h3.fr 1; have g6 := h3.fr 2; have K3 := Lib.hid L3; clear L3; have G3 := Lib.hid h3; clear h3))
        | (go_at_call 26; ((with_reducible refine (hcC _).mono ?_); rintro e W4 ⟨rfl, rfl⟩))
        | (go_at_call 27; ((with_reducible refine (cU _ K3.out G3.out.sz).mono ?_); rintro e W5 ⟨g', cap', rfl, L5, hg5, b5⟩; have h5 := G3.out.step b5; have hk5 := L5.str cap'; have q0 := h5.c0; clear L5; have G5 := Lib.hid h5; clear h5))
        | (go_at_call 28; ((with_reducible refine (cMM _).mono ?_); rintro e W6 ⟨rfl, b6⟩; (first | have h6 := G5.out.step (b6.mono (Nat.le_of_lt G5.out.sz)) | have h6 := G3.out.step (b6.mono (Nat.le_of_lt G3.out.sz))); have p1 := h6.e0; have p2 := h6.e1; have p3 := h6.e2; have p4 := h6.fr 0; have p5 := h6.fr 1; have p6 := h6.fr 2; have b7 := h6.bel; have G6 := Lib.hid h6; clear h6)))
      have y0 := World.cell?_setCell_same W6 ⟨w.heap.size + 1, 0, none⟩ (.bool r1) p1
      have z1 := (World.cell?_setCell_other W6 ⟨w.heap.size + 1, 0, none⟩ ⟨w.heap.size + 1, 1, none⟩ (.bool r1) (by simp)).trans p2
      have y1 := World.cell?_setCell_same (W6.setCell ⟨w.heap.size + 1, 0, none⟩ (.bool r1)) ⟨w.heap.size + 1, 1, none⟩ (.string r2) z1
      have z2 := (World.cell?_setCell_other (W6.setCell ⟨w.heap.size + 1, 0, none⟩ (.bool r1)) ⟨w.heap.size + 1, 1, none⟩ ⟨w.heap.size + 1, 2, none⟩ (.string r2) (by simp)).trans ((World.cell?_setCell_other W6 ⟨w.heap.size + 1, 0, none⟩ ⟨w.heap.size + 1, 2, none⟩ (.bool r1) (by simp)).trans p3)
      have y2 := World.cell?_setCell_same ((W6.setCell ⟨w.heap.size + 1, 0, none⟩ (.bool r1)).setCell ⟨w.heap.size + 1, 1, none⟩ (.string r2)) ⟨w.heap.size + 1, 2, none⟩ (.int .i64 r3) z2
      refine bodyPost_ret (v := .agg #[.bool r1, .string r2, .int .i64 r3]) (by simp [results, Tryz.results13, go_sem, y0, y1, y2]) rfl ?_
      exact ⟨rfl, ((b7.setCell (by simp) _).setCell (by simp) _).setCell (by simp) _⟩
end Go.Proofs.YtajgnkncdkibeaaGreatDoor
namespace Go.Proofs.YtajgnkncdkibeaaGreatDoor.G
open Go.RowKit Go.Proofs.YtajgnkncdkibeaaGreatDoor Go.Proofs.YtajgnkncdkibeaaGreatDoorW.PrintWords Go.Proofs.YtajgnkncdkibeaaGreatDoorW.PrintMore
set_option linter.unusedVariables false
set_option linter.unusedSimpArgs false
attribute [local go_sem] max2_int max_two
set_option maxRecDepth 100000 in
theorem round_same (n : Bool) (d : ByteArray) (k : Int) (sc : Int) (s : Int) (w : World) (hsc : (if s < 0 then (0 : Int) else s) = sc) (hks : k ≤ sc) :
    Calls Tryz.prog 13 #[decV n d k, .int .i64 s] w fun e w' => e = .returned (decV n d k) ∧ Below w.heap.size w w' := by
  unfold decV
  have bX : Below w.heap.size w ((w.alloc (.cells #[.bool n, .string d, .int .i64 k] 29)).alloc (.cells #[.bool false, .string ⟨#[]⟩, .int .i64 0] 29)) := ((Below.refl _ _).alloc (Nat.le_refl _) _).alloc (by simp) _
  go_enter Tryz.func13, Tryz.ntmps13
  go_wp2
  go_returns
  exact ⟨rfl, ((Below.refl _ _).alloc (Nat.le_refl _) _).alloc (by simp) _⟩
def digB (d : ByteArray) : Bool := d.data.toList.all fun c => decide (48 ≤ c.toNat) && decide (c.toNat ≤ 57)
theorem digB_at {d : ByteArray} (h : digB d = true) : ∀ c ∈ d.data.toList, 48 ≤ c.toNat ∧ c.toNat ≤ 57 := fun c hc => by
  have := List.all_eq_true.1 h c hc
  simpa using this
def roundL (D : List UInt8) (k sc : Nat) : List UInt8 :=
  if cmpS (D.drop (D.length - (k - sc))) (53 :: List.replicate (k - sc - 1) 48) > 0 ∨ cmpS (D.drop (D.length - (k - sc))) (53 :: List.replicate (k - sc - 1) 48) = 0 ∧ ((D.getD (D.length - (k - sc) - 1) 0).toNat - 48) % 2 = 1
  then incL (D.take (D.length - (k - sc))) else D.take (D.length - (k - sc))
def rndOk (a1 : ByteArray) (a2 : Int) : Bool := decide (0 ≤ a2) && decide (a2 < a1.size) && decide (a1.size ≤ 1000) && digB a1
def dec_Dec_Round.f (a0 : Bool) (a1 : ByteArray) (a2 a3 : Int) : Option (Bool × ByteArray × Int) :=
  if rndOk a1 a2 = true then (if a2 ≤ (if a3 < 0 then (0 : Int) else a3) then some (a0, a1, a2)
    else U.dec_make0.f a0 ⟨(roundL a1.data.toList a2.toNat (if a3 < 0 then (0 : Int) else a3).toNat).toArray⟩ (if a3 < 0 then (0 : Int) else a3)) else none
theorem if_iff {α : Type} {p q : Prop} [Decidable p] [Decidable q] (h : p ↔ q) {a b : α} : (if p then a else b) = if q then a else b := by
  by_cases hp : p
  · rw [if_pos hp, if_pos (h.1 hp)]
  · rw [if_neg hp, if_neg (fun hq => hp (h.2 hq))]
theorem cmpS_or (a b : List UInt8) : cmpS a b = -1 ∨ cmpS a b = 0 ∨ cmpS a b = 1 := by
  unfold cmpS
  split
  · exact Or.inl rfl
  · split
    · exact Or.inr (Or.inl rfl)
    · exact Or.inr (Or.inr rfl)
theorem repeatL_one (c : UInt8) : ∀ m, Lib.repeatL [c] m = List.replicate m c
  | 0 => rfl
  | m + 1 => by
    show [c] ++ Lib.repeatL [c] m = _
    rw [repeatL_one c m, List.replicate_succ]
    rfl
theorem dec_Dec_Round.calls (a0 : Bool) (a1 : ByteArray) (a2 a3 : Int) (r1 : Bool) (r2 : ByteArray) (r3 : Int) (w : World) (h : dec_Dec_Round.f a0 a1 a2 a3 = some (r1, r2, r3)) :
    Calls Tryz.prog 13 #[.agg #[.bool a0, .string a1, .int .i64 a2], .int .i64 a3] w fun e w' => e = .returned (.agg #[.bool r1, .string r2, .int .i64 r3]) ∧ Below w.heap.size w w' := by
  unfold dec_Dec_Round.f at h
  by_cases hok : rndOk a1 a2 = true
  · rw [if_pos hok] at h
    obtain ⟨⟨⟨h0, h1⟩, h2⟩, hd⟩ : ((0 ≤ a2 ∧ a2 < a1.size) ∧ a1.size ≤ 1000) ∧ digB a1 = true := by simpa [rndOk] using hok
    obtain ⟨s, hs⟩ : ∃ s, (if a3 < 0 then (0 : Int) else a3) = s := ⟨_, rfl⟩
    have hs0 : 0 ≤ s := by rw [← hs]; split <;> omega
    rw [hs] at h
    by_cases hk : a2 ≤ s
    · rw [if_pos hk] at h
      obtain ⟨rfl, g⟩ := Prod.mk.inj (Option.some.inj h)
      obtain ⟨rfl, rfl⟩ := Prod.mk.inj g
      exact round_same a0 a1 a2 s a3 w hs hk
    · rw [if_neg hk] at h
      obtain ⟨k, rfl⟩ := Int.eq_ofNat_of_zero_le h0
      obtain ⟨sc, rfl⟩ := Int.eq_ofNat_of_zero_le hs0
      rw [Int.toNat_natCast, Int.toNat_natCast] at h
      have hD := digB_at hd
      have hl : a1.data.toList.length = a1.size := (Lib.size_eq a1).symm
      obtain ⟨ct, hct⟩ : ∃ ct, ct + 1 + (k - sc) = a1.size := ⟨a1.size - (k - sc) - 1, by omega⟩
      obtain ⟨x, hx⟩ : ∃ x, a1.data.toList[ct]? = some x := ⟨_, List.getElem?_eq_getElem (by omega)⟩
      have e1 : (a1.extract (ct + 1) a1.size).toList = a1.data.toList.drop (ct + 1) := by rw [Lib.toList_data, Lib.extract_to_end]
      have e2 : ((⟨#[53]⟩ : ByteArray) ++ ⟨(Lib.repeatL [48] (k - sc - 1)).toArray⟩).toList = 53 :: List.replicate (k - sc - 1) 48 := by
        rw [Lib.toList_data, ByteArray.data_append, Array.toList_append, repeatL_one]
        rfl
      have hcut : a1.data.toList.length - (k - sc) = ct + 1 := by omega
      refine round_more a0 a1 k sc ct a3 w hs (by omega) (by omega) hct hD h2 x hx (cmpS (a1.data.toList.drop (ct + 1)) (53 :: List.replicate (k - sc - 1) 48)) (cmpS_or _ _) ((((x.toNat : Int) - 48) % 2 == 1)) ?_ rfl r1 r2 r3 ?_
      · intro W
        have := cmp_str (a1.extract (ct + 1) a1.size) ((⟨#[53]⟩ : ByteArray) ++ ⟨(Lib.repeatL [48] (k - sc - 1)).toArray⟩) W
        rw [e1, e2] at this
        exact this
      · unfold roundL at h
        rw [hcut, show ct + 1 - 1 = ct by omega, List.getD_eq_getElem?_getD, hx, Option.getD_some] at h
        have hxr := hD x (List.mem_of_getElem? hx)
        have e3 : ((((x.toNat : Int) - 48) % 2 == 1) = true) = ((x.toNat - 48) % 2 = 1) := by
          rw [beq_iff_eq, eq_iff_iff]; omega
        rw [if_iff (or_congr Iff.rfl (and_congr Iff.rfl (iff_of_eq e3)))]
        exact h
  · rw [if_neg hok] at h
    exact absurd h (by simp)
end Go.Proofs.YtajgnkncdkibeaaGreatDoor.G
namespace Go.Proofs.YtajgnkncdkibeaaGreatDoor
open Go.RowKit Go.Proofs.YtajgnkncdkibeaaGreatDoor.M
set_option linter.unusedVariables false
set_option linter.unusedSimpArgs false
theorem below_grown {w W W1 : World} {B b : Nat} (h : Below B w W) (hg : W.grownBy W1 (some b)) (hB : B ≤ b) (hw : B ≤ w.heap.size) : Below B w W1 :=
  ⟨hg.os.trans h.os, hg.tape.trans h.tape, hg.output.trans h.output, Nat.le_trans h.size hg.size, fun j hj => (hg.block j (Nat.lt_of_lt_of_le hj (Nat.le_trans hw h.size)) (fun e => by cases e; omega)).trans (h.block j hj)⟩
set_option maxRecDepth 100000 in
theorem default_any (w : World) : Calls Tryz.prog 7 #[] w fun e w' => e = .returned (optV 1 0 3 false false) ∧ Below w.heap.size w w' := by
  unfold optV
  have b1 := (Below.refl w.heap.size w).alloc (Nat.le_refl _) (.cells #[.int .i64 1, .int .i64 0, .int .i64 3, .bool false, .bool false] 26)
  go_enter Tryz.func7, Tryz.ntmps7
  go_wp2
  go_returns
  exact ⟨rfl, (Below.refl w.heap.size w).alloc (Nat.le_refl _) _⟩
def d5 : ByteArray := ⟨#[49, 50, 51, 52, 53]⟩
structure Hd (w : World) (cnt : Int) (W : World) : Prop where
  mks : Mks w.heap.size cnt W
  blk : W.heap[w.heap.size + 1]? = some (.cells #[.bool false, .string d5, .int .i64 1] 29 (0, 0))
  bel : Below w.heap.size w W
theorem Hd.step {w W W1 : World} {cnt : Int} (h : Hd w cnt W) (c : Below W.heap.size W W1) : Hd w cnt W1 := ⟨h.mks.step c, below_blockOf c (Nat.le_refl _) h.blk, below_on h.bel c h.bel.size⟩
theorem Hd.drew {w W : World} {cnt : Int} (h : Hd w cnt W) : Hd w cnt W.drew := h.step ((Below.refl _ _).drew)
theorem Hd.of {w W W1 : World} {cnt c1 : Int} (h : Hd w cnt W) (hm : Mks w.heap.size c1 W1) (hg : W.grownBy W1 (some w.heap.size)) : Hd w c1 W1 :=
  ⟨hm, (hg.block _ (Array.getElem?_eq_some_iff.1 h.blk).1 (fun e => by have := Option.some.inj e; omega)).trans h.blk, below_grown h.bel hg (Nat.le_refl _) (Nat.le_refl _)⟩
theorem Hd.get {w W : World} {cnt : Int} (h : Hd w cnt W) : W.cell? ⟨w.heap.size + 1, 0, none⟩ = some (.bool false) ∧ W.cell? ⟨w.heap.size + 1, 1, none⟩ = some (.string d5) ∧ W.cell? ⟨w.heap.size + 1, 2, none⟩ = some (.int .i64 1) :=
  ⟨(Lib.cell_of_heap h.blk 0).trans rfl, (Lib.cell_of_heap h.blk 1).trans rfl, (Lib.cell_of_heap h.blk 2).trans rfl⟩
theorem Hd.lt {w W : World} {cnt : Int} (h : Hd w cnt W) : w.heap.size < W.heap.size := by
  have := (Array.getElem?_eq_some_iff.1 h.blk).1
  omega
theorem shape5 (W : World) : Calls Tryz.prog 12 #[optV 1 0 3 false false, decV false d5 1] W fun e w' => e = .returned (decV false (shD 1 0 d5 1) (shK 0 d5 1)) ∧ Below W.heap.size W w' :=
  shape_any 1 0 3 false false false d5 1 d5 1 (fun W => G.dec_Dec_Round.calls false d5 1 3 false d5 1 W (by kernel_rfl)) (by decide) (by decide) (by omega) (by omega) W
theorem head_en {w W : World} (h : Hd w 0 W) : Calls Tryz.prog 16 #[.pointer (some ⟨w.heap.size, 0, none⟩), .string ⟨#[101, 110]⟩, decV false d5 1, optV 1 0 3 false false] W fun e w' => e = .returned (.string ⟨#[49, 44, 50, 51, 52, 46, 53]⟩) ∧ Hd w 1 w' :=
  (format_any w.heap.size 0 (by omega) (by omega) ⟨#[101, 110]⟩ 1 0 3 false false false d5 1 (shD 1 0 d5 1) (shK 0 d5 1) (of_decide_eq_true (by kernel_rfl)) (of_decide_eq_true (by kernel_rfl)) shape5 W h.mks h.lt).mono fun e w' ⟨he, hm, hg⟩ => ⟨by rw [he]; exact congrArg (fun x => Ending.returned (.string x)) (by kernel_rfl), h.of hm hg⟩
theorem head_de {w W : World} (h : Hd w 1 W) : Calls Tryz.prog 16 #[.pointer (some ⟨w.heap.size, 0, none⟩), .string ⟨#[100, 101]⟩, decV false d5 1, optV 1 0 3 false false] W fun e w' => e = .returned (.string ⟨#[49, 46, 50, 51, 52, 44, 53]⟩) ∧ Hd w 2 w' :=
  (format_any w.heap.size 1 (by omega) (by omega) ⟨#[100, 101]⟩ 1 0 3 false false false d5 1 (shD 1 0 d5 1) (shK 0 d5 1) (of_decide_eq_true (by kernel_rfl)) (of_decide_eq_true (by kernel_rfl)) shape5 W h.mks h.lt).mono fun e w' ⟨he, hm, hg⟩ => ⟨by rw [he]; exact congrArg (fun x => Ending.returned (.string x)) (by kernel_rfl), h.of hm hg⟩
end Go.Proofs.YtajgnkncdkibeaaGreatDoor
namespace Go.Proofs.YtajgnkncdkibeaaGreatDoor
open Go.RowKit Go.Proofs.YtajgnkncdkibeaaGreatDoor.M Go.Proofs.YtajgnkncdkibeaaGreatDoorW.PrintWords Go.Proofs.YtajgnkncdkibeaaGreatDoorW.PrintLast
set_option linter.unusedVariables false
set_option linter.unusedSimpArgs false
def head12_end.T : Bool × List (List Nat × List Nat) := (true, [([], []), ([], []), ([], []), ([0, 1, 2, 2], [0, 1, 2]), ([3], [3]), ([4, 3], [4]), ([5], [5]), ([5], [5]), ([5, 5], [5]), ([6, 7, 8, 8, 5], [5, 6, 7, 8]), ([9, 5], [5, 9]), ([5, 10], [5, 10]), ([11, 9], [11]), ([12], [12]), ([13, 12, 12], [12, 13]), ([14, 12], [12, 14]), ([12, 15], [12, 15]), ([16, 14, 0, 1, 2, 3, 4, 5, 6, 7, 8, 9, 10, 11, 12, 13, 14, 15, 16], [16])])
def head12_end.B : List Nat := [0, 0, 0, 7, 15, 31, 63, 63, 63, 511, 1023, 2047, 4095, 8191, 16383, 32767, 65535, 131071]
theorem head12_end.tab : rtab .any (opsOf Tryz.f5 3) = head12_end.T := by kernel_rfl
theorem head12_end.bits : waitsOk head12_end.T.2 head12_end.B = true := by kernel_rfl
set_option maxRecDepth 100000 in
set_option maxHeartbeats 4000000 in
theorem head12_end (w0 : World) (a0 : Act) (s1 : a0.tmps[1]? = some (.pointer (some ⟨w0.heap.size, 0, none⟩))) (s2 : a0.tmps[2]? = some (.pointer (some ⟨w0.heap.size + 1, 0, none⟩))) (hsz : a0.tmps.size = Tryz.f5.ntmps) (W : World) (hI : Hd w0 (if (fun _ => false) 9 = true then 2 else if (fun _ => false) 3 = true then 1 else 0) W.drew) (Q : Exit → Act → World → Prop) (hend : ∀ (a9 : Act) w', Hd w0 (if (fun _ => true) 9 = true then 2 else if (fun _ => true) 3 = true then 1 else 0) w' → a9 = putSel a0 (fun _ => true) [(0, 6, .pointer (some ⟨w0.heap.size, 0, none⟩)), (1, 7, .agg #[.bool false, .string d5, .int .i64 1]), (2, 8, .agg #[.int .i64 1, .int .i64 0, .int .i64 3, .bool false, .bool false]), (3, 9, .string ⟨#[49, 44, 50, 51, 52, 46, 53]⟩), (4, 10, .bool true), (5, 11, .bool true), (6, 12, .pointer (some ⟨w0.heap.size, 0, none⟩)), (7, 13, .agg #[.bool false, .string d5, .int .i64 1]), (8, 14, .agg #[.int .i64 1, .int .i64 0, .int .i64 3, .bool false, .bool false]), (9, 15, .string ⟨#[49, 46, 50, 51, 52, 44, 53]⟩), (10, 16, .bool true), (11, 17, .bool true), (12, 18, .bool true), (13, 19, .pointer (some ⟨w0.heap.size, 0, none⟩)), (14, 20, .int .i64 2), (15, 21, .bool true), (16, 22, .bool true), (17, 0, .bool true)] → a9.defers = a0.defers → a9.tmps[0]? = some (.bool true) → Q .normal a9 w') :
    (Code.region 3 #[{ dst := some 6, op := Op.move (Operand.tmp 1), type := 44, pos := "law.go:15", after := #[], guard := none }, { dst := some 7, op := Op.load 29 (Operand.tmp 2), type := 29, pos := "law.go:15", after := #[], guard := none }, { dst := some 8, op := Op.call { callee := Callee.value (Operand.func 7), args := #[], argTypes := #[] }, type := 26, pos := "law.go:15", after := #[], guard := none }, { dst := some 9, op := Op.call { callee := Callee.value (Operand.func 16), args := #[Operand.tmp 6, Operand.const (Value.string { data := #[101, 110] }), Operand.tmp 7, Operand.tmp 8], argTypes := #[44, 9, 29, 26] }, type := 9, pos := "law.go:15", after := #[{ on := 0, ground := Ground.data }, { on := 1, ground := Ground.data }, { on := 2, ground := Ground.data }, { on := 2, ground := Ground.chain }], guard := none }, { dst := some 10, op := Op.binOp BinOp.eql 9 (Operand.tmp 9) (Operand.const (Value.string { data := #[49, 44, 50, 51, 52, 46, 53] })) 9, type := 4, pos := "law.go:15", after := #[{ on := 3, ground := Ground.data }], guard := none }, { dst := some 11, op := Op.move (Operand.tmp 10), type := 4, pos := "law.go:15", after := #[{ on := 4, ground := Ground.data }, { on := 3, ground := Ground.chain }], guard := none }, { dst := some 12, op := Op.move (Operand.tmp 1), type := 44, pos := "law.go:15", after := #[{ on := 5, ground := Ground.guard }], guard := some (5, true) }, { dst := some 13, op := Op.load 29 (Operand.tmp 2), type := 29, pos := "law.go:15", after := #[{ on := 5, ground := Ground.guard }], guard := some (5, true) }, { dst := some 14, op := Op.call { callee := Callee.value (Operand.func 7), args := #[], argTypes := #[] }, type := 26, pos := "law.go:15", after := #[{ on := 5, ground := Ground.chain }, { on := 5, ground := Ground.guard }], guard := some (5, true) }, { dst := some 15, op := Op.call { callee := Callee.value (Operand.func 16), args := #[Operand.tmp 12, Operand.const (Value.string { data := #[100, 101] }), Operand.tmp 13, Operand.tmp 14], argTypes := #[44, 9, 29, 26] }, type := 9, pos := "law.go:15", after := #[{ on := 6, ground := Ground.data }, { on := 7, ground := Ground.data }, { on := 8, ground := Ground.data }, { on := 8, ground := Ground.chain }, { on := 5, ground := Ground.guard }], guard := some (5, true) }, { dst := some 16, op := Op.binOp BinOp.eql 9 (Operand.tmp 15) (Operand.const (Value.string { data := #[49, 46, 50, 51, 52, 44, 53] })) 9, type := 4, pos := "law.go:15", after := #[{ on := 9, ground := Ground.data }, { on := 5, ground := Ground.guard }], guard := some (5, true) }, { dst := some 17, op := Op.pick (Operand.tmp 11) (Operand.tmp 16) (Operand.const (Value.bool false)), type := 4, pos := "law.go:15", after := #[{ on := 5, ground := Ground.data }, { on := 10, ground := Ground.data }], guard := none }, { dst := some 18, op := Op.move (Operand.tmp 17), type := 4, pos := "law.go:15", after := #[{ on := 11, ground := Ground.data }, { on := 9, ground := Ground.chain }], guard := none }, { dst := some 19, op := Op.move (Operand.tmp 1), type := 44, pos := "law.go:15", after := #[{ on := 12, ground := Ground.guard }], guard := some (12, true) }, { dst := some 20, op := Op.call { callee := Callee.value (Operand.func 17), args := #[Operand.tmp 19], argTypes := #[44] }, type := 2, pos := "law.go:15", after := #[{ on := 13, ground := Ground.data }, { on := 12, ground := Ground.chain }, { on := 12, ground := Ground.guard }], guard := some (12, true) }, { dst := some 21, op := Op.binOp BinOp.eql 2 (Operand.tmp 20) (Operand.const (Value.int IntKind.i64 2)) 2, type := 4, pos := "law.go:15", after := #[{ on := 14, ground := Ground.data }, { on := 12, ground := Ground.guard }], guard := some (12, true) }, { dst := some 22, op := Op.pick (Operand.tmp 18) (Operand.tmp 21) (Operand.const (Value.bool false)), type := 4, pos := "law.go:15", after := #[{ on := 12, ground := Ground.data }, { on := 15, ground := Ground.data }], guard := none }, { dst := some 0, op := Op.assign (Operand.tmp 22), type := 4, pos := "law.go:15", after := #[{ on := 16, ground := Ground.data }, { on := 14, ground := Ground.chain }, { on := 0, ground := Ground.phase }, { on := 1, ground := Ground.phase }, { on := 2, ground := Ground.phase }, { on := 3, ground := Ground.phase }, { on := 4, ground := Ground.phase }, { on := 5, ground := Ground.phase }, { on := 6, ground := Ground.phase }, { on := 7, ground := Ground.phase }, { on := 8, ground := Ground.phase }, { on := 9, ground := Ground.phase }, { on := 10, ground := Ground.phase }, { on := 11, ground := Ground.phase }, { on := 12, ground := Ground.phase }, { on := 13, ground := Ground.phase }, { on := 14, ground := Ground.phase }, { on := 15, ground := Ground.phase }, { on := 16, ground := Ground.phase }], guard := none }] true).wp Tryz.prog Q a0 W := by
  refine start_ (n := 18) (S := fun w' => True) (ds := []) #[false, false, false, false, false, false, false, false, false, false, false, false, false, false, false, false, false, false] (by kernel_rfl) rfl rfl trivial (fun hHeld => ?_)
  refine with_tabW head12_end.tab head12_end.bits (fun HT_ HW_ => ?_)
  refine inv_at [0, 1, 2, 3, 4, 5, 6, 7, 8, 9, 10, 11, 12, 13, 14, 15, 16, 17] (fun a0_ b a w' => a = putSel a0_ b [(0, 6, .pointer (some ⟨w0.heap.size, 0, none⟩)), (1, 7, .agg #[.bool false, .string d5, .int .i64 1]), (2, 8, .agg #[.int .i64 1, .int .i64 0, .int .i64 3, .bool false, .bool false]), (3, 9, .string ⟨#[49, 44, 50, 51, 52, 46, 53]⟩), (4, 10, .bool true), (5, 11, .bool true), (6, 12, .pointer (some ⟨w0.heap.size, 0, none⟩)), (7, 13, .agg #[.bool false, .string d5, .int .i64 1]), (8, 14, .agg #[.int .i64 1, .int .i64 0, .int .i64 3, .bool false, .bool false]), (9, 15, .string ⟨#[49, 46, 50, 51, 52, 44, 53]⟩), (10, 16, .bool true), (11, 17, .bool true), (12, 18, .bool true), (13, 19, .pointer (some ⟨w0.heap.size, 0, none⟩)), (14, 20, .int .i64 2), (15, 21, .bool true), (16, 22, .bool true), (17, 0, .bool true)] ∧ (Hd w0 (if b 9 = true then 2 else if b 3 = true then 1 else 0) w')) HT_.out HW_.out (by kernel_rfl) (by kernel_rfl) ?_ ?_ ?_
  · exact ⟨(by simp only [putSel, Bool.false_eq_true, if_false]), hI⟩
  · clear hI hend hHeld
    refine steps_cons ?_ ?_
    · rintro b a w' ⟨ha, hI⟩ hb_ hon hoff
      refine ⟨_, rfl, fun K hK => ?_⟩
      have e1 : a.tmps[1]? = some (.pointer (some ⟨w0.heap.size, 0, none⟩)) := by rw [ha]; exact (putSel_off rfl).trans s1
      replace ha := Aside0.mk ha
      obtain ⟨p0, p1, p2⟩ := hI.get
      refine value_ (w1 := w') (v := .pointer (some ⟨w0.heap.size, 0, none⟩)) (by rfl) rfl ?_ ?_
      · go_simp; try rfl
        all_goals (try (simp only [IntKind.wrap_i64]; omega))
      exact hK.out _ _ ⟨(by rw [ha.out]; exact putSel_upk 0 hb_ rfl rfl rfl), hI⟩
    refine steps_cons ?_ ?_
    · rintro b a w' ⟨ha, hI⟩ hb_ hon hoff
      refine ⟨_, rfl, fun K hK => ?_⟩
      have e2 : a.tmps[2]? = some (.pointer (some ⟨w0.heap.size + 1, 0, none⟩)) := by rw [ha]; exact (putSel_off rfl).trans s2
      replace ha := Aside0.mk ha
      obtain ⟨p0, p1, p2⟩ := hI.get
      refine value_ (w1 := w') (v := .agg #[.bool false, .string d5, .int .i64 1]) (by rfl) rfl ?_ ?_
      · go_simp; try rfl
        all_goals (try (simp only [IntKind.wrap_i64]; omega))
      exact hK.out _ _ ⟨(by rw [ha.out]; exact putSel_upk 1 hb_ rfl rfl rfl), hI⟩
    refine steps_cons ?_ ?_
    · rintro b a w' ⟨ha, hI⟩ hb_ hon hoff
      refine ⟨_, rfl, fun K hK => ?_⟩
      replace ha := Aside0.mk ha
      obtain ⟨p0, p1, p2⟩ := hI.get
      refine goes_ Tryz.func7 (by kernel_rfl) rfl #[] (by rfl) rfl rfl (by first | (simp only [List.map_toArray, List.map_cons, List.map_nil, Act.eval, Array.getD_eq_getD_getElem?, Option.getD_some, ]; done) | (simp only [List.map_toArray, List.map_cons, List.map_nil, Act.eval, Array.getD_eq_getD_getElem?, Option.getD_some, ]; rfl)) ?_
      refine (default_any w').mono ?_
      rintro e w1 ⟨rfl, b1⟩; have hI1 := hI.step b1
      exact ⟨_, rfl, hK.out _ _ ⟨(by rw [ha.out]; exact putSel_upk 2 hb_ rfl rfl rfl), hI1⟩⟩
    refine steps_cons ?_ ?_
    · rintro b a w' ⟨ha, hI⟩ hb_ hon hoff
      refine ⟨_, rfl, fun K hK => ?_⟩
      have e6 : a.tmps[6]? = some (.pointer (some ⟨w0.heap.size, 0, none⟩)) := by rw [ha]; exact putSel_on (e := (0, 6, .pointer (some ⟨w0.heap.size, 0, none⟩))) 0 rfl rfl (hon 0 (by kernel_rfl)) (by rw [hsz]; rfl)
      have e7 : a.tmps[7]? = some (.agg #[.bool false, .string d5, .int .i64 1]) := by rw [ha]; exact putSel_on (e := (1, 7, .agg #[.bool false, .string d5, .int .i64 1])) 1 rfl rfl (hon 1 (by kernel_rfl)) (by rw [hsz]; rfl)
      have e8 : a.tmps[8]? = some (.agg #[.int .i64 1, .int .i64 0, .int .i64 3, .bool false, .bool false]) := by rw [ha]; exact putSel_on (e := (2, 8, .agg #[.int .i64 1, .int .i64 0, .int .i64 3, .bool false, .bool false])) 2 rfl rfl (hon 2 (by kernel_rfl)) (by rw [hsz]; rfl)
      replace ha := Aside0.mk ha
      obtain ⟨p0, p1, p2⟩ := hI.get
      refine goes_ Tryz.func16 (by kernel_rfl) rfl #[.pointer (some ⟨w0.heap.size, 0, none⟩), Go.Value.string { data := #[101, 110] }, .agg #[.bool false, .string d5, .int .i64 1], .agg #[.int .i64 1, .int .i64 0, .int .i64 3, .bool false, .bool false]] (by rfl) rfl rfl (by first | (simp only [List.map_toArray, List.map_cons, List.map_nil, Act.eval, Array.getD_eq_getD_getElem?, Option.getD_some, e6, e7, e8]; done) | (simp only [List.map_toArray, List.map_cons, List.map_nil, Act.eval, Array.getD_eq_getD_getElem?, Option.getD_some, e6, e7, e8]; rfl)) ?_
      refine (head_en (w := w0) (W := w') (by have h := hI; rw [hb_, show b 9 = false from hoff 9 (by kernel_rfl)] at h; exact h)).mono ?_
      rintro e w1 ⟨rfl, h1⟩; have hI1 : Hd w0 (if up b 3 9 = true then 2 else if up b 3 3 = true then 1 else 0) w1 := (by rw [show up b 3 9 = false from (up_ne (by decide)).trans (hoff 9 (by kernel_rfl))]; exact h1)
      exact ⟨_, rfl, hK.out _ _ ⟨(by rw [ha.out]; exact putSel_upk 3 hb_ rfl rfl rfl), hI1⟩⟩
    refine steps_cons ?_ ?_
    · rintro b a w' ⟨ha, hI⟩ hb_ hon hoff
      refine ⟨_, rfl, fun K hK => ?_⟩
      have e9 : a.tmps[9]? = some (.string ⟨#[49, 44, 50, 51, 52, 46, 53]⟩) := by rw [ha]; exact putSel_on (e := (3, 9, .string ⟨#[49, 44, 50, 51, 52, 46, 53]⟩)) 3 rfl rfl (hon 3 (by kernel_rfl)) (by rw [hsz]; rfl)
      replace ha := Aside0.mk ha
      obtain ⟨p0, p1, p2⟩ := hI.get
      refine value_ (w1 := w') (v := .bool true) (by rfl) rfl ?_ ?_
      · go_simp; try rfl
        all_goals (try (simp only [IntKind.wrap_i64]; omega))
      exact hK.out _ _ ⟨(by rw [ha.out]; exact putSel_upk 4 hb_ rfl rfl rfl), hI⟩
    refine steps_cons ?_ ?_
    · rintro b a w' ⟨ha, hI⟩ hb_ hon hoff
      refine ⟨_, rfl, fun K hK => ?_⟩
      have e10 : a.tmps[10]? = some (.bool true) := by rw [ha]; exact putSel_on (e := (4, 10, .bool true)) 4 rfl rfl (hon 4 (by kernel_rfl)) (by rw [hsz]; rfl)
      replace ha := Aside0.mk ha
      obtain ⟨p0, p1, p2⟩ := hI.get
      refine value_ (w1 := w') (v := .bool true) (by rfl) rfl ?_ ?_
      · go_simp; try rfl
        all_goals (try (simp only [IntKind.wrap_i64]; omega))
      exact hK.out _ _ ⟨(by rw [ha.out]; exact putSel_upk 5 hb_ rfl rfl rfl), hI⟩
    refine steps_cons ?_ ?_
    · rintro b a w' ⟨ha, hI⟩ hb_ hon hoff
      refine ⟨_, rfl, fun K hK => ?_⟩
      have e1 : a.tmps[1]? = some (.pointer (some ⟨w0.heap.size, 0, none⟩)) := by rw [ha]; exact (putSel_off rfl).trans s1
      have e11 : a.tmps[11]? = some (.bool true) := by rw [ha]; exact putSel_on (e := (5, 11, .bool true)) 5 rfl rfl (hon 5 (by kernel_rfl)) (by rw [hsz]; rfl)
      replace ha := Aside0.mk ha
      obtain ⟨p0, p1, p2⟩ := hI.get
      refine value_ (w1 := w') (v := .pointer (some ⟨w0.heap.size, 0, none⟩)) (wanted_on rfl rfl rfl e11) rfl ?_ ?_
      · go_simp; try rfl
        all_goals (try (simp only [IntKind.wrap_i64]; omega))
      exact hK.out _ _ ⟨(by rw [ha.out]; exact putSel_upk 6 hb_ rfl rfl rfl), hI⟩
    refine steps_cons ?_ ?_
    · rintro b a w' ⟨ha, hI⟩ hb_ hon hoff
      refine ⟨_, rfl, fun K hK => ?_⟩
      have e2 : a.tmps[2]? = some (.pointer (some ⟨w0.heap.size + 1, 0, none⟩)) := by rw [ha]; exact (putSel_off rfl).trans s2
      have e11 : a.tmps[11]? = some (.bool true) := by rw [ha]; exact putSel_on (e := (5, 11, .bool true)) 5 rfl rfl (hon 5 (by kernel_rfl)) (by rw [hsz]; rfl)
      replace ha := Aside0.mk ha
      obtain ⟨p0, p1, p2⟩ := hI.get
      refine value_ (w1 := w') (v := .agg #[.bool false, .string d5, .int .i64 1]) (wanted_on rfl rfl rfl e11) rfl ?_ ?_
      · go_simp; try rfl
        all_goals (try (simp only [IntKind.wrap_i64]; omega))
      exact hK.out _ _ ⟨(by rw [ha.out]; exact putSel_upk 7 hb_ rfl rfl rfl), hI⟩
    refine steps_cons ?_ ?_
    · rintro b a w' ⟨ha, hI⟩ hb_ hon hoff
      refine ⟨_, rfl, fun K hK => ?_⟩
      have e11 : a.tmps[11]? = some (.bool true) := by rw [ha]; exact putSel_on (e := (5, 11, .bool true)) 5 rfl rfl (hon 5 (by kernel_rfl)) (by rw [hsz]; rfl)
      replace ha := Aside0.mk ha
      obtain ⟨p0, p1, p2⟩ := hI.get
      refine goes_ Tryz.func7 (by kernel_rfl) rfl #[] (wanted_on rfl rfl rfl e11) rfl rfl (by first | (simp only [List.map_toArray, List.map_cons, List.map_nil, Act.eval, Array.getD_eq_getD_getElem?, Option.getD_some, ]; done) | (simp only [List.map_toArray, List.map_cons, List.map_nil, Act.eval, Array.getD_eq_getD_getElem?, Option.getD_some, ]; rfl)) ?_
      refine (default_any w').mono ?_
      rintro e w1 ⟨rfl, b1⟩; have hI1 := hI.step b1
      exact ⟨_, rfl, hK.out _ _ ⟨(by rw [ha.out]; exact putSel_upk 8 hb_ rfl rfl rfl), hI1⟩⟩
    refine steps_cons ?_ ?_
    · rintro b a w' ⟨ha, hI⟩ hb_ hon hoff
      refine ⟨_, rfl, fun K hK => ?_⟩
      have e12 : a.tmps[12]? = some (.pointer (some ⟨w0.heap.size, 0, none⟩)) := by rw [ha]; exact putSel_on (e := (6, 12, .pointer (some ⟨w0.heap.size, 0, none⟩))) 6 rfl rfl (hon 6 (by kernel_rfl)) (by rw [hsz]; rfl)
      have e13 : a.tmps[13]? = some (.agg #[.bool false, .string d5, .int .i64 1]) := by rw [ha]; exact putSel_on (e := (7, 13, .agg #[.bool false, .string d5, .int .i64 1])) 7 rfl rfl (hon 7 (by kernel_rfl)) (by rw [hsz]; rfl)
      have e14 : a.tmps[14]? = some (.agg #[.int .i64 1, .int .i64 0, .int .i64 3, .bool false, .bool false]) := by rw [ha]; exact putSel_on (e := (8, 14, .agg #[.int .i64 1, .int .i64 0, .int .i64 3, .bool false, .bool false])) 8 rfl rfl (hon 8 (by kernel_rfl)) (by rw [hsz]; rfl)
      have e11 : a.tmps[11]? = some (.bool true) := by rw [ha]; exact putSel_on (e := (5, 11, .bool true)) 5 rfl rfl (hon 5 (by kernel_rfl)) (by rw [hsz]; rfl)
      replace ha := Aside0.mk ha
      obtain ⟨p0, p1, p2⟩ := hI.get
      refine goes_ Tryz.func16 (by kernel_rfl) rfl #[.pointer (some ⟨w0.heap.size, 0, none⟩), Go.Value.string { data := #[100, 101] }, .agg #[.bool false, .string d5, .int .i64 1], .agg #[.int .i64 1, .int .i64 0, .int .i64 3, .bool false, .bool false]] (wanted_on rfl rfl rfl e11) rfl rfl (by first | (simp only [List.map_toArray, List.map_cons, List.map_nil, Act.eval, Array.getD_eq_getD_getElem?, Option.getD_some, e12, e13, e14]; done) | (simp only [List.map_toArray, List.map_cons, List.map_nil, Act.eval, Array.getD_eq_getD_getElem?, Option.getD_some, e12, e13, e14]; rfl)) ?_
      refine (head_de (w := w0) (W := w') (by have h := hI; rw [hb_, show b 3 = true from hon 3 (by kernel_rfl)] at h; exact h)).mono ?_
      rintro e w1 ⟨rfl, h1⟩; have hI1 : Hd w0 (if up b 9 9 = true then 2 else if up b 9 3 = true then 1 else 0) w1 := h1
      exact ⟨_, rfl, hK.out _ _ ⟨(by rw [ha.out]; exact putSel_upk 9 hb_ rfl rfl rfl), hI1⟩⟩
    refine steps_cons ?_ ?_
    · rintro b a w' ⟨ha, hI⟩ hb_ hon hoff
      refine ⟨_, rfl, fun K hK => ?_⟩
      have e15 : a.tmps[15]? = some (.string ⟨#[49, 46, 50, 51, 52, 44, 53]⟩) := by rw [ha]; exact putSel_on (e := (9, 15, .string ⟨#[49, 46, 50, 51, 52, 44, 53]⟩)) 9 rfl rfl (hon 9 (by kernel_rfl)) (by rw [hsz]; rfl)
      have e11 : a.tmps[11]? = some (.bool true) := by rw [ha]; exact putSel_on (e := (5, 11, .bool true)) 5 rfl rfl (hon 5 (by kernel_rfl)) (by rw [hsz]; rfl)
      replace ha := Aside0.mk ha
      obtain ⟨p0, p1, p2⟩ := hI.get
      refine value_ (w1 := w') (v := .bool true) (wanted_on rfl rfl rfl e11) rfl ?_ ?_
      · go_simp; try rfl
        all_goals (try (simp only [IntKind.wrap_i64]; omega))
      exact hK.out _ _ ⟨(by rw [ha.out]; exact putSel_upk 10 hb_ rfl rfl rfl), hI⟩
    refine steps_cons ?_ ?_
    · rintro b a w' ⟨ha, hI⟩ hb_ hon hoff
      refine ⟨_, rfl, fun K hK => ?_⟩
      have e11 : a.tmps[11]? = some (.bool true) := by rw [ha]; exact putSel_on (e := (5, 11, .bool true)) 5 rfl rfl (hon 5 (by kernel_rfl)) (by rw [hsz]; rfl)
      have e16 : a.tmps[16]? = some (.bool true) := by rw [ha]; exact putSel_on (e := (10, 16, .bool true)) 10 rfl rfl (hon 10 (by kernel_rfl)) (by rw [hsz]; rfl)
      replace ha := Aside0.mk ha
      obtain ⟨p0, p1, p2⟩ := hI.get
      refine value_ (w1 := w') (v := .bool true) (by rfl) rfl ?_ ?_
      · go_simp; try rfl
        all_goals (try (simp only [IntKind.wrap_i64]; omega))
      exact hK.out _ _ ⟨(by rw [ha.out]; exact putSel_upk 11 hb_ rfl rfl rfl), hI⟩
    refine steps_cons ?_ ?_
    · rintro b a w' ⟨ha, hI⟩ hb_ hon hoff
      refine ⟨_, rfl, fun K hK => ?_⟩
      have e17 : a.tmps[17]? = some (.bool true) := by rw [ha]; exact putSel_on (e := (11, 17, .bool true)) 11 rfl rfl (hon 11 (by kernel_rfl)) (by rw [hsz]; rfl)
      replace ha := Aside0.mk ha
      obtain ⟨p0, p1, p2⟩ := hI.get
      refine value_ (w1 := w') (v := .bool true) (by rfl) rfl ?_ ?_
      · go_simp; try rfl
        all_goals (try (simp only [IntKind.wrap_i64]; omega))
      exact hK.out _ _ ⟨(by rw [ha.out]; exact putSel_upk 12 hb_ rfl rfl rfl), hI⟩
    refine steps_cons ?_ ?_
    · rintro b a w' ⟨ha, hI⟩ hb_ hon hoff
      refine ⟨_, rfl, fun K hK => ?_⟩
      have e1 : a.tmps[1]? = some (.pointer (some ⟨w0.heap.size, 0, none⟩)) := by rw [ha]; exact (putSel_off rfl).trans s1
      have e18 : a.tmps[18]? = some (.bool true) := by rw [ha]; exact putSel_on (e := (12, 18, .bool true)) 12 rfl rfl (hon 12 (by kernel_rfl)) (by rw [hsz]; rfl)
      replace ha := Aside0.mk ha
      obtain ⟨p0, p1, p2⟩ := hI.get
      refine value_ (w1 := w') (v := .pointer (some ⟨w0.heap.size, 0, none⟩)) (wanted_on rfl rfl rfl e18) rfl ?_ ?_
      · go_simp; try rfl
        all_goals (try (simp only [IntKind.wrap_i64]; omega))
      exact hK.out _ _ ⟨(by rw [ha.out]; exact putSel_upk 13 hb_ rfl rfl rfl), hI⟩
    refine steps_cons ?_ ?_
    · rintro b a w' ⟨ha, hI⟩ hb_ hon hoff
      refine ⟨_, rfl, fun K hK => ?_⟩
      have e19 : a.tmps[19]? = some (.pointer (some ⟨w0.heap.size, 0, none⟩)) := by rw [ha]; exact putSel_on (e := (13, 19, .pointer (some ⟨w0.heap.size, 0, none⟩))) 13 rfl rfl (hon 13 (by kernel_rfl)) (by rw [hsz]; rfl)
      have e18 : a.tmps[18]? = some (.bool true) := by rw [ha]; exact putSel_on (e := (12, 18, .bool true)) 12 rfl rfl (hon 12 (by kernel_rfl)) (by rw [hsz]; rfl)
      replace ha := Aside0.mk ha
      obtain ⟨p0, p1, p2⟩ := hI.get
      refine goes_ Tryz.func17 (by kernel_rfl) rfl #[.pointer (some ⟨w0.heap.size, 0, none⟩)] (wanted_on rfl rfl rfl e18) rfl rfl (by first | (simp only [List.map_toArray, List.map_cons, List.map_nil, Act.eval, Array.getD_eq_getD_getElem?, Option.getD_some, e19]; done) | (simp only [List.map_toArray, List.map_cons, List.map_nil, Act.eval, Array.getD_eq_getD_getElem?, Option.getD_some, e19]; rfl)) ?_
      refine (asked_mks (b := w0.heap.size) (n := 2) (w := w') (by have h := hI.mks; rw [show b 9 = true from hon 9 (by kernel_rfl)] at h; exact h)).mono ?_
      rintro e w1 ⟨rfl, rfl⟩; have hI1 := hI
      exact ⟨_, rfl, hK.out _ _ ⟨(by rw [ha.out]; exact putSel_upk 14 hb_ rfl rfl rfl), hI1⟩⟩
    refine steps_cons ?_ ?_
    · rintro b a w' ⟨ha, hI⟩ hb_ hon hoff
      refine ⟨_, rfl, fun K hK => ?_⟩
      have e20 : a.tmps[20]? = some (.int .i64 2) := by rw [ha]; exact putSel_on (e := (14, 20, .int .i64 2)) 14 rfl rfl (hon 14 (by kernel_rfl)) (by rw [hsz]; rfl)
      have e18 : a.tmps[18]? = some (.bool true) := by rw [ha]; exact putSel_on (e := (12, 18, .bool true)) 12 rfl rfl (hon 12 (by kernel_rfl)) (by rw [hsz]; rfl)
      replace ha := Aside0.mk ha
      obtain ⟨p0, p1, p2⟩ := hI.get
      refine value_ (w1 := w') (v := .bool true) (wanted_on rfl rfl rfl e18) rfl ?_ ?_
      · go_simp; try rfl
        all_goals (try (simp only [IntKind.wrap_i64]; omega))
      exact hK.out _ _ ⟨(by rw [ha.out]; exact putSel_upk 15 hb_ rfl rfl rfl), hI⟩
    refine steps_cons ?_ ?_
    · rintro b a w' ⟨ha, hI⟩ hb_ hon hoff
      refine ⟨_, rfl, fun K hK => ?_⟩
      have e18 : a.tmps[18]? = some (.bool true) := by rw [ha]; exact putSel_on (e := (12, 18, .bool true)) 12 rfl rfl (hon 12 (by kernel_rfl)) (by rw [hsz]; rfl)
      have e21 : a.tmps[21]? = some (.bool true) := by rw [ha]; exact putSel_on (e := (15, 21, .bool true)) 15 rfl rfl (hon 15 (by kernel_rfl)) (by rw [hsz]; rfl)
      replace ha := Aside0.mk ha
      obtain ⟨p0, p1, p2⟩ := hI.get
      refine value_ (w1 := w') (v := .bool true) (by rfl) rfl ?_ ?_
      · go_simp; try rfl
        all_goals (try (simp only [IntKind.wrap_i64]; omega))
      exact hK.out _ _ ⟨(by rw [ha.out]; exact putSel_upk 16 hb_ rfl rfl rfl), hI⟩
    refine steps_cons ?_ ?_
    · rintro b a w' ⟨ha, hI⟩ hb_ hon hoff
      refine ⟨_, rfl, fun K hK => ?_⟩
      have e22 : a.tmps[22]? = some (.bool true) := by rw [ha]; exact putSel_on (e := (16, 22, .bool true)) 16 rfl rfl (hon 16 (by kernel_rfl)) (by rw [hsz]; rfl)
      replace ha := Aside0.mk ha
      obtain ⟨p0, p1, p2⟩ := hI.get
      refine value_ (w1 := w') (v := .bool true) (by rfl) rfl ?_ ?_
      · go_simp; try rfl
        all_goals (try (simp only [IntKind.wrap_i64]; omega))
      exact hK.out _ _ ⟨(by rw [ha.out]; exact putSel_upk 17 hb_ rfl rfl rfl), hI⟩
    exact steps_nil
  rintro b a w1 hall ⟨ha, hI1⟩
  simp only [hall 3 (by kernel_rfl), hall 9 (by kernel_rfl)] at hI1
  exact hend a w1 hI1 (by rw [ha]; simp only [putSel, if_true, hall 0 (by kernel_rfl), hall 1 (by kernel_rfl), hall 2 (by kernel_rfl), hall 3 (by kernel_rfl), hall 4 (by kernel_rfl), hall 5 (by kernel_rfl), hall 6 (by kernel_rfl), hall 7 (by kernel_rfl), hall 8 (by kernel_rfl), hall 9 (by kernel_rfl), hall 10 (by kernel_rfl), hall 11 (by kernel_rfl), hall 12 (by kernel_rfl), hall 13 (by kernel_rfl), hall 14 (by kernel_rfl), hall 15 (by kernel_rfl), hall 16 (by kernel_rfl), hall 17 (by kernel_rfl)]) (by rw [ha]; exact (putSel_size b _ a0).2) (by rw [ha]; exact putSel_on (e := (17, 0, .bool true)) 17 rfl rfl (hall 17 (by kernel_rfl)) (by rw [hsz]; rfl))
end Go.Proofs.YtajgnkncdkibeaaGreatDoor
namespace Go.Proofs.YtajgnkncdkibeaaGreatDoor
open Go.RowKit Go.Proofs.YtajgnkncdkibeaaGreatDoor.M
open Go.Proofs.YtajgnkncdkibeaaGreatDoorW.PrintWords Go.Proofs.YtajgnkncdkibeaaGreatDoorW.PrintLast
set_option linter.unusedVariables false
set_option linter.unusedSimpArgs false
theorem mks_new (w : World) : Mks w.heap.size 0 (w.alloc (.cells (mkc 0 0 0 none none) 62)) := .inl ⟨⟨heap_alloc_new w _⟩, rfl⟩
theorem Hd.start (w : World) : Hd w 0 ((w.alloc (.cells (mkc 0 0 0 none none) 62)).alloc (.cells #[.bool false, .string d5, .int .i64 1] 29)) := by
  have h1 := mks_new w
  have z1 : (w.alloc (.cells (mkc 0 0 0 none none) 62)).heap.size = w.heap.size + 1 := by simp
  have b1 := (Below.refl w.heap.size w).alloc (Nat.le_refl _) (.cells (mkc 0 0 0 none none) 62)
  generalize w.alloc (.cells (mkc 0 0 0 none none) 62) = U at *
  have m2 := heap_alloc_new U (.cells #[.bool false, .string d5, .int .i64 1] 29)
  rw [z1] at m2
  exact ⟨h1.step ((Below.refl _ _).alloc (Nat.le_refl _) _), m2, b1.alloc (by rw [z1]; omega) _⟩
set_option maxRecDepth 100000 in
set_option maxHeartbeats 4000000 in
theorem head12_any (w : World) : Calls Tryz.prog 5 #[] w fun e w' => e = .returned (.bool true) ∧ Below w.heap.size w w' := by
  have hS := Hd.start w
  go_enter Tryz.func5, Tryz.ntmps5
  go_wp2
  refine head12_end w _ rfl rfl rfl _ hS.drew _ ?_
  intro a9 w9 h9 ha9 hd9 h0
  have bel := h9.bel
  clear ha9 hS h9
  go_wp2
  exact bodyPost_ret (results_tmp rfl _ _ _) hd9 ⟨by rw [Array.getD_eq_getD_getElem?, h0]; rfl, bel⟩
end Go.Proofs.YtajgnkncdkibeaaGreatDoor
namespace Go.Proofs.YtajgnkncdkibeaaGreatDoor.G
open Go.RowKit Go.Proofs.YtajgnkncdkibeaaGreatDoor
set_option linter.unusedVariables false
set_option linter.unusedSimpArgs false
def okN (D : ByteArray) (k : Int) : Bool := decide (0 ≤ k) && decide (k < D.size) && decide (D.size ≤ 60) && digB D
theorem okN_of {D : ByteArray} {k : Int} (h : okN D k = true) : ∃ j : Nat, k = j ∧ j < D.size ∧ D.size ≤ 60 ∧ digB D = true := by
  unfold okN at h
  simp only [Bool.and_eq_true, decide_eq_true_eq] at h
  obtain ⟨⟨⟨h0, h1⟩, h2⟩, h3⟩ := h
  exact ⟨k.toNat, by omega, by omega, h2, h3⟩
theorem digB_mem {D : ByteArray} (h : digB D = true) : ∀ c ∈ D.data.toList, 48 ≤ c.toNat ∧ c.toNat ≤ 57 := fun c hc => by
  have := List.all_eq_true.1 h c hc
  simpa using this
def polyglotlaw12_head.f : Option Bool := some true
theorem polyglotlaw12_head.calls (r : Bool) (w : World) (h : polyglotlaw12_head.f = some r) : Calls Tryz.prog 5 #[] w fun e w' => e = .returned (.bool r) ∧ Below w.heap.size w w' := by
  obtain rfl := Option.some.inj h
  exact head12_any w
def number_Default.f : Option (Int × Int × Int × Bool × Bool) := some (1, 0, 3, false, false)
theorem number_Default.calls (r1 r2 r3 : Int) (r4 r5 : Bool) (w : World) (h : number_Default.f = some (r1, r2, r3, r4, r5)) :
    Calls Tryz.prog 7 #[] w fun e w' => e = .returned (.agg #[.int .i64 r1, .int .i64 r2, .int .i64 r3, .bool r4, .bool r5]) ∧ Below w.heap.size w w' := by
  have h2 := Option.some.inj h
  simp only [Prod.mk.injEq] at h2
  obtain ⟨rfl, rfl, rfl, rfl, rfl⟩ := h2
  exact default_any w
def polyglotlaw12_whole.f (a0 : Bool) (a1 : ByteArray) (a2 : Int) : Option Int := if okN a1 a2 = true then some (whoV a0 (fixD a1.data.toList (a1.size - a2.toNat) a1.size)) else none
theorem polyglotlaw12_whole.calls (a0 : Bool) (a1 : ByteArray) (a2 r : Int) (w : World) (h : polyglotlaw12_whole.f a0 a1 a2 = some r) :
    Calls Tryz.prog 20 #[.agg #[.bool a0, .string a1, .int .i64 a2]] w fun e w' => e = .returned (.int .i64 r) ∧ Below w.heap.size w w' := by
  unfold polyglotlaw12_whole.f at h
  by_cases ho : okN a1 a2 = true
  · rw [if_pos ho] at h
    obtain rfl := Option.some.inj h
    obtain ⟨j, rfl, h1, h2, h3⟩ := okN_of ho
    exact whole12_any a0 a1 j w h1 h2 (digB_mem h3)
  · rw [if_neg ho] at h; cases h
def trE (D : ByteArray) (j : Nat) : ByteArray := D.extract 0 (tz D j D.size)
def trK (D : ByteArray) (j : Nat) : Nat := j - (D.size - tz D j D.size)
def optR (x : Bool × Int × Int × Int × Bool × Bool) : Int × Int × Int × Bool × Bool × Int := if x.1 = true then (x.2.1, x.2.2.1, x.2.2.2.1, x.2.2.2.2.1, x.2.2.2.2.2, 0) else (0, 0, 0, false, false, 1)
def number_Opts_Set.f (a0 a1 a2 : Int) (a3 a4 : Bool) (nm tx : ByteArray) (d0 : Bool) (d1 : ByteArray) (d2 : Int) (it : Bool) : Option (Int × Int × Int × Bool × Bool × Int) :=
  if okN d1 d2 = true then some (optR (stS a0 a1 a2 a3 a4 nm tx (dgV d0 (trE d1 d2.toNat) (trK d1 d2.toNat)) it)) else none
theorem dg_at {D : ByteArray} (h : digB D = true) (i : Nat) : ∀ j (hj : j < (D.extract 0 i).size), 48 ≤ ((D.extract 0 i)[j]'hj).toNat ∧ ((D.extract 0 i)[j]'hj).toNat ≤ 57 := fun j hj => by
  refine digB_mem h _ ?_
  rw [ByteArray.getElem_extract]
  have hj2 : j < D.size := by rw [ByteArray.size_extract] at hj; omega
  have : D[0 + j]'(by omega) = D.data.toList[j]'(by rw [← Lib.size_eq]; exact hj2) := by simp only [Nat.zero_add]; rfl
  rw [this]
  exact List.getElem_mem _
theorem number_Opts_Set.calls (a0 a1 a2 : Int) (a3 a4 : Bool) (nm tx : ByteArray) (d0 : Bool) (d1 : ByteArray) (d2 : Int) (it : Bool) (r1 r2 r3 : Int) (r4 r5 : Bool) (r6 : Int) (w : World)
    (h : number_Opts_Set.f a0 a1 a2 a3 a4 nm tx d0 d1 d2 it = some (r1, r2, r3, r4, r5, r6)) :
    Calls Tryz.prog 8 #[.agg #[.int .i64 a0, .int .i64 a1, .int .i64 a2, .bool a3, .bool a4], .string nm, .string tx, .agg #[.bool d0, .string d1, .int .i64 d2], .bool it] w fun e w' =>
      e = .returned (.tuple #[.agg #[.int .i64 r1, .int .i64 r2, .int .i64 r3, .bool r4, .bool r5], .int .i64 r6]) ∧ Below w.heap.size w w' := by
  unfold number_Opts_Set.f at h
  by_cases ho : okN d1 d2 = true
  · rw [if_pos ho] at h
    obtain ⟨j, rfl, h1, h2, h3⟩ := okN_of ho
    rw [Int.toNat_natCast] at h
    have t1 := tz_le d1 j d1.size
    have t2 := tz_ge d1 j d1.size
    have cT := fun W => trim_any d0 d1 j 0 W h1 (by omega) (by omega)
    rw [Nat.sub_zero] at cT
    have hk : (j : Int) - ((d1.size - tz d1 j d1.size : Nat) : Int) = (trK d1 j : Nat) := by unfold trK; omega
    rw [hk] at cT
    have hs : (trE d1 j).size ≤ 1000 := by unfold trE; rw [ByteArray.size_extract]; omega
    have cD := fun W => digits_any d0 d1 j (trE d1 j) (trK d1 j) cT hs (by unfold trK; omega) (dg_at h3 _) W
    refine (Set_any a0 a1 a2 a3 a4 nm tx d0 d1 j it _ cD w).mono ?_
    rintro e w' ⟨⟨z, m1, m2, m3, p1, p2, hV, rfl⟩, hb⟩
    refine ⟨?_, hb⟩
    rw [hV] at h
    have h := Option.some.inj h
    unfold optR at h
    cases z with
    | true =>
      simp only [if_true, Prod.mk.injEq] at h
      obtain ⟨rfl, rfl, rfl, rfl, rfl, rfl⟩ := h
      rfl
    | false =>
      simp only [Bool.false_eq_true, if_false, Prod.mk.injEq] at h
      obtain ⟨rfl, rfl, rfl, rfl, rfl, rfl⟩ := h
      rfl
  · rw [if_neg ho] at h; cases h
end Go.Proofs.YtajgnkncdkibeaaGreatDoor.G
namespace Go.Proofs.YtajgnkncdkibeaaGreatDoor.R
open Go.RowKit Go.Proofs.YtajgnkncdkibeaaGreatDoor.G Go.Proofs.YtajgnkncdkibeaaGreatDoor.U Go.Proofs.YtajgnkncdkibeaaGreatDoorW.PrintWords Go.Proofs.YtajgnkncdkibeaaGreatDoorW.PrintLast Go.Proofs.YtajgnkncdkibeaaGreatDoorW.PrintMore
attribute [local go_sem] max2_int min2_int max_two min_two max_three min_three max_four min_four
set_option linter.unusedVariables false
set_option linter.unusedSimpArgs false
def errW : Option Int → Value
  | none => .nilIface
  | some c => .iface 0 (.int .i64 c)
theorem errW_none : errW none = .nilIface := rfl
theorem errW_some (c : Int) : errW (some c) = .iface 0 (.int .i64 c) := rfl
end Go.Proofs.YtajgnkncdkibeaaGreatDoor.R
namespace Go.Proofs.YtajgnkncdkibeaaGreatDoor.R
open Go.RowKit Go.Proofs.YtajgnkncdkibeaaGreatDoor.G Go.Proofs.YtajgnkncdkibeaaGreatDoor.U Go.Proofs.YtajgnkncdkibeaaGreatDoorW.PrintWords Go.Proofs.YtajgnkncdkibeaaGreatDoorW.PrintLast Go.Proofs.YtajgnkncdkibeaaGreatDoorW.PrintMore
attribute [local go_sem] max2_int min2_int max_two min_two max_three min_three max_four min_four
set_option linter.unusedVariables false
set_option linter.unusedSimpArgs false
def polyglotlaw02_digit.f (a0 : Int) : Option (Bool) := if a0 ≥ 48 then (some (decide (a0 ≤ 57))) else (some false)
set_option maxHeartbeats 8000000 in
set_option maxRecDepth 100000 in
theorem polyglotlaw02_digit.calls (a0 : Int) (r : Bool) (w : World) (h : polyglotlaw02_digit.f a0 = some r) :
    Calls Tryz.prog 21 #[.int .u8 a0] w fun e w' => e = .returned (.bool r) ∧ Drawn0 w w' := by
  have H : (if a0 ≥ 48 then (some (decide (a0 ≤ 57))) else (some false)) = some r := h
  clear h
  by_cases c2 : a0 ≥ 48
  · rw [if_pos c2] at H
    have c2b0 : decide (48 ≤ a0) = true := decide_eq_true c2
    clear c2
    obtain rfl := Option.some.inj H
    go_enter Tryz.func21, Tryz.ntmps21
    go_wp2
    go_ret
    exact ⟨by first | rfl | (simp; done) | (simp [*]; done), by repeat (first | exact Drawn0.refl _ | apply Drawn0.step)⟩
  · rw [if_neg c2] at H
    have c2b0 : decide (48 ≤ a0) = false := decide_eq_false c2
    clear c2
    obtain rfl := Option.some.inj H
    go_enter Tryz.func21, Tryz.ntmps21
    go_wp2
    go_ret
    exact ⟨by first | rfl | (simp; done) | (simp [*]; done), by repeat (first | exact Drawn0.refl _ | apply Drawn0.step)⟩
mutual
def polyglotlaw02_Right.j0 : Nat → Bool → Bool → ByteArray → Int → Option (Bool)
  | 0, _, _, _, _ => none
  | k + 1, x20, x102000, x102001, x102002 => if x20 = true then (some false) else (polyglotlaw02_Right.l0 k 0 x102000 x102001 x102002)
def polyglotlaw02_Right.l0 : Nat → Int → Bool → ByteArray → Int → Option (Bool)
  | 0, _, _, _, _ => none
  | k + 1, x3, x102000, x102001, x102002 => if x3 < (x102001.size : Int) then (if 0 ≤ x3 then ((polyglotlaw02_digit.f (bt x102001 x3)).bind fun t102 => (if t102 = true then (polyglotlaw02_Right.l0 k (wrap64 (x3 + 1)) x102000 x102001 x102002) else (some false))) else (none)) else (if 0 < (x102001.size : Int) then (if (bt x102001 0) = 48 then (some ((x102001.size : Int) == (wrap64 (x102002 + 1)))) else (some true)) else (none))
end
def polyglotlaw02_Right.f (k : Nat) (a0_0 : Bool) (a0_1 : ByteArray) (a0_2 : Int) : Option (Bool) := if a0_2 < 0 then (polyglotlaw02_Right.j0 k true a0_0 a0_1 a0_2) else (if a0_2 ≥ (a0_1.size : Int) then (polyglotlaw02_Right.j0 k true a0_0 a0_1 a0_2) else (polyglotlaw02_Right.j0 k (decide ((a0_1.size : Int) > 60)) a0_0 a0_1 a0_2))
theorem polyglotlaw02_Right.mono_l : ∀ k, (∀ y0 y1 y2 y3, LeO (polyglotlaw02_Right.j0 k y0 y1 y2 y3) (polyglotlaw02_Right.j0 (k + 1) y0 y1 y2 y3)) ∧ (∀ y0 y1 y2 y3, LeO (polyglotlaw02_Right.l0 k y0 y1 y2 y3) (polyglotlaw02_Right.l0 (k + 1) y0 y1 y2 y3))
  | 0 => ⟨fun _ _ _ _ r h => by simp [polyglotlaw02_Right.j0] at h, fun _ _ _ _ r h => by simp [polyglotlaw02_Right.l0] at h⟩
  | k + 1 => by
    obtain ⟨ih0, ih1⟩ := polyglotlaw02_Right.mono_l k
    refine ⟨?_, ?_⟩
    · intro y0 y1 y2 y3
      unfold polyglotlaw02_Right.j0
      repeat' first
      | (with_reducible exact ih0 _ _ _ _)
      | (with_reducible exact ih1 _ _ _ _)
      | (with_reducible exact LeO.refl _)
      | (with_reducible exact LeO.none _)
      | (with_reducible refine LeO.ite ?_ ?_)
      | (with_reducible refine LeO.bind ?_ (fun _ => ?_))
      | exact ih0 _ _ _ _
      | exact ih1 _ _ _ _
      | exact LeO.none _
      | refine LeO.ite ?_ ?_
      | refine LeO.bind ?_ (fun _ => ?_)
    · intro y0 y1 y2 y3
      unfold polyglotlaw02_Right.l0
      repeat' first
      | (with_reducible exact ih0 _ _ _ _)
      | (with_reducible exact ih1 _ _ _ _)
      | (with_reducible exact LeO.refl _)
      | (with_reducible exact LeO.none _)
      | (with_reducible refine LeO.ite ?_ ?_)
      | (with_reducible refine LeO.bind ?_ (fun _ => ?_))
      | exact ih0 _ _ _ _
      | exact ih1 _ _ _ _
      | exact LeO.none _
      | refine LeO.ite ?_ ?_
      | refine LeO.bind ?_ (fun _ => ?_)
theorem polyglotlaw02_Right.mono : ∀ a0 a1 a2 k, LeO (polyglotlaw02_Right.f k a0 a1 a2) (polyglotlaw02_Right.f (k + 1) a0 a1 a2) := by
  intro a0 a1 a2 k
  obtain ⟨ih0, ih1⟩ := polyglotlaw02_Right.mono_l k
  unfold polyglotlaw02_Right.f
  repeat' first
      | (with_reducible exact ih0 _ _ _ _)
      | (with_reducible exact ih1 _ _ _ _)
      | (with_reducible exact LeO.refl _)
      | (with_reducible exact LeO.none _)
      | (with_reducible refine LeO.ite ?_ ?_)
      | (with_reducible refine LeO.bind ?_ (fun _ => ?_))
      | exact ih0 _ _ _ _
      | exact ih1 _ _ _ _
      | exact LeO.none _
      | refine LeO.ite ?_ ?_
      | refine LeO.bind ?_ (fun _ => ?_)
set_option maxHeartbeats 8000000 in
set_option maxRecDepth 100000 in
theorem polyglotlaw02_Right.calls (k : Nat) (a0_0 : Bool) (a0_1 : ByteArray) (a0_2 : Int) (r : Bool) (w : World) (h : polyglotlaw02_Right.f k a0_0 a0_1 a0_2 = some r) :
    Calls Tryz.prog 10 #[.agg #[.bool a0_0, .string a0_1, .int .i64 a0_2]] w fun e w' => e = .returned (.bool r) ∧ Below w.heap.size w w' := by
  have hu29 := Tryz.underlying29
  have HB := Aside0.mk (Below.refl w.heap.size w)
  have H : (if a0_2 < 0 then (polyglotlaw02_Right.j0 k true a0_0 a0_1 a0_2) else (if a0_2 ≥ (a0_1.size : Int) then (polyglotlaw02_Right.j0 k true a0_0 a0_1 a0_2) else (polyglotlaw02_Right.j0 k (decide ((a0_1.size : Int) > 60)) a0_0 a0_1 a0_2))) = some r := h
  clear h
  have HC2 := Aside0.mk H
  clear H
  go_enter Tryz.func10, Tryz.ntmps10
  go_upto_region 1 with (first | ((with_reducible refine gate_dst (N := 1) rfl ?_); (try (refine gate_guard (by rfl) ?_; dsimp only)); refine box_event ?hg (N := 1) ?hd (cs := #[.bool a0_0, .string a0_1, .int .i64 a0_2]) (t := 29) ?hr ?_; (case hd => rfl); (case hg => rfl); (case hr => first | (go_simp; done) | (go_simp; rfl)); intro gb101 hg w3 hbox hb; have n0_ := Aside0.mk (below_step (by repeat (first | (with_reducible first | exact HB.out | apply below_alloc | apply pw_below_drewN | apply below_drew1) | exact HB.out)) hb); have n1_ := Aside0.mk (hbox); have n2_ := Aside0.mk ((by rw [hg]; exact (below_size (by repeat (first | (with_reducible first | exact HB.out | apply below_alloc | apply pw_below_drewN | apply below_drew1) | exact HB.out))) : w.heap.size ≤ gb101)); have n3_ := Aside0.mk ((by rw [hg]; exact (below_size (by repeat (first | (with_reducible first | exact HB.out | apply below_alloc | apply pw_below_drewN | apply below_drew1) | exact HB.out))) : w.heap.size ≤ gb101)); clear HB; have HB := n0_; have BK101 := n1_; have GW101 := n2_; have GE101 := n3_; clear n0_ n1_ n2_ n3_; clear hb hbox hg))
  (try simp only [Act.put, List.setIfInBounds_toArray, List.set_cons_zero, List.set_cons_succ])
  go_cut [20] (fun v20 wc => ∃ (kq : Nat) (x20_1 : Bool), v20 = .bool x20_1 ∧ Aside0 (polyglotlaw02_Right.j0 kq x20_1 a0_0 a0_1 a0_2 = some r) ∧ Aside0 (kq ≤ k) ∧ Aside0 (wc.heap[gb101]? = some (.cells #[.bool a0_0, .string a0_1, .int .i64 a0_2] 29 (0, 0))) ∧ Aside0 (Below w.heap.size w wc))
  case first =>
    have H := HC2.out
    clear HC2
    by_cases c4 : a0_2 < 0
    · rw [if_pos c4] at H
      have c4b0 : decide (a0_2 < 0) = true := decide_eq_true c4
      clear c4
      (first | rw [c4b0] | (simp only [i64_w, i32_w]; rw [c4b0]) | skip)
      have H' := Aside0.mk H
      clear H
      have hcz5_0 : w3.cell? ⟨gb101, 0, none⟩ = some (.bool a0_0) := (blk_cell BK101.out 0).trans rfl
      have hcz5_1 : w3.cell? ⟨gb101, 1, none⟩ = some (.string a0_1) := (blk_cell BK101.out 1).trans rfl
      have hcz5_2 : w3.cell? ⟨gb101, 2, none⟩ = some (.int .i64 a0_2) := (blk_cell BK101.out 2).trans rfl
      have hfz5_0 := blk_frozen BK101.out 0
      have hfz5_1 := blk_frozen BK101.out 1
      have hfz5_2 := blk_frozen BK101.out 2
      go_wp2
      go_meet
      case rel => exact ⟨_, (true), (by first | rfl | (simp; done) | (simp [*]; done)), H', ⟨by first | omega | exact Nat.le_refl _⟩, ⟨by (with_reducible repeat (first | refine blk_drewN ?_ _ | refine blk_drew ?_ | refine blk_alloc ?_ _)); exact BK101.out⟩, ⟨by repeat (first | (with_reducible first | exact HB.out | apply below_alloc | apply pw_below_drewN | apply below_drew1 | refine below_set ?_ GE101.out) | exact HB.out)⟩⟩
    · rw [if_neg c4] at H
      have c4b0 : decide (a0_2 < 0) = false := decide_eq_false c4
      clear c4
      (first | rw [c4b0] | (simp only [i64_w, i32_w]; rw [c4b0]) | skip)
      by_cases c6 : a0_2 ≥ (a0_1.size : Int)
      · rw [if_pos c6] at H
        have c6b0 : decide ((a0_1.size : Int) ≤ a0_2) = true := decide_eq_true c6
        clear c6
        have H' := Aside0.mk H
        clear H
        have hcz7_0 : w3.cell? ⟨gb101, 0, none⟩ = some (.bool a0_0) := (blk_cell BK101.out 0).trans rfl
        have hcz7_1 : w3.cell? ⟨gb101, 1, none⟩ = some (.string a0_1) := (blk_cell BK101.out 1).trans rfl
        have hcz7_2 : w3.cell? ⟨gb101, 2, none⟩ = some (.int .i64 a0_2) := (blk_cell BK101.out 2).trans rfl
        have hfz7_0 := blk_frozen BK101.out 0
        have hfz7_1 := blk_frozen BK101.out 1
        have hfz7_2 := blk_frozen BK101.out 2
        go_wp2
        go_meet
        case rel => exact ⟨_, (true), (by first | rfl | (simp; done) | (simp [*]; done)), H', ⟨by first | omega | exact Nat.le_refl _⟩, ⟨by (with_reducible repeat (first | refine blk_drewN ?_ _ | refine blk_drew ?_ | refine blk_alloc ?_ _)); exact BK101.out⟩, ⟨by repeat (first | (with_reducible first | exact HB.out | apply below_alloc | apply pw_below_drewN | apply below_drew1 | refine below_set ?_ GE101.out) | exact HB.out)⟩⟩
      · rw [if_neg c6] at H
        have c6b0 : decide ((a0_1.size : Int) ≤ a0_2) = false := decide_eq_false c6
        clear c6
        have H' := Aside0.mk H
        clear H
        have hcz8_0 : w3.cell? ⟨gb101, 0, none⟩ = some (.bool a0_0) := (blk_cell BK101.out 0).trans rfl
        have hcz8_1 : w3.cell? ⟨gb101, 1, none⟩ = some (.string a0_1) := (blk_cell BK101.out 1).trans rfl
        have hcz8_2 : w3.cell? ⟨gb101, 2, none⟩ = some (.int .i64 a0_2) := (blk_cell BK101.out 2).trans rfl
        have hfz8_0 := blk_frozen BK101.out 0
        have hfz8_1 := blk_frozen BK101.out 1
        have hfz8_2 := blk_frozen BK101.out 2
        go_wp2
        go_meet
        case rel => exact ⟨_, (decide ((a0_1.size : Int) > 60)), (by first | rfl | (simp; done) | (simp [*]; done)), H', ⟨by first | omega | exact Nat.le_refl _⟩, ⟨by (with_reducible repeat (first | refine blk_drewN ?_ _ | refine blk_drew ?_ | refine blk_alloc ?_ _)); exact BK101.out⟩, ⟨by repeat (first | (with_reducible first | exact HB.out | apply below_alloc | apply pw_below_drewN | apply below_drew1 | refine below_set ?_ GE101.out) | exact HB.out)⟩⟩
  case rest =>
    clear HC2
    try clear c1
    try clear p2
    try clear c4
    try clear c4b0
    try clear c6
    try clear c6b0
    try clear hcz5_0
    try clear hcz5_1
    try clear hcz5_2
    try clear hcz7_0
    try clear hcz7_1
    try clear hcz7_2
    try clear hcz8_0
    try clear hcz8_1
    try clear hcz8_2
    try clear hfz5_0
    try clear hfz5_1
    try clear hfz5_2
    try clear hfz7_0
    try clear hfz7_1
    try clear hfz7_2
    try clear hfz8_0
    try clear hfz8_1
    try clear hfz8_2
    obtain ⟨kq, x20_1, rfl, HA, HJ1, BK101, HB⟩ := hcut
    cases kq with
    | zero => exact absurd HA.out (by simp [polyglotlaw02_Right.j0])
    | succ kj1 =>
      have H := HA.out
      clear HA
      simp only [polyglotlaw02_Right.j0] at H
      by_cases c9 : x20_1 = true
      · subst c9
        have H1 : (some false) = some r := by rw [if_pos rfl] at H; exact H
        clear H
        have H := H1
        clear H1
        obtain rfl := Option.some.inj H
        go_wp2
        go_ret
        exact ⟨by first | rfl | (simp [errW_none, errW_some] <;> rfl) | (simp [*, errW_none, errW_some] <;> rfl), by repeat (first | (with_reducible first | exact HB.out | apply below_alloc | apply pw_below_drewN | apply below_drew1 | refine below_set ?_ GE101.out) | exact HB.out)⟩
      · replace c9 := Bool.eq_false_iff.mpr c9
        subst c9
        have H1 : (polyglotlaw02_Right.l0 kj1 0 a0_0 a0_1 a0_2) = some r := by rw [if_neg (show ¬ (false = true) by decide)] at H; exact H
        clear H
        have H := H1
        clear H1
        have H' := Aside0.mk H
        clear H
        go_wp2
        go_loopg [3] kj1 (fun kq v3 w' => ∃ (x3_2 : Int), v3 = .int .i64 x3_2 ∧ Aside0 (polyglotlaw02_Right.l0 kq x3_2 a0_0 a0_1 a0_2 = some r) ∧ Aside0 (kq ≤ kj1) ∧ Aside0 (w'.heap[gb101]? = some (.cells #[.bool a0_0, .string a0_1, .int .i64 a0_2] 29 (0, 0))) ∧ Aside0 (Below w.heap.size w w'))
        case atStart => exact ⟨(0), (by first | rfl | (simp; done) | (simp [*]; done)), H', ⟨Nat.le_refl _⟩, ⟨by (with_reducible repeat (first | refine blk_drewN ?_ _ | refine blk_drew ?_ | refine blk_alloc ?_ _)); exact BK101.out⟩, ⟨by repeat (first | (with_reducible first | exact HB.out | apply below_alloc | apply pw_below_drewN | apply below_drew1 | refine below_set ?_ GE101.out) | exact HB.out)⟩⟩
        case round =>
          clear H'
          try clear c1
          try clear p2
          try clear c4
          try clear c4b0
          try clear c6
          try clear c6b0
          try clear c9
          try clear hcz5_0
          try clear hcz5_1
          try clear hcz5_2
          try clear hcz7_0
          try clear hcz7_1
          try clear hcz7_2
          try clear hcz8_0
          try clear hcz8_1
          try clear hcz8_2
          try clear hfz5_0
          try clear hfz5_1
          try clear hfz5_2
          try clear hfz7_0
          try clear hfz7_1
          try clear hfz7_2
          try clear hfz8_0
          try clear hfz8_1
          try clear hfz8_2
          try clear p2
          obtain ⟨x3_2, rfl, HA, HK2, BK101, HB⟩ := hrel
          cases gk with
          | zero => exact absurd HA.out (by simp [polyglotlaw02_Right.l0])
          | succ k2 =>
            have H := HA.out
            clear HA
            simp only [polyglotlaw02_Right.l0] at H
            by_cases c10 : x3_2 < (a0_1.size : Int)
            · rw [if_pos c10] at H
              have c10b0 : decide (x3_2 < (a0_1.size : Int)) = true := decide_eq_true c10
              clear c10
              by_cases c11 : 0 ≤ x3_2
              · rw [if_pos c11] at H
                have c11b0 : decide (0 ≤ x3_2) = true := decide_eq_true c11
                clear c11
                replace H := Option.bind_eq_some_iff.mp H
                obtain ⟨t102, A130, H⟩ := H
                replace H : (if t102 = true then (polyglotlaw02_Right.l0 k2 (wrap64 (x3_2 + 1)) a0_0 a0_1 a0_2) else (some false)) = some r := H
                have A13 := Aside0.mk A130
                clear A130
                by_cases c14 : t102 = true
                · subst c14
                  have H1 : (polyglotlaw02_Right.l0 k2 (wrap64 (x3_2 + 1)) a0_0 a0_1 a0_2) = some r := by rw [if_pos rfl] at H; exact H
                  clear H
                  have H := H1
                  clear H1
                  have H' := Aside0.mk H
                  clear H
                  have hcz15_0 : wr.cell? ⟨gb101, 0, none⟩ = some (.bool a0_0) := (blk_cell BK101.out 0).trans rfl
                  have hcz15_1 : wr.cell? ⟨gb101, 1, none⟩ = some (.string a0_1) := (blk_cell BK101.out 1).trans rfl
                  have hcz15_2 : wr.cell? ⟨gb101, 2, none⟩ = some (.int .i64 a0_2) := (blk_cell BK101.out 2).trans rfl
                  have hfz15_0 := blk_frozen BK101.out 0
                  have hfz15_1 := blk_frozen BK101.out 1
                  have hfz15_2 := blk_frozen BK101.out 2
                  have p12 : 0 ≤ (x3_2 : Int) := of_decide_eq_true (by first | (with_reducible assumption) | assumption)
                  have q12 : x3_2 < (a0_1.size : Int) := of_decide_eq_true (by first | (with_reducible assumption) | assumption)
                  have hx12 := bt_at a0_1 x3_2
                  replace p12 := eq_true p12
                  replace q12 := eq_true q12
                  go_wp2_with (first | ((with_reducible refine gate_callee (f := 21) rfl ?_); refine goesL_ (some 32) rfl rfl Tryz.func21 (by kernel_rfl) rfl #[.int .u8 (bt a0_1 x3_2)] rfl (by (try simp only [List.map_toArray, List.map_cons, List.map_nil]); first | done | rfl | (simp only [List.length_drop, List.length_take]; rfl)) ?_; (with_reducible refine (polyglotlaw02_digit.calls (bt a0_1 x3_2) true _ A13.out).mono ?_); rintro e w' ⟨rfl, ⟨nd, rfl⟩⟩; refine ⟨_, rfl, ?_⟩))
                  go_roundg k2
                  case measure => have := HJ1.out; have := HK2.out; omega
                  case rel => exact ⟨(wrap64 (x3_2 + 1)), (by first | rfl | (simp; done) | (simp [*]; done)), H', ⟨by have := HJ1.out; have := HK2.out; omega⟩, ⟨by (with_reducible repeat (first | refine blk_drewN ?_ _ | refine blk_drew ?_ | refine blk_alloc ?_ _)); exact BK101.out⟩, ⟨by repeat (first | (with_reducible first | exact HB.out | apply below_alloc | apply pw_below_drewN | apply below_drew1 | refine below_set ?_ GE101.out) | exact HB.out)⟩⟩
                · replace c14 := Bool.eq_false_iff.mpr c14
                  subst c14
                  have H1 : (some false) = some r := by rw [if_neg (show ¬ (false = true) by decide)] at H; exact H
                  clear H
                  have H := H1
                  clear H1
                  obtain rfl := Option.some.inj H
                  have hcz16_0 : wr.cell? ⟨gb101, 0, none⟩ = some (.bool a0_0) := (blk_cell BK101.out 0).trans rfl
                  have hcz16_1 : wr.cell? ⟨gb101, 1, none⟩ = some (.string a0_1) := (blk_cell BK101.out 1).trans rfl
                  have hcz16_2 : wr.cell? ⟨gb101, 2, none⟩ = some (.int .i64 a0_2) := (blk_cell BK101.out 2).trans rfl
                  have hfz16_0 := blk_frozen BK101.out 0
                  have hfz16_1 := blk_frozen BK101.out 1
                  have hfz16_2 := blk_frozen BK101.out 2
                  have p12 : 0 ≤ (x3_2 : Int) := of_decide_eq_true (by first | (with_reducible assumption) | assumption)
                  have q12 : x3_2 < (a0_1.size : Int) := of_decide_eq_true (by first | (with_reducible assumption) | assumption)
                  have hx12 := bt_at a0_1 x3_2
                  replace p12 := eq_true p12
                  replace q12 := eq_true q12
                  go_wp2_with (first | ((with_reducible refine gate_callee (f := 21) rfl ?_); refine goesL_ (some 32) rfl rfl Tryz.func21 (by kernel_rfl) rfl #[.int .u8 (bt a0_1 x3_2)] rfl (by (try simp only [List.map_toArray, List.map_cons, List.map_nil]); first | done | rfl | (simp only [List.length_drop, List.length_take]; rfl)) ?_; (with_reducible refine (polyglotlaw02_digit.calls (bt a0_1 x3_2) false _ A13.out).mono ?_); rintro e w' ⟨rfl, ⟨nd, rfl⟩⟩; refine ⟨_, rfl, ?_⟩))
                  go_ret
                  exact ⟨by first | rfl | (simp [errW_none, errW_some] <;> rfl) | (simp [*, errW_none, errW_some] <;> rfl), by repeat (first | (with_reducible first | exact HB.out | apply below_alloc | apply pw_below_drewN | apply below_drew1 | refine below_set ?_ GE101.out) | exact HB.out)⟩
              · rw [if_neg c11] at H
                exact absurd H (by simp)
            · rw [if_neg c10] at H
              have c10b0 : decide (x3_2 < (a0_1.size : Int)) = false := decide_eq_false c10
              clear c10
              by_cases c17 : 0 < (a0_1.size : Int)
              · rw [if_pos c17] at H
                have c17b0 : decide (0 < (a0_1.size : Int)) = true := decide_eq_true c17
                have c17b1 : decide (0 < a0_1.size) = true := decide_eq_true (by omega)
                clear c17
                by_cases c19 : (bt a0_1 0) = 48
                · rw [if_pos c19] at H
                  have c19b0 : ((bt a0_1 0) == 48) = true := beq_iff_eq.mpr c19
                  have c19b1 : ((bt a0_1 0) != 48) = false := bne_eq_false_iff_eq.mpr c19
                  clear c19
                  obtain rfl := Option.some.inj H
                  have hcz20_0 : wr.cell? ⟨gb101, 0, none⟩ = some (.bool a0_0) := (blk_cell BK101.out 0).trans rfl
                  have hcz20_1 : wr.cell? ⟨gb101, 1, none⟩ = some (.string a0_1) := (blk_cell BK101.out 1).trans rfl
                  have hcz20_2 : wr.cell? ⟨gb101, 2, none⟩ = some (.int .i64 a0_2) := (blk_cell BK101.out 2).trans rfl
                  have hfz20_0 := blk_frozen BK101.out 0
                  have hfz20_1 := blk_frozen BK101.out 1
                  have hfz20_2 := blk_frozen BK101.out 2
                  have p18 : 0 ≤ (0 : Int) := (by omega)
                  have q18 : 0 < a0_1.size := (by have : (0 : Int) < (a0_1.size : Int) := of_decide_eq_true (by first | (with_reducible assumption) | assumption); omega)
                  have hx18 : ∀ h : 0 < a0_1.size, ((a0_1[0]'h).toNat : Int) = bt a0_1 0 := bt_at a0_1 0
                  clear p18
                  have qi18 : (0 < (a0_1.size : Int)) = True := eq_true (of_decide_eq_true (by first | (with_reducible assumption) | assumption))
                  replace q18 := eq_true q18
                  go_wp2
                  go_ret
                  exact ⟨by first | rfl | (simp [errW_none, errW_some] <;> rfl) | (simp [*, errW_none, errW_some] <;> rfl), by repeat (first | (with_reducible first | exact HB.out | apply below_alloc | apply pw_below_drewN | apply below_drew1 | refine below_set ?_ GE101.out) | exact HB.out)⟩
                · rw [if_neg c19] at H
                  have c19b0 : ((bt a0_1 0) == 48) = false := beq_eq_false_iff_ne.mpr c19
                  have c19b1 : ((bt a0_1 0) != 48) = true := bne_iff_ne.mpr c19
                  obtain rfl := Option.some.inj H
                  have hcz21_0 : wr.cell? ⟨gb101, 0, none⟩ = some (.bool a0_0) := (blk_cell BK101.out 0).trans rfl
                  have hcz21_1 : wr.cell? ⟨gb101, 1, none⟩ = some (.string a0_1) := (blk_cell BK101.out 1).trans rfl
                  have hcz21_2 : wr.cell? ⟨gb101, 2, none⟩ = some (.int .i64 a0_2) := (blk_cell BK101.out 2).trans rfl
                  have hfz21_0 := blk_frozen BK101.out 0
                  have hfz21_1 := blk_frozen BK101.out 1
                  have hfz21_2 := blk_frozen BK101.out 2
                  have p18 : 0 ≤ (0 : Int) := (by omega)
                  have q18 : 0 < a0_1.size := (by have : (0 : Int) < (a0_1.size : Int) := of_decide_eq_true (by first | (with_reducible assumption) | assumption); omega)
                  have hx18 : ∀ h : 0 < a0_1.size, ((a0_1[0]'h).toNat : Int) = bt a0_1 0 := bt_at a0_1 0
                  clear p18
                  have qi18 : (0 < (a0_1.size : Int)) = True := eq_true (of_decide_eq_true (by first | (with_reducible assumption) | assumption))
                  replace q18 := eq_true q18
                  go_wp2
                  go_ret
                  exact ⟨by first | rfl | (simp [errW_none, errW_some] <;> rfl) | (simp [*, errW_none, errW_some] <;> rfl), by repeat (first | (with_reducible first | exact HB.out | apply below_alloc | apply pw_below_drewN | apply below_drew1 | refine below_set ?_ GE101.out) | exact HB.out)⟩
              · rw [if_neg c17] at H
                exact absurd H (by simp)
end Go.Proofs.YtajgnkncdkibeaaGreatDoor.R

namespace Go.Proofs.YtajgnkncdkibeaaGreatDoor.P
open Go.RowKit Go.Proofs.YtajgnkncdkibeaaGreatDoor.G Go.Proofs.YtajgnkncdkibeaaGreatDoor.U Go.Proofs.YtajgnkncdkibeaaGreatDoor.R Go.Proofs.YtajgnkncdkibeaaGreatDoorW.PrintWords Go.Proofs.YtajgnkncdkibeaaGreatDoorW.PrintLast Go.Proofs.YtajgnkncdkibeaaGreatDoorW.PrintMore
attribute [local go_sem] max2_int min2_int max_two min_two max_three min_three max_four min_four
set_option linter.unusedVariables false
set_option linter.unusedSimpArgs false
def errW : Option Int → Value
  | none => .nilIface
  | some c => .iface 0 (.int .i64 c)
theorem errW_none : errW none = .nilIface := rfl
theorem errW_some (c : Int) : errW (some c) = .iface 0 (.int .i64 c) := rfl
structure S29 where
  f0 : Bool
  f1 : ByteArray
  f2 : Int
def z29 : S29 := ⟨false, (⟨#[]⟩ : ByteArray), (0 : Int)⟩
def k29 : Kd S29 := Kd.iso (Kd.pair Kd.bool (Kd.pair Kd.string (Kd.int .i64))) (fun x : S29 => (x.f0, x.f1, x.f2))
theorem k29_open {w : World} {x : S29} {cs : List Value} (h : k29.K w x cs) : cs = [.bool x.f0, .string x.f1, .int .i64 x.f2] := by
  obtain ⟨_, _, rfl, rfl, ⟨_, _, rfl, rfl, rfl⟩⟩ := h
  exact rfl
theorem k29_mk (w : World) (x : S29)  : k29.K w x [.bool x.f0, .string x.f1, .int .i64 x.f2] := ⟨[.bool x.f0], [.string x.f1, .int .i64 x.f2], rfl, rfl, ⟨[.string x.f1], [.int .i64 x.f2], rfl, rfl, rfl⟩⟩
structure S31 where
  f0 : ByteArray
  f1 : ByteArray
  f2 : S29
  f3 : Bool
def z31 : S31 := ⟨(⟨#[]⟩ : ByteArray), (⟨#[]⟩ : ByteArray), z29, false⟩
def k31 : Kd S31 := Kd.iso (Kd.pair Kd.string (Kd.pair Kd.string (Kd.pair k29 Kd.bool))) (fun x : S31 => (x.f0, x.f1, x.f2, x.f3))
theorem k31_open {w : World} {x : S31} {cs : List Value} (h : k31.K w x cs) : cs = [.string x.f0, .string x.f1, .bool x.f2.f0, .string x.f2.f1, .int .i64 x.f2.f2, .bool x.f3] := by
  obtain ⟨_, _, rfl, rfl, ⟨_, _, rfl, rfl, ⟨_, _, rfl, s2, rfl⟩⟩⟩ := h
  obtain rfl := k29_open s2
  exact rfl
theorem k31_mk (w : World) (x : S31)  : k31.K w x [.string x.f0, .string x.f1, .bool x.f2.f0, .string x.f2.f1, .int .i64 x.f2.f2, .bool x.f3] := ⟨[.string x.f0], [.string x.f1, .bool x.f2.f0, .string x.f2.f1, .int .i64 x.f2.f2, .bool x.f3], rfl, rfl, ⟨[.string x.f1], [.bool x.f2.f0, .string x.f2.f1, .int .i64 x.f2.f2, .bool x.f3], rfl, rfl, ⟨[.bool x.f2.f0, .string x.f2.f1, .int .i64 x.f2.f2], [.bool x.f3], rfl, (k29_mk w x.f2 ), rfl⟩⟩⟩
def rd_T31 (xs : List S31) (i : Int) : S31 := xs.getD i.toNat z31
theorem at_T31 {w : World} {A : Option Addr} {n : Nat} {xs : List S31} (h : Kd.C k31 w A n xs) (i : Int) (h0 : 0 ≤ i) (h1 : i < n) : ∃ ad , A = some ad ∧ w.cell? (ad.add (i.toNat * 6)) = some (.string (rd_T31 xs i).f0) ∧ w.cell? ⟨(ad.add (i.toNat * 6)).block, (ad.add (i.toNat * 6)).off + 1, none⟩ = some (.string (rd_T31 xs i).f1) ∧ w.cell? ⟨(ad.add (i.toNat * 6)).block, (ad.add (i.toNat * 6)).off + 2, none⟩ = some (.bool (rd_T31 xs i).f2.f0) ∧ w.cell? ⟨(ad.add (i.toNat * 6)).block, (ad.add (i.toNat * 6)).off + 3, none⟩ = some (.string (rd_T31 xs i).f2.f1) ∧ w.cell? ⟨(ad.add (i.toNat * 6)).block, (ad.add (i.toNat * 6)).off + 4, none⟩ = some (.int .i64 (rd_T31 xs i).f2.f2) ∧ w.cell? ⟨(ad.add (i.toNat * 6)).block, (ad.add (i.toNat * 6)).off + 5, none⟩ = some (.bool (rd_T31 xs i).f3) := by
  obtain ⟨ad, c, e, _, hK, hc0⟩ := Kd.C_get h z31 i h0 h1
  have hc : ∀ j u, c[j]? = some u → w.cell? (ad.add (i.toNat * 6 + j)) = some u := hc0
  obtain rfl := k31_open hK
  exact ⟨ad, e, hc 0 _ rfl, by rw [← add_field _ _ 1 (by omega)]; exact hc 1 _ rfl, by rw [← add_field _ _ 2 (by omega)]; exact hc 2 _ rfl, by rw [← add_field _ _ 3 (by omega)]; exact hc 3 _ rfl, by rw [← add_field _ _ 4 (by omega)]; exact hc 4 _ rfl, by rw [← add_field _ _ 5 (by omega)]; exact hc 5 _ rfl⟩
structure S26 where
  f0 : Int
  f1 : Int
  f2 : Int
  f3 : Bool
  f4 : Bool
end Go.Proofs.YtajgnkncdkibeaaGreatDoor.P
namespace Go.Proofs.YtajgnkncdkibeaaGreatDoor.E
open Go.ChangeShapes Go.WideShapes Go.ChangeAt Go.RowKit Go.Joins Go.Deep Go.Proofs.YtajgnkncdkibeaaGreatDoor.P Go.Proofs.YtajgnkncdkibeaaGreatDoorW.PrintWords
set_option linter.unusedVariables false
theorem own : ownKnob Tryz.prog.godebug = none := by kernel_rfl
theorem laidOut : laidOutB Tryz.prog = true := by kernel_rfl
theorem args_below {P : Program} (hl : laidOutB P = true) {H : Type} {enc : TypeId × Value → H} {W W' : World} (hb : Below W.heap.size W W') : ∀ (ts : List TypeId) (vs : List Value) (ds : List (DataW H)) (ps : List MemPlace),
    (∀ t ∈ ts, P.readableRec t = true ∧ t < P.types.size) → DataW.TrodAll enc P W 0 (fun _ => true) true ts vs ds ps → (∀ x ∈ ps, x.block < W.heap.size) →
    DataW.TrodAll enc P W' 0 (fun b => decide (b < W.heap.size)) true ts vs ds ps
  | [], [], [], ps, _, h, _ => h
  | t :: ts, v :: vs, d :: ds, ps, hr, h, hlt => by
    obtain ⟨p, q, h0, h1, rfl⟩ := h
    exact ⟨p, q, Below.trod hl (hr t (.head _)).1 (hr t (.head _)).2 h0 hb (fun x hx => hlt x (List.mem_append.2 (Or.inl hx))), args_below hl hb ts vs ds q (fun t ht => hr t (.tail _ ht)) h1 (fun x hx => hlt x (List.mem_append.2 (Or.inr hx))), rfl⟩
  | [], _ :: _, _, _, _, h, _ => h.elim
  | _ :: _, [], _, _, _, h, _ => h.elim
  | [], [], _ :: _, _, _, h, _ => h.elim
  | _ :: _, _ :: _, [], _, _, h, _ => h.elim
noncomputable def laidWorld (os : Os) : World :=
  let w0 := World.holding Tryz.prog os ⟨#[], #[], []⟩
  let put (h : Array Obj) (g : Nat) (cs : Array Value) : Array Obj := h.modify g fun
    | .cells _ t frozen => .cells cs t frozen
    | o => o
  let n := w0.heap.size
  let h1 := put w0.heap 2 (Lib.firstTab.map fun z => Value.int .u8 z).toArray
  let h2 := put h1 3 ((List.range 16).flatMap fun i => [Value.int .u8 (Lib.accLo i), Value.int .u8 (Lib.accHi i)]).toArray
  let h3 := put h2 0 #[.iface 154 (.pointer (some ⟨n, 0, none⟩))]
  let h4 := h3.push (.cells #[.string ⟨#[98, 121, 116, 101, 115, 46, 66, 117, 102, 102, 101, 114, 58, 32, 116, 111, 111, 32, 108, 97, 114, 103, 101]⟩] 168 (0, 0))
  { w0 with heap := h4 }
theorem dec_cells : Tryz.prog.cellsOf 29 = 3 := by kernel_rfl
theorem list_of {α : Type} {p : Nat → α → Prop} : ∀ {n : Nat}, (∀ i, i < n → ∃ x, p i x) → ∃ l : List α, l.length = n ∧ ∀ i x, l[i]? = some x → p i x
  | 0, _ => ⟨[], rfl, fun i x h => by simp at h⟩
  | n + 1, h => by
    obtain ⟨l, h1, h2⟩ := list_of (p := p) (n := n) (fun i hi => h i (by omega))
    obtain ⟨x, hx⟩ := h n (by omega)
    refine ⟨l ++ [x], by simp [h1], fun i y hy => ?_⟩
    by_cases hi : i < l.length
    · rw [List.getElem?_append_left hi] at hy
      exact h2 i y hy
    · rw [List.getElem?_append_right (by omega)] at hy
      have hz : i - l.length = 0 := by
        have := (List.getElem?_eq_some_iff.1 hy).1
        simp at this
        omega
      rw [hz] at hy
      obtain rfl : x = y := by simpa using hy
      obtain rfl : i = n := by omega
      exact hx
theorem add_add (a : Addr) (m n : Nat) : (a.add m).add n = a.add (m + n) := by
  unfold Addr.add
  by_cases hm : m = 0
  · subst hm
    simp
  · by_cases hn : n = 0
    · subst hn
      simp [hm]
    · rw [if_neg hm, if_neg hn, if_neg (by omega)]
      simp [Nat.add_assoc]
section
variable {H : Type} {enc : TypeId × Value → H} {P : Program} {w : World} {base : Nat} {spare : Nat → Bool} {held : Bool}
def Fits (P : Program) (t : TypeId) (d : DataW H) : Prop := ∀ n ∈ d.weights P t, n ≤ 281474976710656
theorem weightsAll_mem {e : TypeId} : ∀ {l : List (DataW H)} {d : DataW H}, d ∈ l → ∀ n ∈ d.weights P e, n ∈ DataW.weightsAll P e l
  | a :: r, d, h, n, hn => by
    rw [DataW.weightsAll]
    rcases List.mem_cons.1 h with rfl | h
    · exact List.mem_append_left _ hn
    · exact List.mem_append_right _ (weightsAll_mem h n hn)
theorem open_rows {α : Type} (K : α → List Value → Prop) (Q : α → Prop) (sz : Nat) {t e : TypeId} (ht : P.underlying t = some (.slice e)) (hc : P.cellsOf e = sz) (hB : 0 < P.bytesOf e)
    (hel : ∀ n cs y, DataW.trod enc P w base spare held n e cs = some y → Fits P e y.1 → ∃ x, K x cs ∧ Q x) {fuel : Nat} {cs : List Value} {x : DataW H × List MemPlace} (h : DataW.trod enc P w base spare held fuel t cs = some x) (hf : Fits P t x.1) :
    ∃ (A : Option Addr) (c : Nat) (l : List α), cs = [.slice A l.length c] ∧ l.length ≤ c ∧ ReadsRow K sz w A l.length l ∧ l.length ≤ 281474976710656 ∧ ∀ y ∈ l, Q y := by
  rcases open_slice ht h with ⟨rfl, _⟩ | ⟨a, len, cap, m, n, D, Pl, rfl, hb, hl, hm, hmm, rfl, hx⟩
  · exact ⟨none, 0, [], rfl, Nat.le_refl _, ⟨rfl, Nat.zero_le _, fun hn => absurd hn (Nat.lt_irrefl _)⟩, Nat.zero_le _, fun y hy => by cases hy⟩
  · have hlm : len ≤ m := by rw [hmm]; split <;> omega
    have ew : ∀ es sp : List (DataW H), (DataW.slice es sp).weights P t = (es.length + sp.length) * P.bytesOf e :: (DataW.weightsAll P e es ++ DataW.weightsAll P e sp) := fun es sp => by simp [DataW.weights, ht]
    unfold Fits at hf
    rw [ew] at hf
    have hlen := hf _ (.head _)
    rw [List.length_map, List.length_range] at hlen
    have hle : len ≤ 281474976710656 := Nat.le_trans (Nat.le_trans (Nat.le_mul_of_pos_right len hB) (Nat.mul_le_mul_right _ (Nat.le_add_right _ _))) hlen
    obtain ⟨l, h1, h2⟩ := list_of (p := fun i x => ∃ cs', cs'.length = sz ∧ K x cs' ∧ Q x ∧ ∀ j u, cs'[j]? = some u → w.cell? (a.add (i * sz + j)) = some u) (n := len) (fun i hi => by
      obtain ⟨cs', e1, e2⟩ := hx i (by omega)
      rw [hc] at e1
      obtain ⟨_, g1, g2⟩ := World.cells?_some e1
      obtain ⟨x, k1, k2⟩ := hel n cs' _ e2 (fun q hq => hf q (.tail _ (List.mem_append_left _ (weightsAll_mem (List.mem_map_of_mem (List.mem_range.2 hi)) q hq))))
      refine ⟨x, cs', g1, k1, k2, fun j u hu => ?_⟩
      have hj := (List.getElem?_eq_some_iff.1 hu).1
      rw [← add_add, g2 j (by omega), hu])
    subst h1
    refine ⟨some a, cap, l, rfl, hl, ⟨rfl, by omega, fun _ => ⟨a, rfl, fun j p hp => ?_⟩⟩, hle, fun y hy => ?_⟩
    · obtain ⟨cs', g1, g2, _, g3⟩ := h2 j p hp
      exact ⟨cs', g1, g2, g3⟩
    · obtain ⟨i, hi, rfl⟩ := List.getElem_of_mem hy
      obtain ⟨_, _, _, g, _⟩ := h2 i _ (List.getElem?_eq_getElem hi)
      exact g
end
section
variable {H : Type} {enc : TypeId × Value → H} {w : World} {base : Nat} {spare : Nat → Bool} {held : Bool}
theorem trod_fieldsG {P : Program} {t : TypeId} {fs : Array Field} {fuel : Nat} {cs : List Value} {x : DataW H × List MemPlace} (ht : P.underlying t = some (.struct fs)) (h : DataW.trod enc P w base spare held fuel t cs = some x) (hq : Fits P t x.1) :
    cs.length = P.cellsOf t ∧ ∃ n, ∀ (i : Nat) (f : Field), fs[i]? = some f → ∃ y, DataW.trod enc P w base spare held n f.type ((cs.drop f.offset).take (P.cellsOf f.type)) = some y ∧ Fits P f.type y.1 := by
  obtain ⟨xs, n, _, rfl, hl, hlen, hf⟩ := DataW.trod_struct ht h
  refine ⟨hl, n, fun i f hi => ?_⟩
  have hlt : i < fs.size := (Array.getElem?_eq_some_iff.1 hi).1
  have := hf i f hi
  rw [List.getElem?_eq_getElem (by omega)] at this
  have ew : ∀ ps : List (DataW H), (DataW.agg ps).weights P t = DataW.weightsEach P (fs.toList.map (·.type)) ps := fun ps => by simp [DataW.weights, ht]
  unfold Fits at hq
  rw [ew] at hq
  refine ⟨_, this, fun q hq' => hq q (DataW.weights_mem_each (j := i) (t := f.type) (d := (xs[i]'(by omega)).1) ?_ ?_ q hq')⟩
  · rw [List.getElem?_map, Array.getElem?_toList, hi]
    rfl
  · rw [List.getElem?_map, List.getElem?_eq_getElem (by omega)]
    rfl
theorem list6 {α : Type} {l : List α} (h : l.length = 6) : ∃ a b c d e f, l = [a, b, c, d, e, f] := by
  match l, h with
  | [a, b, c, d, e, f], _ => exact ⟨a, b, c, d, e, f, rfl⟩
theorem str_fits {n : Nat} {cs : List Value} {y : DataW H × List MemPlace} (h : DataW.trod enc Tryz.prog w base spare held n 9 cs = some y) (hf : Fits Tryz.prog 9 y.1) : ∃ s : ByteArray, cs = [.string s] ∧ s.size ≤ 281474976710656 := by
  obtain ⟨s, e, rfl, hs⟩ := DataW.trod_string Tryz.underlying9 h
  exact ⟨s, e, hf s.data.toList.length (by simp [DataW.weights])⟩
theorem str_cells : Tryz.prog.cellsOf 9 = 1 := by kernel_rfl
theorem bool_cells : Tryz.prog.cellsOf 4 = 1 := by kernel_rfl
theorem opt_cells6 : Tryz.prog.cellsOf 31 = 6 := by kernel_rfl
set_option maxRecDepth 100000 in
theorem opt_bytes : 0 < Tryz.prog.bytesOf 31 := by decide +kernel
def OptIn (p : S31) : Prop := p.f0.size ≤ 281474976710656 ∧ p.f1.size ≤ 281474976710656
set_option maxRecDepth 100000 in
theorem opt_at (n : Nat) (cs : List Value) (y : DataW H × List MemPlace) (h : DataW.trod enc Tryz.prog w base spare held n 31 cs = some y) (hq : Fits Tryz.prog 31 y.1) : ∃ x, k31.K w x cs ∧ OptIn x := by
  obtain ⟨hl, m, hf⟩ := trod_fieldsG Tryz.underlying31 h hq
  rw [opt_cells6] at hl
  obtain ⟨c0, c1, c2, c3, c4, c5, rfl⟩ := list6 hl
  obtain ⟨y0, h0, f0⟩ := hf 0 _ rfl
  obtain ⟨y1, h1, f1⟩ := hf 1 _ rfl
  obtain ⟨y2, h2, f2⟩ := hf 2 _ rfl
  obtain ⟨y3, h3, f3⟩ := hf 3 _ rfl
  change DataW.trod enc Tryz.prog w base spare held m 9 (([c0, c1, c2, c3, c4, c5].drop 0).take (Tryz.prog.cellsOf 9)) = some y0 at h0
  change DataW.trod enc Tryz.prog w base spare held m 9 (([c0, c1, c2, c3, c4, c5].drop 1).take (Tryz.prog.cellsOf 9)) = some y1 at h1
  change DataW.trod enc Tryz.prog w base spare held m 29 (([c0, c1, c2, c3, c4, c5].drop 2).take (Tryz.prog.cellsOf 29)) = some y2 at h2
  change DataW.trod enc Tryz.prog w base spare held m 4 (([c0, c1, c2, c3, c4, c5].drop 5).take (Tryz.prog.cellsOf 4)) = some y3 at h3
  rw [str_cells] at h0 h1
  rw [dec_cells] at h2
  rw [bool_cells] at h3
  obtain ⟨s0, e0, z0⟩ := str_fits h0 f0
  obtain ⟨s1, e1, z1⟩ := str_fits h1 f1
  obtain ⟨hl2, m2, hf2⟩ := trod_fieldsG Tryz.underlying29 h2 f2
  obtain ⟨y4, h4, f4⟩ := hf2 0 _ rfl
  obtain ⟨y5, h5, f5⟩ := hf2 1 _ rfl
  obtain ⟨y6, h6, f6⟩ := hf2 2 _ rfl
  change DataW.trod enc Tryz.prog w base spare held m2 4 (((([c0, c1, c2, c3, c4, c5].drop 2).take 3).drop 0).take (Tryz.prog.cellsOf 4)) = some y4 at h4
  change DataW.trod enc Tryz.prog w base spare held m2 9 (((([c0, c1, c2, c3, c4, c5].drop 2).take 3).drop 1).take (Tryz.prog.cellsOf 9)) = some y5 at h5
  change DataW.trod enc Tryz.prog w base spare held m2 3 (((([c0, c1, c2, c3, c4, c5].drop 2).take 3).drop 2).take (Tryz.prog.cellsOf 3)) = some y6 at h6
  have int_cells : Tryz.prog.cellsOf 3 = 1 := by kernel_rfl
  rw [bool_cells] at h4
  rw [str_cells] at h5
  rw [int_cells] at h6
  obtain ⟨b4, e4, _⟩ := DataW.trod_bool Tryz.underlying4 h4
  obtain ⟨s5, e5, _⟩ := DataW.trod_string Tryz.underlying9 h5
  obtain ⟨k6, e6, _, _⟩ := DataW.trod_int Tryz.underlying3 h6
  obtain ⟨b3, e3, _⟩ := DataW.trod_bool Tryz.underlying4 h3
  simp at e0 e1 e3 e4 e5 e6
  subst e0 e1 e3 e4 e5 e6
  exact ⟨⟨s0, s1, ⟨b4, s5, k6⟩, b3⟩, k31_mk w ⟨s0, s1, ⟨b4, s5, k6⟩, b3⟩, z0, z1⟩
end
set_option maxRecDepth 100000 in
theorem open_opts {H : Type} {enc : TypeId × Value → H} {W : World} {base : Nat} {v : Value} {d : DataW H} {p : List MemPlace} (hval : Value.okWide Tryz.prog W .any base 22 v) (h : DataW.Trod enc Tryz.prog W 0 (fun _ => true) true 22 v d p) (hq : Fits Tryz.prog 22 d) :
    ∃ (A : Option Addr) (c : Nat) (l : List S31), v = .slice A l.length c ∧ l.length ≤ c ∧ Kd.C k31 W A l.length l ∧ l.length ≤ 281474976710656 ∧ ∀ s ∈ l, OptIn s := by
  obtain ⟨a, len, cap, rfl⟩ := okWide_slice Tryz.underlying22 hval
  obtain ⟨fuel, hf⟩ := h
  obtain ⟨A, c, l, e, hc, hC, hz, hQ⟩ := open_rows (k31.K W) OptIn 6 Tryz.underlying22 opt_cells6 opt_bytes (opt_at (enc := enc)) hf hq
  simp [Value.cells] at e
  obtain ⟨rfl, rfl, rfl⟩ := e
  exact ⟨a, cap, l, rfl, hc, hC, hz, hQ⟩
end Go.Proofs.YtajgnkncdkibeaaGreatDoor.E
namespace Go.Proofs.YtajgnkncdkibeaaGreatDoor.PN
open Go.RowKit Go.Proofs.YtajgnkncdkibeaaGreatDoor Go.Proofs.YtajgnkncdkibeaaGreatDoor.G Go.Proofs.YtajgnkncdkibeaaGreatDoor.R Go.Proofs.YtajgnkncdkibeaaGreatDoorW.PrintWords
set_option linter.unusedVariables false
set_option linter.unusedSimpArgs false
theorem w64 (x : Int) (h0 : -9223372036854775808 ≤ x) (h1 : x ≤ 9223372036854775807) : wrap64 x = x := by unfold wrap64; omega
theorem bt_at (s : ByteArray) (i : Nat) (h : i < s.size) : bt s (i : Int) = (s[i]'h).toNat := by
  unfold bt
  rw [Int.toNat_natCast, dif_pos h]
def Dig (D : ByteArray) : Prop := ∀ j (h : j < D.size), 48 ≤ (D[j]'h).toNat ∧ (D[j]'h).toNat ≤ 57
theorem digB_of {D : ByteArray} (h : Dig D) : digB D = true := by
  refine List.all_eq_true.2 fun c hc => ?_
  obtain ⟨i, hi, rfl⟩ := List.getElem_of_mem hc
  have h2 : 48 ≤ (D.data.toList[i]'hi).toNat ∧ (D.data.toList[i]'hi).toNat ≤ 57 := h i (by rw [Lib.size_eq]; exact hi)
  show (decide _ && decide _) = true
  rw [decide_eq_true h2.1, decide_eq_true h2.2]
  rfl
def Norm (D : ByteArray) (s : Int) : Prop := (D.size : Int) = s + 1 ∨ ∀ h : 0 < D.size, (D[0]'h).toNat ≠ 48
theorem digit_f (c : Nat) : polyglotlaw02_digit.f (c : Int) = some (decide (48 ≤ c) && decide (c ≤ 57)) := by
  unfold polyglotlaw02_digit.f
  by_cases h : 48 ≤ c
  · rw [if_pos (by omega), decide_eq_true h, Bool.true_and]
    exact congrArg some (by rw [decide_eq_decide]; omega)
  · rw [if_neg (by omega), decide_eq_false h, Bool.false_and]
theorem right_loop (n : Bool) (D : ByteArray) (sc : Int) (h60 : D.size ≤ 60) (h0 : 0 < D.size) (s0 : 0 ≤ sc) (s1 : sc < D.size) : ∀ (d i : Nat), D.size - i ≤ d → i ≤ D.size → (∀ j (h : j < D.size), j < i → 48 ≤ (D[j]'h).toNat ∧ (D[j]'h).toNat ≤ 57) →
    ∃ b, polyglotlaw02_Right.l0 (d + 1) (i : Int) n D sc = some b ∧ (b = true → Dig D ∧ Norm D sc) := by
  have fin : ∀ (i k : Nat), D.size ≤ i → (∀ j (h : j < D.size), j < i → 48 ≤ (D[j]'h).toNat ∧ (D[j]'h).toNat ≤ 57) → ∃ b, polyglotlaw02_Right.l0 (k + 1) (i : Int) n D sc = some b ∧ (b = true → Dig D ∧ Norm D sc) := by
    intro i k h1 h3
    have hd : Dig D := fun j hj => h3 j hj (by omega)
    have hb := bt_at D 0 h0
    rw [Int.natCast_zero] at hb
    rw [polyglotlaw02_Right.l0, if_neg (by omega), if_pos (by omega), hb]
    split
    · refine ⟨_, rfl, fun h => ⟨hd, .inl ?_⟩⟩
      rw [beq_iff_eq, w64 _ (by omega) (by omega)] at h
      exact h
    · rename_i hne
      exact ⟨_, rfl, fun _ => ⟨hd, .inr fun _ => by omega⟩⟩
  intro d
  induction d with
  | zero => intro i h1 h2 h3; exact fin i 0 (by omega) h3
  | succ d ih =>
    intro i h1 h2 h3
    by_cases hi : i < D.size
    · rw [polyglotlaw02_Right.l0, if_pos (by omega), if_pos (by omega), bt_at D i hi, digit_f, Option.bind_some]
      by_cases hg : (decide (48 ≤ (D[i]'hi).toNat) && decide ((D[i]'hi).toNat ≤ 57)) = true
      · rw [if_pos hg, w64 _ (by omega) (by omega), show (i : Int) + 1 = ((i + 1 : Nat) : Int) by omega]
        refine ih (i + 1) (by omega) (by omega) ?_
        intro j hj hji
        by_cases e : j = i
        · subst e; simpa using hg
        · exact h3 j hj (by omega)
      · rw [if_neg hg]
        exact ⟨false, rfl, fun h => by cases h⟩
    · exact fin i (d + 1) (by omega) h3
theorem right_ok (n : Bool) (D : ByteArray) (sc : Int) (k : Nat) (hk : 100 ≤ k) : ∃ b, polyglotlaw02_Right.f k n D sc = some b ∧ (b = true → okN D sc = true ∧ Norm D sc) := by
  obtain ⟨j, rfl⟩ : ∃ j, k = j + 61 + 1 := ⟨k - 62, by omega⟩
  have hj : ∀ x, polyglotlaw02_Right.j0 (j + 61 + 1) true n D x = some false := fun x => by rw [polyglotlaw02_Right.j0, if_pos rfl]
  unfold polyglotlaw02_Right.f
  by_cases h1 : sc < 0
  · rw [if_pos h1, hj]; exact ⟨false, rfl, fun h => by cases h⟩
  rw [if_neg h1]
  by_cases h2 : sc ≥ D.size
  · rw [if_pos h2, hj]; exact ⟨false, rfl, fun h => by cases h⟩
  rw [if_neg h2]
  by_cases h3 : D.size > 60
  · rw [show decide ((D.size : Int) > 60) = true from decide_eq_true (by omega), hj]; exact ⟨false, rfl, fun h => by cases h⟩
  rw [show decide ((D.size : Int) > 60) = false from decide_eq_false (by omega), polyglotlaw02_Right.j0, if_neg (by decide)]
  obtain ⟨b, hb, hd⟩ := right_loop n D sc (by omega) (by omega) (by omega) (by omega) (j + 60) 0 (by omega) (by omega) (fun _ _ h => by omega)
  refine ⟨b, hb, fun h => ⟨?_, (hd h).2⟩⟩
  unfold okN
  rw [digB_of (hd h).1, decide_eq_true (by omega), decide_eq_true (by omega), decide_eq_true (by omega)]
  rfl
theorem tz_spec (d : ByteArray) : ∀ f i, f ≤ i → (∀ j, tz d f i ≤ j → j < i → d.data.toList[j]? = some 48) ∧ (tz d f i = i - f ∨ d.data.toList[tz d f i - 1]? ≠ some 48)
  | 0, i, _ => ⟨fun j h1 h2 => by unfold tz at h1; omega, .inl rfl⟩
  | f + 1, i, hf => by
    unfold tz
    by_cases h : d.data.toList[i - 1]? = some 48
    · rw [if_pos h]
      obtain ⟨h1, h2⟩ := tz_spec d f (i - 1) (by omega)
      refine ⟨fun j h3 h4 => ?_, ?_⟩
      · by_cases e : j = i - 1
        · rw [e]; exact h
        · exact h1 j h3 (by omega)
      · rcases h2 with h2 | h2
        · exact .inl (by omega)
        · exact .inr h2
    · rw [if_neg h]
      exact ⟨fun j h1 h2 => by omega, .inr h⟩
theorem big_true {F : Nat → Int} {p : Nat} : ∀ {i : Nat}, p < i → 0 < F p → (p < 98 ∨ 99 < p) → bigB F i = true
  | 0, h, _, _ => by omega
  | i + 1, h, h1, h2 => by
    unfold bigB
    by_cases e : p = i
    · subst e
      rw [decide_eq_true h1]
      rcases h2 with h2 | h2
      · rw [decide_eq_true h2]; simp
      · rw [decide_eq_true h2]; simp
    · rw [big_true (by omega) h1 h2]; rfl
theorem big_false {F : Nat → Int} : ∀ {i : Nat}, (∀ p, p < i → (p < 98 ∨ 99 < p) → ¬ 0 < F p) → bigB F i = false
  | 0, _ => rfl
  | i + 1, h => by
    unfold bigB
    rw [big_false (fun p hp => h p (by omega)), Bool.false_or]
    by_cases h1 : 0 < F i
    · have := fun hh => h i (by omega) hh h1
      rw [decide_eq_false (fun h2 => this (.inl h2)), decide_eq_false (fun h2 => this (.inr h2))]
      simp
    · rw [decide_eq_false h1]; rfl
theorem dg_wh (n : Bool) (A : List UInt8) (s : Nat) (hs : s < A.length) (h60 : A.length ≤ 60) (hd : ∀ c ∈ A, 48 ≤ c.toNat ∧ c.toNat ≤ 57) (hn : A.length = s + 1 ∨ A[0]? ≠ some 48) :
    dgV n (trE ⟨A.toArray⟩ s) (trK ⟨A.toArray⟩ s) = whoV n (fixD A (A.length - s) A.length) := by
  have hz : (⟨A.toArray⟩ : ByteArray).size = A.length := rfl
  obtain ⟨h1, h2⟩ := tz_spec ⟨A.toArray⟩ s A.length (by omega)
  have h3 := tz_le ⟨A.toArray⟩ s A.length
  have h4 := tz_ge ⟨A.toArray⟩ s A.length
  unfold dgV trE trK
  rw [hz]
  generalize tz ⟨A.toArray⟩ s A.length = R at *
  change ∀ j, R ≤ j → j < A.length → A[j]? = some 48 at h1
  change R = A.length - s ∨ A[R - 1]? ≠ some 48 at h2
  have hel : (⟨A.toArray⟩ : ByteArray).extract 0 R = ⟨(A.take R).toArray⟩ := by
    apply ByteArray.ext
    apply Array.ext'
    have := Lib.extract_data ⟨A.toArray⟩ 0 R
    rw [this]
    simp
  rw [hel]
  have hF : ∀ p, fixD A (A.length - s) A.length p = if 100 - (A.length - s) ≤ p ∧ p < 100 - (A.length - s) + A.length then ((A.getD (p - (100 - (A.length - s))) 0).toNat : Int) - 48 else 0 := fun p => rfl
  have hpos : ∀ j (hj : j < A.length), A[j]? ≠ some 48 → 0 < fixD A (A.length - s) A.length (100 - (A.length - s) + j) := by
    intro j hj hne
    have hc := hd _ (List.getElem_mem hj)
    rw [hF, if_pos (by omega), show 100 - (A.length - s) + j - (100 - (A.length - s)) = j by omega, List.getD_eq_getElem?_getD, List.getElem?_eq_getElem hj, Option.getD_some]
    have : A[j].toNat ≠ 48 := fun e => hne (by rw [List.getElem?_eq_getElem hj]; exact congrArg some (UInt8.toNat_inj.1 e))
    omega
  have hzero : ∀ j, A[j]? = some 48 → fixD A (A.length - s) A.length (100 - (A.length - s) + j) = 0 := by
    intro j hj
    obtain ⟨hj2, e⟩ := List.getElem?_eq_some_iff.1 hj
    rw [hF, if_pos (by omega), show 100 - (A.length - s) + j - (100 - (A.length - s)) = j by omega, List.getD_eq_getElem?_getD, hj]
    rfl
  have hsz : (⟨(A.take R).toArray⟩ : ByteArray).size = R := by show (A.take R).length = R; rw [List.length_take]; omega
  rw [hsz]
  show (if 0 < s - (A.length - R) then (-1 : Int) else if 2 < R then -1 else if (n && !(Lib.trimB (A.take R) 48).isEmpty) = true then -1 else nuL (A.take R)) = _
  by_cases c1 : 0 < s - (A.length - R)
  · rw [if_pos c1]
    unfold whoV
    rcases h2 with h2 | h2
    · omega
    · rw [if_pos (big_true (p := 100 - (A.length - s) + (R - 1)) (by omega) (hpos (R - 1) (by omega) h2) (by omega))]
  rw [if_neg c1]
  have hR : R = A.length - s := by omega
  by_cases c2 : 2 < R
  · rw [if_pos c2]
    unfold whoV
    rcases hn with hn | hn
    · omega
    · rw [if_pos (big_true (p := 100 - (A.length - s) + 0) (by omega) (hpos 0 (by omega) hn) (by omega))]
  rw [if_neg c2]
  have hbig : bigB (fixD A (A.length - s) A.length) 200 = false := by
    refine big_false fun p hp hq h0 => ?_
    by_cases hr : 100 - (A.length - s) ≤ p ∧ p < 100 - (A.length - s) + A.length
    · have := hzero (p - (100 - (A.length - s))) (h1 _ (by omega) (by omega))
      rw [show 100 - (A.length - s) + (p - (100 - (A.length - s))) = p by omega] at this
      omega
    · rw [hF, if_neg hr] at h0; omega
  have hw : whoV n (fixD A (A.length - s) A.length) = if (n && decide (0 < 10 * fixD A (A.length - s) A.length 98 + fixD A (A.length - s) A.length 99)) = true then -1 else 10 * fixD A (A.length - s) A.length 98 + fixD A (A.length - s) A.length 99 := by
    unfold whoV
    rw [if_neg (by rw [hbig]; decide)]
  rw [hw]
  clear hw hbig hpos hzero h1 h2 h3 h4 hel c1 hsz hz
  subst hR
  match A, hd, hs, h60, hn, hF, c2 with
  | a :: t, hd, hs, h60, hn, hF, c2 =>
    have ha := hd a (.head _)
    by_cases c3 : (a :: t).length - s = 1
    · have f98 : fixD (a :: t) ((a :: t).length - s) (a :: t).length 98 = 0 := by rw [hF 98, c3, if_neg (by omega)]
      have f99 : fixD (a :: t) ((a :: t).length - s) (a :: t).length 99 = (a.toNat : Int) - 48 := by rw [hF 99, c3, if_pos (by rw [List.length_cons]; omega)]; simp
      rw [f98, f99, c3]
      have et : nuL ((a :: t).take 1) = (a.toNat : Int) - 48 := by simp [nuL]
      have ez : (Lib.trimB ((a :: t).take 1) 48).isEmpty = decide (a = 48) := by
        by_cases e : a = 48
        · subst e; rfl
        · simp [Lib.trimB, Lib.trimLeftB, Lib.trimRightB, e]
      rw [et, ez]
      by_cases e : a = 48
      · subst e; cases n <;> simp
      · have : a.toNat ≠ 48 := fun h => e (UInt8.toNat_inj.1 h)
        rw [decide_eq_false e, decide_eq_true (show 0 < 10 * (0 : Int) + ((a.toNat : Int) - 48) by omega)]
        cases n <;> simp
    · have c4 : (a :: t).length - s = 2 := by omega
      match t, hd, hs, h60, hn, hF, c2, c4 with
      | b :: t, hd, hs, h60, hn, hF, c2, c4 =>
        have hb := hd b (.tail _ (.head _))
        have f98 : fixD (a :: b :: t) ((a :: b :: t).length - s) (a :: b :: t).length 98 = (a.toNat : Int) - 48 := by rw [hF 98, c4, if_pos (by rw [List.length_cons, List.length_cons]; omega)]; simp
        have f99 : fixD (a :: b :: t) ((a :: b :: t).length - s) (a :: b :: t).length 99 = (b.toNat : Int) - 48 := by rw [hF 99, c4, if_pos (by rw [List.length_cons, List.length_cons]; omega)]; simp
        rw [f98, f99, c4]
        have et : nuL ((a :: b :: t).take 2) = ((a.toNat : Int) - 48) * 10 + ((b.toNat : Int) - 48) := by simp [nuL]
        have ez : (Lib.trimB ((a :: b :: t).take 2) 48).isEmpty = (decide (a = 48) && decide (b = 48)) := by
          by_cases e : b = 48
          · subst e
            by_cases e2 : a = 48
            · subst e2; rfl
            · simp [Lib.trimB, Lib.trimLeftB, Lib.trimRightB, e2]
          · by_cases e2 : a = 48
            · simp [Lib.trimB, Lib.trimLeftB, Lib.trimRightB, e, e2]
            · simp [Lib.trimB, Lib.trimLeftB, Lib.trimRightB, e, e2]
        rw [et, ez]
        have hlin : ((a.toNat : Int) - 48) * 10 + ((b.toNat : Int) - 48) = 10 * ((a.toNat : Int) - 48) + ((b.toNat : Int) - 48) := by omega
        rw [hlin]
        by_cases e : a = 48
        · by_cases e2 : b = 48
          · subst e e2; cases n <;> simp
          · have : b.toNat ≠ 48 := fun h => e2 (UInt8.toNat_inj.1 h)
            rw [decide_eq_false e2, decide_eq_true (show 0 < 10 * ((a.toNat : Int) - 48) + ((b.toNat : Int) - 48) by omega)]
            cases n <;> simp
        · have : a.toNat ≠ 48 := fun h => e (UInt8.toNat_inj.1 h)
          rw [decide_eq_false e, decide_eq_true (show 0 < 10 * ((a.toNat : Int) - 48) + ((b.toNat : Int) - 48) by omega)]
          cases n <;> simp
      | [], hd, hs, h60, hn, hF, c2, c4 => exact absurd c4 (by simp; omega)
  | [], hd, hs, h60, hn, hF, c2 => exact absurd hs (by simp)
end Go.Proofs.YtajgnkncdkibeaaGreatDoor.PN
namespace Go.Proofs.YtajgnkncdkibeaaGreatDoor.P
open Go.RowKit Go.Proofs.YtajgnkncdkibeaaGreatDoor.G Go.Proofs.YtajgnkncdkibeaaGreatDoor.U Go.Proofs.YtajgnkncdkibeaaGreatDoor.R Go.Proofs.YtajgnkncdkibeaaGreatDoorW.PrintWords Go.Proofs.YtajgnkncdkibeaaGreatDoorW.PrintLast Go.Proofs.YtajgnkncdkibeaaGreatDoorW.PrintMore
attribute [local go_sem] max2_int min2_int max_two min_two max_three min_three max_four min_four
set_option linter.unusedVariables false
set_option linter.unusedSimpArgs false
theorem eqA26 (d : Nat) (w : World) (x0 y0 : Int) (x1 y1 : Int) (x2 y2 : Int) (x3 y3 : Bool) (x4 y4 : Bool) :
    (Op.equalIn (d + 2) 26 (.agg #[.int .i64 x0, .int .i64 x1, .int .i64 x2, .bool x3, .bool x4]) (.agg #[.int .i64 y0, .int .i64 y1, .int .i64 y2, .bool y3, .bool y4])).run Tryz.prog w = .ok (x0 == y0 && (x1 == y1 && (x2 == y2 && (x3 == y3 && (x4 == y4))))) w := by
  refine eqA_of Tryz.underlying26 (by kernel_rfl) ?_
  refine eqf_cons (by rfl) (by go_simp; rfl) (by go_simp; rfl) (by go_simp) ?_
  refine eqf_cons (by rfl) (by go_simp; rfl) (by go_simp; rfl) (by go_simp) ?_
  refine eqf_cons (by rfl) (by go_simp; rfl) (by go_simp; rfl) (by go_simp) ?_
  refine eqf_cons (by rfl) (by go_simp; rfl) (by go_simp; rfl) (by go_simp) ?_
  exact eqf_last (by rfl) (by go_simp; rfl) (by go_simp; rfl) (by go_simp)
end Go.Proofs.YtajgnkncdkibeaaGreatDoor.P
