/- of the words of categories just one is meant of any number (Text 5 of 7: what the law's proof rests on, joined; walks printed by the kit's print over given contracts, walks and plain laws by hand.) -/
import Derived.Deep.RegionHeld3
import Derived.Deep.WholeRow
import Derived.Deep.MidRow
import Derived.StillTailTactics
import Derived.Deep.DrawnRows
import Derived.Test.YtgjboghnnhcgiaaGreatDoorProg
import Derived.Below
import Derived.Deep.Draws
import Derived.Deep.AppendLies
import Derived.Maps.AppendAt
import Derived.OwnWalk
import Derived.Laws.BytesArg
import Derived.Laws.MakeOwn
import Derived.Laws.OwnMore
import Derived.Deep.OwnRows
import Derived.Tactics
import Derived.Lib.ConvBytes
import Derived.Laws.Slices
import Derived.WalkKit
import Derived.KernelRfl
import Derived.RowKit3
import Derived.Deep.LoopGhost
import Derived.Deep.QuietTactic
import Derived.BigQuiet
import Derived.WideLaws
import Derived.Deep.DeepCutAuto
import Derived.Deep.CutBlock
import Derived.Laws.Rows
import Derived.Lib.AppendStr
import Derived.ArgAppend
import Derived.Laws.IdiomCopy
import Derived.OrdersHeld
import Derived.Laws.BitsLemmas
import Derived.RowKit
import Derived.Laws.Cover1
import Derived.Laws.Runes
import Derived.Test.YtgjboghnnhcgiaaGreatDoorCards
import Derived.Test.YtgjboghnnhcgiaaGreatDoorTie
import Derived.Lib.SmallJoins
import Derived.SizedLaws
import Derived.Deep.Slices
import Derived.Deep.Fields
import Derived.ProofKit
import Derived.OpenShut
import Derived.ShutString
import Derived.Deep.DeepHandedRow
import Derived.Lib.LaidU8
import Derived.Lib.LaidU8T
import Derived.LaidOnce
import Derived.LaidMore
import Derived.Deep.DeepWitnessRowRef
import Derived.Deep.DeepLaidRun
import Derived.Test.YtgjboghnnhcgiaaGreatDoorVon0
import Derived.Test.YtgjboghnnhcgiaaGreatDoorVon1
import Derived.Test.YtgjboghnnhcgiaaGreatDoorVon2
import Derived.Test.YtgjboghnnhcgiaaGreatDoorVon3
namespace Go.Proofs.YtgjboghnnhcgiaaGreatDoor.R
open Go.RowKit Go.Proofs.YtgjboghnnhcgiaaGreatDoor.G Go.Proofs.YtgjboghnnhcgiaaGreatDoor.U Go.Proofs.YtgjboghnnhcgiaaGreatDoorW.PrintWords Go.Proofs.YtgjboghnnhcgiaaGreatDoorW.PrintLast Go.Proofs.YtgjboghnnhcgiaaGreatDoorW.PrintMore
attribute [local go_sem] max2_int min2_int max_two min_two max_three min_three max_four min_four
set_option linter.unusedVariables false
set_option linter.unusedSimpArgs false
mutual
def dec_Dec_Compare.j0 : Nat → Bool → Bool → Bool → ByteArray → Int → Bool → ByteArray → Int → Option (Int)
  | 0, _, _, _, _, _, _, _, _ => none
  | k + 1, x5, x6, x134000, x134001, x134002, x135000, x135001, x135002 => if x5 = true then (dec_Dec_Compare.j1 k x5 x6 (!x6) x134000 x134001 x134002 x135000 x135001 x135002) else (dec_Dec_Compare.j1 k x5 x6 false x134000 x134001 x134002 x135000 x135001 x135002)
def dec_Dec_Compare.j1 : Nat → Bool → Bool → Bool → Bool → ByteArray → Int → Bool → ByteArray → Int → Option (Int)
  | 0, _, _, _, _, _, _, _, _, _ => none
  | k + 1, x5, x6, x21, x134000, x134001, x134002, x135000, x135001, x135002 => if x21 = true then (some (-1)) else (if x6 = true then (dec_Dec_Compare.j2 k x5 (!x5) x134000 x134001 x134002 x135000 x135001 x135002) else (dec_Dec_Compare.j2 k x5 false x134000 x134001 x134002 x135000 x135001 x135002))
def dec_Dec_Compare.j2 : Nat → Bool → Bool → Bool → ByteArray → Int → Bool → ByteArray → Int → Option (Int)
  | 0, _, _, _, _, _, _, _, _ => none
  | k + 1, x5, x27, x134000, x134001, x134002, x135000, x135001, x135002 => if x27 = true then (some 1) else (if x5 = true then ((dec_Dec_size.f k x134000 x134001 x134002 x135000 x135001 x135002).bind fun t138 => (some (wrap64 (-t138)))) else ((dec_Dec_size.f k x134000 x134001 x134002 x135000 x135001 x135002).bind fun t139 => (some t139)))
end
def dec_Dec_Compare.f (k : Nat) (a0_0 : Bool) (a0_1 : ByteArray) (a0_2 : Int) (a1_0 : Bool) (a1_1 : ByteArray) (a1_2 : Int) : Option (Int) := if a0_0 = true then ((dec_Dec_Zero.f a0_0 a0_1 a0_2).bind fun t135 => (if a1_0 = true then ((dec_Dec_Zero.f a1_0 a1_1 a1_2).bind fun t136 => (dec_Dec_Compare.j0 k (!t135) (!t136) a0_0 a0_1 a0_2 a1_0 a1_1 a1_2)) else (dec_Dec_Compare.j0 k (!t135) false a0_0 a0_1 a0_2 a1_0 a1_1 a1_2))) else (if a1_0 = true then ((dec_Dec_Zero.f a1_0 a1_1 a1_2).bind fun t137 => (dec_Dec_Compare.j0 k false (!t137) a0_0 a0_1 a0_2 a1_0 a1_1 a1_2)) else (dec_Dec_Compare.j0 k false false a0_0 a0_1 a0_2 a1_0 a1_1 a1_2))
theorem dec_Dec_Compare.mono_l : ∀ k, (∀ y0 y1 y2 y3 y4 y5 y6 y7, LeO (dec_Dec_Compare.j0 k y0 y1 y2 y3 y4 y5 y6 y7) (dec_Dec_Compare.j0 (k + 1) y0 y1 y2 y3 y4 y5 y6 y7)) ∧ (∀ y0 y1 y2 y3 y4 y5 y6 y7 y8, LeO (dec_Dec_Compare.j1 k y0 y1 y2 y3 y4 y5 y6 y7 y8) (dec_Dec_Compare.j1 (k + 1) y0 y1 y2 y3 y4 y5 y6 y7 y8)) ∧ (∀ y0 y1 y2 y3 y4 y5 y6 y7, LeO (dec_Dec_Compare.j2 k y0 y1 y2 y3 y4 y5 y6 y7) (dec_Dec_Compare.j2 (k + 1) y0 y1 y2 y3 y4 y5 y6 y7))
  | 0 => ⟨fun _ _ _ _ _ _ _ _ r h => by simp [dec_Dec_Compare.j0] at h, fun _ _ _ _ _ _ _ _ _ r h => by simp [dec_Dec_Compare.j1] at h, fun _ _ _ _ _ _ _ _ r h => by simp [dec_Dec_Compare.j2] at h⟩
  | k + 1 => by
    obtain ⟨ih0, ih1, ih2⟩ := dec_Dec_Compare.mono_l k
    refine ⟨?_, ?_, ?_⟩
    · intro y0 y1 y2 y3 y4 y5 y6 y7
      unfold dec_Dec_Compare.j0
      repeat' first
      | (with_reducible exact ih0 _ _ _ _ _ _ _ _)
      | (with_reducible exact ih1 _ _ _ _ _ _ _ _ _)
      | (with_reducible exact ih2 _ _ _ _ _ _ _ _)
      | (with_reducible exact dec_Dec_size.mono _ _ _ _ _ _ _)
      | (with_reducible exact LeO.refl _)
      | (with_reducible exact LeO.none _)
      | (with_reducible refine LeO.ite ?_ ?_)
      | (with_reducible refine LeO.bind ?_ (fun _ => ?_))
      | exact ih0 _ _ _ _ _ _ _ _
      | exact ih1 _ _ _ _ _ _ _ _ _
      | exact ih2 _ _ _ _ _ _ _ _
      | exact dec_Dec_size.mono _ _ _ _ _ _ _
      | exact LeO.none _
      | refine LeO.ite ?_ ?_
      | refine LeO.bind ?_ (fun _ => ?_)
    · intro y0 y1 y2 y3 y4 y5 y6 y7 y8
      unfold dec_Dec_Compare.j1
      repeat' first
      | (with_reducible exact ih0 _ _ _ _ _ _ _ _)
      | (with_reducible exact ih1 _ _ _ _ _ _ _ _ _)
      | (with_reducible exact ih2 _ _ _ _ _ _ _ _)
      | (with_reducible exact dec_Dec_size.mono _ _ _ _ _ _ _)
      | (with_reducible exact LeO.refl _)
      | (with_reducible exact LeO.none _)
      | (with_reducible refine LeO.ite ?_ ?_)
      | (with_reducible refine LeO.bind ?_ (fun _ => ?_))
      | exact ih0 _ _ _ _ _ _ _ _
      | exact ih1 _ _ _ _ _ _ _ _ _
      | exact ih2 _ _ _ _ _ _ _ _
      | exact dec_Dec_size.mono _ _ _ _ _ _ _
      | exact LeO.none _
      | refine LeO.ite ?_ ?_
      | refine LeO.bind ?_ (fun _ => ?_)
    · intro y0 y1 y2 y3 y4 y5 y6 y7
      unfold dec_Dec_Compare.j2
      repeat' first
      | (with_reducible exact ih0 _ _ _ _ _ _ _ _)
      | (with_reducible exact ih1 _ _ _ _ _ _ _ _ _)
      | (with_reducible exact ih2 _ _ _ _ _ _ _ _)
      | (with_reducible exact dec_Dec_size.mono _ _ _ _ _ _ _)
      | (with_reducible exact LeO.refl _)
      | (with_reducible exact LeO.none _)
      | (with_reducible refine LeO.ite ?_ ?_)
      | (with_reducible refine LeO.bind ?_ (fun _ => ?_))
      | exact ih0 _ _ _ _ _ _ _ _
      | exact ih1 _ _ _ _ _ _ _ _ _
      | exact ih2 _ _ _ _ _ _ _ _
      | exact dec_Dec_size.mono _ _ _ _ _ _ _
      | exact LeO.none _
      | refine LeO.ite ?_ ?_
      | refine LeO.bind ?_ (fun _ => ?_)
theorem dec_Dec_Compare.mono : ∀ a0 a1 a2 a3 a4 a5 k, LeO (dec_Dec_Compare.f k a0 a1 a2 a3 a4 a5) (dec_Dec_Compare.f (k + 1) a0 a1 a2 a3 a4 a5) := by
  intro a0 a1 a2 a3 a4 a5 k
  obtain ⟨ih0, ih1, ih2⟩ := dec_Dec_Compare.mono_l k
  unfold dec_Dec_Compare.f
  repeat' first
      | (with_reducible exact ih0 _ _ _ _ _ _ _ _)
      | (with_reducible exact ih1 _ _ _ _ _ _ _ _ _)
      | (with_reducible exact ih2 _ _ _ _ _ _ _ _)
      | (with_reducible exact dec_Dec_size.mono _ _ _ _ _ _ _)
      | (with_reducible exact LeO.refl _)
      | (with_reducible exact LeO.none _)
      | (with_reducible refine LeO.ite ?_ ?_)
      | (with_reducible refine LeO.bind ?_ (fun _ => ?_))
      | exact ih0 _ _ _ _ _ _ _ _
      | exact ih1 _ _ _ _ _ _ _ _ _
      | exact ih2 _ _ _ _ _ _ _ _
      | exact dec_Dec_size.mono _ _ _ _ _ _ _
      | exact LeO.none _
      | refine LeO.ite ?_ ?_
      | refine LeO.bind ?_ (fun _ => ?_)
def dec_Dec_Compare.T1 : Bool × List (List Nat × List Nat) := (true, [([], []), ([0], [0]), ([1], [1]), ([2], [2]), ([3, 2, 2], [2, 3]), ([4, 2], [2, 4]), ([2, 5], [2, 5]), ([], []), ([7], [7]), ([8, 4], [8]), ([9], [9]), ([10, 9, 9], [9, 10]), ([11, 9], [9, 11]), ([9, 12], [9, 12]), ([6, 11, 0, 1, 2, 3, 4, 5, 6], [6]), ([13, 14, 0, 1, 2, 3, 4, 5, 6, 7, 8, 9, 10, 11, 12, 13, 14], [13])])
def dec_Dec_Compare.B1 : List Nat := [0, 1, 3, 7, 15, 31, 63, 0, 128, 415, 927, 1951, 3999, 8095, 4095, 32767]
theorem dec_Dec_Compare.tab1 : rtab .any (opsOf Tryz.f11 1) = dec_Dec_Compare.T1 := by kernel_rfl
theorem dec_Dec_Compare.bits1 : waitsOk dec_Dec_Compare.T1.2 dec_Dec_Compare.B1 = true := by kernel_rfl
set_option maxHeartbeats 8000000 in
set_option maxRecDepth 100000 in
theorem dec_Dec_Compare.calls (k : Nat) (a0_0 : Bool) (a0_1 : ByteArray) (a0_2 : Int) (a1_0 : Bool) (a1_1 : ByteArray) (a1_2 : Int) (r : Int) (w : World) (h : dec_Dec_Compare.f k a0_0 a0_1 a0_2 a1_0 a1_1 a1_2 = some r) :
    Calls Tryz.prog 11 #[.agg #[.bool a0_0, .string a0_1, .int .i64 a0_2], .agg #[.bool a1_0, .string a1_1, .int .i64 a1_2]] w fun e w' => e = .returned (.int .i64 r) ∧ Below w.heap.size w w' := by
  have hu23 := Tryz.underlying23
  have HB := Aside0.mk (Below.refl w.heap.size w)
  have H : (if a0_0 = true then ((dec_Dec_Zero.f a0_0 a0_1 a0_2).bind fun t135 => (if a1_0 = true then ((dec_Dec_Zero.f a1_0 a1_1 a1_2).bind fun t136 => (dec_Dec_Compare.j0 k (!t135) (!t136) a0_0 a0_1 a0_2 a1_0 a1_1 a1_2)) else (dec_Dec_Compare.j0 k (!t135) false a0_0 a0_1 a0_2 a1_0 a1_1 a1_2))) else (if a1_0 = true then ((dec_Dec_Zero.f a1_0 a1_1 a1_2).bind fun t137 => (dec_Dec_Compare.j0 k false (!t137) a0_0 a0_1 a0_2 a1_0 a1_1 a1_2)) else (dec_Dec_Compare.j0 k false false a0_0 a0_1 a0_2 a1_0 a1_1 a1_2))) = some r := h
  clear h
  have HC3 := Aside0.mk H
  clear H
  go_enter Tryz.func11, Tryz.ntmps11
  go_upto_region 1 with (first | ((with_reducible refine gate_dst (N := 2) rfl ?_); refine box_event ?hg (N := 2) ?hd (cs := #[.bool a0_0, .string a0_1, .int .i64 a0_2]) (t := 23) ?hr ?_; (case hd => rfl); (case hg => rfl); (case hr => first | (go_simp; done) | (go_simp; rfl)); intro gb133 hg w4 hbox hb; have n0_ := Aside0.mk (below_step (by repeat (first | (with_reducible first | exact HB.out | apply below_alloc | apply pw_below_drewN | apply below_drew1) | exact HB.out)) hb); have n1_ := Aside0.mk (hbox); have n2_ := Aside0.mk ((by rw [hg]; exact (below_size (by repeat (first | (with_reducible first | exact HB.out | apply below_alloc | apply pw_below_drewN | apply below_drew1) | exact HB.out))) : w.heap.size ≤ gb133)); have n3_ := Aside0.mk ((by rw [hg]; exact (below_size (by repeat (first | (with_reducible first | exact HB.out | apply below_alloc | apply pw_below_drewN | apply below_drew1) | exact HB.out))) : w.heap.size ≤ gb133)); clear HB; have HB := n0_; have BK133 := n1_; have GW133 := n2_; have GE133 := n3_; clear n0_ n1_ n2_ n3_; clear hb hbox hg) | ((with_reducible refine gate_dst (N := 3) rfl ?_); refine box_event ?hg (N := 3) ?hd (cs := #[.bool a1_0, .string a1_1, .int .i64 a1_2]) (t := 23) ?hr ?_; (case hd => rfl); (case hg => rfl); (case hr => first | (go_simp; done) | (go_simp; rfl)); intro gb134 hg w5 hbox hb; have n0_ := Aside0.mk (blk_below (g := gb133) (o := .cells #[.bool a0_0, .string a0_1, .int .i64 a0_2] 23 (0, 0)) (by (with_reducible repeat (first | refine blk_drewN ?_ _ | refine blk_drew ?_ | refine blk_alloc ?_ _)); exact BK133.out) hb); have n1_ := Aside0.mk (below_step (by repeat (first | (with_reducible first | exact HB.out | apply below_alloc | apply pw_below_drewN | apply below_drew1 | refine below_set ?_ GE133.out) | exact HB.out)) hb); have n2_ := Aside0.mk (hbox); have n3_ := Aside0.mk ((by rw [hg]; exact (below_size (by repeat (first | (with_reducible first | exact HB.out | apply below_alloc | apply pw_below_drewN | apply below_drew1 | refine below_set ?_ GE133.out) | exact HB.out))) : w.heap.size ≤ gb134)); have n4_ := Aside0.mk ((by rw [hg]; exact (below_size (by repeat (first | (with_reducible first | exact HB.out | apply below_alloc | apply pw_below_drewN | apply below_drew1 | refine below_set ?_ GE133.out) | exact HB.out))) : w.heap.size ≤ gb134)); have n5_ := Aside0.mk ((by rw [hg]; exact Nat.ne_of_lt (blk_lt (g := gb133) (o := .cells #[.bool a0_0, .string a0_1, .int .i64 a0_2] 23 (0, 0)) (by (with_reducible repeat (first | refine blk_drewN ?_ _ | refine blk_drew ?_ | refine blk_alloc ?_ _)); exact BK133.out)) : gb133 ≠ gb134)); have n6_ := Aside0.mk ((by rw [hg]; exact Nat.ne_of_gt (blk_lt (g := gb133) (o := .cells #[.bool a0_0, .string a0_1, .int .i64 a0_2] 23 (0, 0)) (by (with_reducible repeat (first | refine blk_drewN ?_ _ | refine blk_drew ?_ | refine blk_alloc ?_ _)); exact BK133.out)) : gb134 ≠ gb133)); clear BK133; clear HB; have BK133 := n0_; have HB := n1_; have BK134 := n2_; have GW134 := n3_; have GE134 := n4_; have NB133_134 := n5_; have NB134_133 := n6_; clear n0_ n1_ n2_ n3_ n4_ n5_ n6_; clear hb hbox hg))
  (try simp only [Act.put, List.setIfInBounds_toArray, List.set_cons_zero, List.set_cons_succ])
  go_cut [5, 6] (fun v5 v6 wc => ∃ (kq : Nat) (x5_2 : Bool) (x6_2 : Bool), v5 = .bool x5_2 ∧ v6 = .bool x6_2 ∧ Aside0 (dec_Dec_Compare.j0 kq x5_2 x6_2 a0_0 a0_1 a0_2 a1_0 a1_1 a1_2 = some r) ∧ Aside0 (kq ≤ k) ∧ Aside0 (wc.heap[gb133]? = some (.cells #[.bool a0_0, .string a0_1, .int .i64 a0_2] 23 (0, 0))) ∧ Aside0 (wc.heap[gb134]? = some (.cells #[.bool a1_0, .string a1_1, .int .i64 a1_2] 23 (0, 0))) ∧ Aside0 (Below w.heap.size w wc))
  case first =>
    have H := HC3.out
    clear HC3
    by_cases c6 : a0_0 = true
    · subst c6
      have H1 : ((dec_Dec_Zero.f true a0_1 a0_2).bind fun t135 => (if a1_0 = true then ((dec_Dec_Zero.f a1_0 a1_1 a1_2).bind fun t136 => (dec_Dec_Compare.j0 k (!t135) (!t136) true a0_1 a0_2 a1_0 a1_1 a1_2)) else (dec_Dec_Compare.j0 k (!t135) false true a0_1 a0_2 a1_0 a1_1 a1_2))) = some r := by rw [if_pos rfl] at H; exact H
      clear H
      have H := H1
      clear H1
      replace H := Option.bind_eq_some_iff.mp H
      obtain ⟨t135, A70, H⟩ := H
      replace H : (if a1_0 = true then ((dec_Dec_Zero.f a1_0 a1_1 a1_2).bind fun t136 => (dec_Dec_Compare.j0 k (!t135) (!t136) true a0_1 a0_2 a1_0 a1_1 a1_2)) else (dec_Dec_Compare.j0 k (!t135) false true a0_1 a0_2 a1_0 a1_1 a1_2)) = some r := H
      have A7 := Aside0.mk A70
      clear A70
      by_cases c8 : a1_0 = true
      · subst c8
        have H1 : ((dec_Dec_Zero.f true a1_1 a1_2).bind fun t136 => (dec_Dec_Compare.j0 k (!t135) (!t136) true a0_1 a0_2 true a1_1 a1_2)) = some r := by rw [if_pos rfl] at H; exact H
        clear H
        have H := H1
        clear H1
        replace H := Option.bind_eq_some_iff.mp H
        obtain ⟨t136, A90, H⟩ := H
        replace H : (dec_Dec_Compare.j0 k (!t135) (!t136) true a0_1 a0_2 true a1_1 a1_2) = some r := H
        have A9 := Aside0.mk A90
        clear A90
        have H' := Aside0.mk H
        clear H
        try go_wp2
        have n0_ := Aside0.mk (blk_drew BK133.out)
        have n1_ := Aside0.mk (blk_drew BK134.out)
        have n2_ := Aside0.mk (below_drew1 HB.out)
        clear BK133
        clear BK134
        clear HB
        have BK133 := n0_
        have BK134 := n1_
        have HB := n2_
        clear n0_ n1_ n2_
        refine start_ (n := 16) (S := fun w' => w'.cell? ⟨gb133, 0, none⟩ = some (.bool true) ∧ w'.cell? ⟨gb133, 1, none⟩ = some (.string a0_1) ∧ w'.cell? ⟨gb133, 2, none⟩ = some (.int .i64 a0_2) ∧ w'.cell? ⟨gb134, 0, none⟩ = some (.bool true) ∧ w'.cell? ⟨gb134, 1, none⟩ = some (.string a1_1) ∧ w'.cell? ⟨gb134, 2, none⟩ = some (.int .i64 a1_2)) (ds := []) #[false, false, false, false, false, false, false, false, false, false, false, false, false, false, false, false] (by kernel_rfl) rfl rfl ⟨(blk_cell BK133.out 0).trans rfl, (blk_cell BK133.out 1).trans rfl, (blk_cell BK133.out 2).trans rfl, (blk_cell BK134.out 0).trans rfl, (blk_cell BK134.out 1).trans rfl, (blk_cell BK134.out 2).trans rfl⟩ (fun hHeld => ?_); refine with_tabW dec_Dec_Compare.tab1 dec_Dec_Compare.bits1 (fun HT_ HW_ => ?_)
        generalize w5.drew = w10 at BK133 BK134 HB hHeld ⊢
        refine pure_ (i := 0) (N := some 7) (v := ?_) (a' := ?_) #[true, false, false, false, false, false, false, false, false, false, false, false, false, false, false, false] rfl rfl (any_of HT_.out (by kernel_rfl)) (fun _ _ _ h => h) (Or.inl ⟨by rfl, ?_⟩) ?_ ?_
        rotate_left
        · intro w'
          go_simp
          with_reducible rfl
        rotate_left
        · simp only [Act.put, List.setIfInBounds_toArray, List.set_cons_zero, List.set_cons_succ, i64_w, i32_w]
          rfl
        refine pure_ (i := 7) (N := some 14) (v := ?_) (a' := ?_) #[true, false, false, false, false, false, false, true, false, false, false, false, false, false, false, false] rfl rfl (any_of HT_.out (by kernel_rfl)) (fun _ _ _ h => h) (Or.inl ⟨by rfl, ?_⟩) ?_ ?_
        rotate_left
        · intro w'
          go_simp
          with_reducible rfl
        rotate_left
        · simp only [Act.put, List.setIfInBounds_toArray, List.set_cons_zero, List.set_cons_succ, i64_w, i32_w]
          rfl
        refine take_ (i := 1) (N := some 8) (v := ?_) (a' := ?_) #[true, true, false, false, false, false, false, true, false, false, false, false, false, false, false, false] rfl rfl (take_ofW HT_.out HW_.out (by kernel_rfl)) (fun _ _ _ h => h) (Or.inl ⟨by rfl, ?_⟩) hHeld ?_ ?_
        rotate_left
        · rintro w' ⟨s0, s1, s2, s3, s4, s5⟩
          go_simp
          with_reducible rfl
        rotate_left
        · simp only [Act.put, List.setIfInBounds_toArray, List.set_cons_zero, List.set_cons_succ, i64_w, i32_w]
          rfl
        refine pure_ (i := 2) (N := some 9) (v := ?_) (a' := ?_) #[true, true, true, false, false, false, false, true, false, false, false, false, false, false, false, false] rfl rfl (any_of HT_.out (by kernel_rfl)) (fun _ _ _ h => h) (Or.inl ⟨by rfl, ?_⟩) ?_ ?_
        rotate_left
        · intro w'
          go_simp
          with_reducible rfl
        rotate_left
        · simp only [Act.put, List.setIfInBounds_toArray, List.set_cons_zero, List.set_cons_succ, i64_w, i32_w]
          rfl
        refine take_ (i := 3) (N := some 10) (v := ?_) (a' := ?_) #[true, true, true, true, false, false, false, true, false, false, false, false, false, false, false, false] rfl rfl (take_ofW HT_.out HW_.out (by kernel_rfl)) (fun _ _ _ h => h) (Or.inl ⟨by rfl, ?_⟩) hHeld ?_ ?_
        rotate_left
        · rintro w' ⟨s0, s1, s2, s3, s4, s5⟩
          go_simp
          with_reducible rfl
        rotate_left
        · simp only [Act.put, List.setIfInBounds_toArray, List.set_cons_zero, List.set_cons_succ, i64_w, i32_w]
          rfl
        refine take_ (i := 8) (N := some 15) (v := ?_) (a' := ?_) #[true, true, true, true, false, false, false, true, true, false, false, false, false, false, false, false] rfl rfl (take_ofW HT_.out HW_.out (by kernel_rfl)) (fun _ _ _ h => h) (Or.inl ⟨by rfl, ?_⟩) hHeld ?_ ?_
        rotate_left
        · rintro w' ⟨s0, s1, s2, s3, s4, s5⟩
          go_simp
          with_reducible rfl
        rotate_left
        · simp only [Act.put, List.setIfInBounds_toArray, List.set_cons_zero, List.set_cons_succ, i64_w, i32_w]
          rfl
        refine one_ (i := 4) (N := some 11) #[true, true, true, true, true, false, false, true, true, false, false, false, false, false, false, false] rfl rfl (one_of HT_.out (by kernel_rfl)) (by decide) (fun K hK => ?_)
        refine goes_ Tryz.func28 (by kernel_rfl) rfl #[.agg #[.bool true, .string a0_1, .int .i64 a0_2]] (by rfl) rfl rfl (by (try simp only [List.map_toArray, List.map_cons, List.map_nil]); first | done | rfl | (simp only [List.length_drop, List.length_take]; rfl)) ?_
        with_reducible refine (dec_Dec_Zero.calls true a0_1 a0_2 t135 _ A7.out).mono ?_
        rintro e w11 ⟨rfl, hb⟩
        refine ⟨_, rfl, ?_⟩
        have n0_ := Aside0.mk (blk_below (g := gb133) (o := .cells #[.bool true, .string a0_1, .int .i64 a0_2] 23 (0, 0)) (by (with_reducible repeat (first | refine blk_drewN ?_ _ | refine blk_drew ?_ | refine blk_alloc ?_ _)); exact BK133.out) hb)
        have n1_ := Aside0.mk (blk_below (g := gb134) (o := .cells #[.bool true, .string a1_1, .int .i64 a1_2] 23 (0, 0)) (by (with_reducible repeat (first | refine blk_drewN ?_ _ | refine blk_drew ?_ | refine blk_alloc ?_ _)); exact BK134.out) hb)
        have n2_ := Aside0.mk (below_step (by repeat (first | (with_reducible first | exact HB.out | apply below_alloc | apply pw_below_drewN | apply below_drew1 | refine below_set ?_ GE133.out | refine below_set ?_ GE134.out) | exact HB.out)) hb)
        clear BK133
        clear BK134
        clear HB
        have BK133 := n0_
        have BK134 := n1_
        have HB := n2_
        clear n0_ n1_ n2_
        (try clear hb)
        (try clear hb2)
        (try clear hk)
        (try clear hi)
        refine hK.out _ _ ⟨(blk_cell BK133.out 0).trans rfl, (blk_cell BK133.out 1).trans rfl, (blk_cell BK133.out 2).trans rfl, (blk_cell BK134.out 0).trans rfl, (blk_cell BK134.out 1).trans rfl, (blk_cell BK134.out 2).trans rfl⟩ (fun hHeld => ?_)
        clear hK K
        refine norm_ (a' := ?_) ?_ ?_
        rotate_left
        · show Act.put _ (some 11) _ = _
          simp only [Act.put, List.setIfInBounds_toArray, List.set_cons_zero, List.set_cons_succ, i64_w, i32_w]
          rfl
        refine pure_ (i := 5) (N := some 12) (v := ?_) (a' := ?_) #[true, true, true, true, true, true, false, true, true, false, false, false, false, false, false, false] rfl rfl (any_of HT_.out (by kernel_rfl)) (fun _ _ _ h => h) (Or.inl ⟨by rfl, ?_⟩) ?_ ?_
        rotate_left
        · intro w'
          go_simp
          with_reducible rfl
        rotate_left
        · simp only [Act.put, List.setIfInBounds_toArray, List.set_cons_zero, List.set_cons_succ, i64_w, i32_w]
          rfl
        refine pure_ (i := 6) (N := some 13) (v := ?_) (a' := ?_) #[true, true, true, true, true, true, true, true, true, false, false, false, false, false, false, false] rfl rfl (any_of HT_.out (by kernel_rfl)) (fun _ _ _ h => h) (Or.inl ⟨by rfl, ?_⟩) ?_ ?_
        rotate_left
        · intro w'
          go_simp
          with_reducible rfl
        rotate_left
        · simp only [Act.put, List.setIfInBounds_toArray, List.set_cons_zero, List.set_cons_succ, i64_w, i32_w]
          rfl
        refine pure_ (i := 9) (N := some 16) (v := ?_) (a' := ?_) #[true, true, true, true, true, true, true, true, true, true, false, false, false, false, false, false] rfl rfl (any_of HT_.out (by kernel_rfl)) (fun _ _ _ h => h) (Or.inl ⟨by rfl, ?_⟩) ?_ ?_
        rotate_left
        · intro w'
          go_simp
          with_reducible rfl
        rotate_left
        · simp only [Act.put, List.setIfInBounds_toArray, List.set_cons_zero, List.set_cons_succ, i64_w, i32_w]
          rfl
        refine take_ (i := 10) (N := some 17) (v := ?_) (a' := ?_) #[true, true, true, true, true, true, true, true, true, true, true, false, false, false, false, false] rfl rfl (take_ofW HT_.out HW_.out (by kernel_rfl)) (fun _ _ _ h => h) (Or.inl ⟨by rfl, ?_⟩) hHeld ?_ ?_
        rotate_left
        · rintro w' ⟨s0, s1, s2, s3, s4, s5⟩
          go_simp
          with_reducible rfl
        rotate_left
        · simp only [Act.put, List.setIfInBounds_toArray, List.set_cons_zero, List.set_cons_succ, i64_w, i32_w]
          rfl
        refine one_ (i := 11) (N := some 18) #[true, true, true, true, true, true, true, true, true, true, true, true, false, false, false, false] rfl rfl (one_of HT_.out (by kernel_rfl)) (by decide) (fun K hK => ?_)
        refine goes_ Tryz.func28 (by kernel_rfl) rfl #[.agg #[.bool true, .string a1_1, .int .i64 a1_2]] (by rfl) rfl rfl (by (try simp only [List.map_toArray, List.map_cons, List.map_nil]); first | done | rfl | (simp only [List.length_drop, List.length_take]; rfl)) ?_
        with_reducible refine (dec_Dec_Zero.calls true a1_1 a1_2 t136 _ A9.out).mono ?_
        rintro e w12 ⟨rfl, hb⟩
        refine ⟨_, rfl, ?_⟩
        have n0_ := Aside0.mk (blk_below (g := gb133) (o := .cells #[.bool true, .string a0_1, .int .i64 a0_2] 23 (0, 0)) (by (with_reducible repeat (first | refine blk_drewN ?_ _ | refine blk_drew ?_ | refine blk_alloc ?_ _)); exact BK133.out) hb)
        have n1_ := Aside0.mk (blk_below (g := gb134) (o := .cells #[.bool true, .string a1_1, .int .i64 a1_2] 23 (0, 0)) (by (with_reducible repeat (first | refine blk_drewN ?_ _ | refine blk_drew ?_ | refine blk_alloc ?_ _)); exact BK134.out) hb)
        have n2_ := Aside0.mk (below_step (by repeat (first | (with_reducible first | exact HB.out | apply below_alloc | apply pw_below_drewN | apply below_drew1 | refine below_set ?_ GE133.out | refine below_set ?_ GE134.out) | exact HB.out)) hb)
        clear BK133
        clear BK134
        clear HB
        have BK133 := n0_
        have BK134 := n1_
        have HB := n2_
        clear n0_ n1_ n2_
        (try clear hb)
        (try clear hb2)
        (try clear hk)
        (try clear hi)
        refine hK.out _ _ ⟨(blk_cell BK133.out 0).trans rfl, (blk_cell BK133.out 1).trans rfl, (blk_cell BK133.out 2).trans rfl, (blk_cell BK134.out 0).trans rfl, (blk_cell BK134.out 1).trans rfl, (blk_cell BK134.out 2).trans rfl⟩ (fun hHeld => ?_)
        clear hK K
        refine norm_ (a' := ?_) ?_ ?_
        rotate_left
        · show Act.put _ (some 18) _ = _
          simp only [Act.put, List.setIfInBounds_toArray, List.set_cons_zero, List.set_cons_succ, i64_w, i32_w]
          rfl
        refine pure_ (i := 12) (N := some 19) (v := ?_) (a' := ?_) #[true, true, true, true, true, true, true, true, true, true, true, true, true, false, false, false] rfl rfl (any_of HT_.out (by kernel_rfl)) (fun _ _ _ h => h) (Or.inl ⟨by rfl, ?_⟩) ?_ ?_
        rotate_left
        · intro w'
          go_simp
          with_reducible rfl
        rotate_left
        · simp only [Act.put, List.setIfInBounds_toArray, List.set_cons_zero, List.set_cons_succ, i64_w, i32_w]
          rfl
        refine pure_ (i := 13) (N := some 20) (v := ?_) (a' := ?_) #[true, true, true, true, true, true, true, true, true, true, true, true, true, true, false, false] rfl rfl (any_of HT_.out (by kernel_rfl)) (fun _ _ _ h => h) (Or.inl ⟨by rfl, ?_⟩) ?_ ?_
        rotate_left
        · intro w'
          go_simp
          with_reducible rfl
        rotate_left
        · simp only [Act.put, List.setIfInBounds_toArray, List.set_cons_zero, List.set_cons_succ, i64_w, i32_w]
          rfl
        refine pure_ (i := 14) (N := some 5) (v := ?_) (a' := ?_) #[true, true, true, true, true, true, true, true, true, true, true, true, true, true, true, false] rfl rfl (any_of HT_.out (by kernel_rfl)) (fun _ _ _ h => h) (Or.inl ⟨by rfl, ?_⟩) ?_ ?_
        rotate_left
        · intro w'
          go_simp
          with_reducible rfl
        rotate_left
        · simp only [Act.put, List.setIfInBounds_toArray, List.set_cons_zero, List.set_cons_succ, i64_w, i32_w]
          rfl
        refine pure_ (i := 15) (N := some 6) (v := ?_) (a' := ?_) #[true, true, true, true, true, true, true, true, true, true, true, true, true, true, true, true] rfl rfl (any_of HT_.out (by kernel_rfl)) (fun _ _ _ h => h) (Or.inl ⟨by rfl, ?_⟩) ?_ ?_
        rotate_left
        · intro w'
          go_simp
          with_reducible rfl
        rotate_left
        · simp only [Act.put, List.setIfInBounds_toArray, List.set_cons_zero, List.set_cons_succ, i64_w, i32_w]
          rfl
        refine done_ (done_of HT_.out (by kernel_rfl)) ?_
        try go_wp2
        go_meet
        case rel => exact ⟨_, (!t135), (!t136), (by first | rfl | (simp; done) | (simp [*]; done)), (by first | rfl | (simp; done) | (simp [*]; done)), H', ⟨by first | omega | exact Nat.le_refl _⟩, ⟨by (with_reducible repeat (first | refine blk_drewN ?_ _ | refine blk_drew ?_ | refine blk_alloc ?_ _)); exact BK133.out⟩, ⟨by (with_reducible repeat (first | refine blk_drewN ?_ _ | refine blk_drew ?_ | refine blk_alloc ?_ _)); exact BK134.out⟩, ⟨by repeat (first | (with_reducible first | exact HB.out | apply below_alloc | apply pw_below_drewN | apply below_drew1 | refine below_set ?_ GE133.out | refine below_set ?_ GE134.out) | exact HB.out)⟩⟩
      · replace c8 := Bool.eq_false_iff.mpr c8
        subst c8
        have H1 : (dec_Dec_Compare.j0 k (!t135) false true a0_1 a0_2 false a1_1 a1_2) = some r := by rw [if_neg (show ¬ (false = true) by decide)] at H; exact H
        clear H
        have H := H1
        clear H1
        have H' := Aside0.mk H
        clear H
        try go_wp2
        have n0_ := Aside0.mk (blk_drew BK133.out)
        have n1_ := Aside0.mk (blk_drew BK134.out)
        have n2_ := Aside0.mk (below_drew1 HB.out)
        clear BK133
        clear BK134
        clear HB
        have BK133 := n0_
        have BK134 := n1_
        have HB := n2_
        clear n0_ n1_ n2_
        refine start_ (n := 16) (S := fun w' => w'.cell? ⟨gb133, 0, none⟩ = some (.bool true) ∧ w'.cell? ⟨gb133, 1, none⟩ = some (.string a0_1) ∧ w'.cell? ⟨gb133, 2, none⟩ = some (.int .i64 a0_2) ∧ w'.cell? ⟨gb134, 0, none⟩ = some (.bool false) ∧ w'.cell? ⟨gb134, 1, none⟩ = some (.string a1_1) ∧ w'.cell? ⟨gb134, 2, none⟩ = some (.int .i64 a1_2)) (ds := []) #[false, false, false, false, false, false, false, false, false, false, false, false, false, false, false, false] (by kernel_rfl) rfl rfl ⟨(blk_cell BK133.out 0).trans rfl, (blk_cell BK133.out 1).trans rfl, (blk_cell BK133.out 2).trans rfl, (blk_cell BK134.out 0).trans rfl, (blk_cell BK134.out 1).trans rfl, (blk_cell BK134.out 2).trans rfl⟩ (fun hHeld => ?_); refine with_tabW dec_Dec_Compare.tab1 dec_Dec_Compare.bits1 (fun HT_ HW_ => ?_)
        generalize w5.drew = w13 at BK133 BK134 HB hHeld ⊢
        refine pure_ (i := 0) (N := some 7) (v := ?_) (a' := ?_) #[true, false, false, false, false, false, false, false, false, false, false, false, false, false, false, false] rfl rfl (any_of HT_.out (by kernel_rfl)) (fun _ _ _ h => h) (Or.inl ⟨by rfl, ?_⟩) ?_ ?_
        rotate_left
        · intro w'
          go_simp
          with_reducible rfl
        rotate_left
        · simp only [Act.put, List.setIfInBounds_toArray, List.set_cons_zero, List.set_cons_succ, i64_w, i32_w]
          rfl
        refine pure_ (i := 7) (N := some 14) (v := ?_) (a' := ?_) #[true, false, false, false, false, false, false, true, false, false, false, false, false, false, false, false] rfl rfl (any_of HT_.out (by kernel_rfl)) (fun _ _ _ h => h) (Or.inl ⟨by rfl, ?_⟩) ?_ ?_
        rotate_left
        · intro w'
          go_simp
          with_reducible rfl
        rotate_left
        · simp only [Act.put, List.setIfInBounds_toArray, List.set_cons_zero, List.set_cons_succ, i64_w, i32_w]
          rfl
        refine take_ (i := 1) (N := some 8) (v := ?_) (a' := ?_) #[true, true, false, false, false, false, false, true, false, false, false, false, false, false, false, false] rfl rfl (take_ofW HT_.out HW_.out (by kernel_rfl)) (fun _ _ _ h => h) (Or.inl ⟨by rfl, ?_⟩) hHeld ?_ ?_
        rotate_left
        · rintro w' ⟨s0, s1, s2, s3, s4, s5⟩
          go_simp
          with_reducible rfl
        rotate_left
        · simp only [Act.put, List.setIfInBounds_toArray, List.set_cons_zero, List.set_cons_succ, i64_w, i32_w]
          rfl
        refine pure_ (i := 2) (N := some 9) (v := ?_) (a' := ?_) #[true, true, true, false, false, false, false, true, false, false, false, false, false, false, false, false] rfl rfl (any_of HT_.out (by kernel_rfl)) (fun _ _ _ h => h) (Or.inl ⟨by rfl, ?_⟩) ?_ ?_
        rotate_left
        · intro w'
          go_simp
          with_reducible rfl
        rotate_left
        · simp only [Act.put, List.setIfInBounds_toArray, List.set_cons_zero, List.set_cons_succ, i64_w, i32_w]
          rfl
        refine take_ (i := 3) (N := some 10) (v := ?_) (a' := ?_) #[true, true, true, true, false, false, false, true, false, false, false, false, false, false, false, false] rfl rfl (take_ofW HT_.out HW_.out (by kernel_rfl)) (fun _ _ _ h => h) (Or.inl ⟨by rfl, ?_⟩) hHeld ?_ ?_
        rotate_left
        · rintro w' ⟨s0, s1, s2, s3, s4, s5⟩
          go_simp
          with_reducible rfl
        rotate_left
        · simp only [Act.put, List.setIfInBounds_toArray, List.set_cons_zero, List.set_cons_succ, i64_w, i32_w]
          rfl
        refine take_ (i := 8) (N := some 15) (v := ?_) (a' := ?_) #[true, true, true, true, false, false, false, true, true, false, false, false, false, false, false, false] rfl rfl (take_ofW HT_.out HW_.out (by kernel_rfl)) (fun _ _ _ h => h) (Or.inl ⟨by rfl, ?_⟩) hHeld ?_ ?_
        rotate_left
        · rintro w' ⟨s0, s1, s2, s3, s4, s5⟩
          go_simp
          with_reducible rfl
        rotate_left
        · simp only [Act.put, List.setIfInBounds_toArray, List.set_cons_zero, List.set_cons_succ, i64_w, i32_w]
          rfl
        refine one_ (i := 4) (N := some 11) #[true, true, true, true, true, false, false, true, true, false, false, false, false, false, false, false] rfl rfl (one_of HT_.out (by kernel_rfl)) (by decide) (fun K hK => ?_)
        refine goes_ Tryz.func28 (by kernel_rfl) rfl #[.agg #[.bool true, .string a0_1, .int .i64 a0_2]] (by rfl) rfl rfl (by (try simp only [List.map_toArray, List.map_cons, List.map_nil]); first | done | rfl | (simp only [List.length_drop, List.length_take]; rfl)) ?_
        with_reducible refine (dec_Dec_Zero.calls true a0_1 a0_2 t135 _ A7.out).mono ?_
        rintro e w14 ⟨rfl, hb⟩
        refine ⟨_, rfl, ?_⟩
        have n0_ := Aside0.mk (blk_below (g := gb133) (o := .cells #[.bool true, .string a0_1, .int .i64 a0_2] 23 (0, 0)) (by (with_reducible repeat (first | refine blk_drewN ?_ _ | refine blk_drew ?_ | refine blk_alloc ?_ _)); exact BK133.out) hb)
        have n1_ := Aside0.mk (blk_below (g := gb134) (o := .cells #[.bool false, .string a1_1, .int .i64 a1_2] 23 (0, 0)) (by (with_reducible repeat (first | refine blk_drewN ?_ _ | refine blk_drew ?_ | refine blk_alloc ?_ _)); exact BK134.out) hb)
        have n2_ := Aside0.mk (below_step (by repeat (first | (with_reducible first | exact HB.out | apply below_alloc | apply pw_below_drewN | apply below_drew1 | refine below_set ?_ GE133.out | refine below_set ?_ GE134.out) | exact HB.out)) hb)
        clear BK133
        clear BK134
        clear HB
        have BK133 := n0_
        have BK134 := n1_
        have HB := n2_
        clear n0_ n1_ n2_
        (try clear hb)
        (try clear hb2)
        (try clear hk)
        (try clear hi)
        refine hK.out _ _ ⟨(blk_cell BK133.out 0).trans rfl, (blk_cell BK133.out 1).trans rfl, (blk_cell BK133.out 2).trans rfl, (blk_cell BK134.out 0).trans rfl, (blk_cell BK134.out 1).trans rfl, (blk_cell BK134.out 2).trans rfl⟩ (fun hHeld => ?_)
        clear hK K
        refine norm_ (a' := ?_) ?_ ?_
        rotate_left
        · show Act.put _ (some 11) _ = _
          simp only [Act.put, List.setIfInBounds_toArray, List.set_cons_zero, List.set_cons_succ, i64_w, i32_w]
          rfl
        refine pure_ (i := 5) (N := some 12) (v := ?_) (a' := ?_) #[true, true, true, true, true, true, false, true, true, false, false, false, false, false, false, false] rfl rfl (any_of HT_.out (by kernel_rfl)) (fun _ _ _ h => h) (Or.inl ⟨by rfl, ?_⟩) ?_ ?_
        rotate_left
        · intro w'
          go_simp
          with_reducible rfl
        rotate_left
        · simp only [Act.put, List.setIfInBounds_toArray, List.set_cons_zero, List.set_cons_succ, i64_w, i32_w]
          rfl
        refine pure_ (i := 6) (N := some 13) (v := ?_) (a' := ?_) #[true, true, true, true, true, true, true, true, true, false, false, false, false, false, false, false] rfl rfl (any_of HT_.out (by kernel_rfl)) (fun _ _ _ h => h) (Or.inl ⟨by rfl, ?_⟩) ?_ ?_
        rotate_left
        · intro w'
          go_simp
          with_reducible rfl
        rotate_left
        · simp only [Act.put, List.setIfInBounds_toArray, List.set_cons_zero, List.set_cons_succ, i64_w, i32_w]
          rfl
        refine pure_ (i := 9) (N := some 16) (v := ?_) (a' := ?_) #[true, true, true, true, true, true, true, true, true, true, false, false, false, false, false, false] rfl rfl (any_of HT_.out (by kernel_rfl)) (fun _ _ _ h => h) (Or.inl ⟨by rfl, ?_⟩) ?_ ?_
        rotate_left
        · intro w'
          go_simp
          with_reducible rfl
        rotate_left
        · simp only [Act.put, List.setIfInBounds_toArray, List.set_cons_zero, List.set_cons_succ, i64_w, i32_w]
          rfl
        refine pure_ (i := 10) (N := some 17) (v := undef) (a' := ?_) #[true, true, true, true, true, true, true, true, true, true, true, false, false, false, false, false] rfl rfl (any_of HT_.out (by kernel_rfl)) (fun _ _ _ h => h) (Or.inr ⟨by rfl, rfl⟩) ?_ ?_
        rotate_left
        · simp only [Act.put, List.setIfInBounds_toArray, List.set_cons_zero, List.set_cons_succ, i64_w, i32_w]
          rfl
        refine pure_ (i := 11) (N := some 18) (v := undef) (a' := ?_) #[true, true, true, true, true, true, true, true, true, true, true, true, false, false, false, false] rfl rfl (any_of HT_.out (by kernel_rfl)) (fun _ _ _ h => h) (Or.inr ⟨by rfl, rfl⟩) ?_ ?_
        rotate_left
        · simp only [Act.put, List.setIfInBounds_toArray, List.set_cons_zero, List.set_cons_succ, i64_w, i32_w]
          rfl
        refine pure_ (i := 12) (N := some 19) (v := undef) (a' := ?_) #[true, true, true, true, true, true, true, true, true, true, true, true, true, false, false, false] rfl rfl (any_of HT_.out (by kernel_rfl)) (fun _ _ _ h => h) (Or.inr ⟨by rfl, rfl⟩) ?_ ?_
        rotate_left
        · simp only [Act.put, List.setIfInBounds_toArray, List.set_cons_zero, List.set_cons_succ, i64_w, i32_w]
          rfl
        refine pure_ (i := 13) (N := some 20) (v := ?_) (a' := ?_) #[true, true, true, true, true, true, true, true, true, true, true, true, true, true, false, false] rfl rfl (any_of HT_.out (by kernel_rfl)) (fun _ _ _ h => h) (Or.inl ⟨by rfl, ?_⟩) ?_ ?_
        rotate_left
        · intro w'
          go_simp
          with_reducible rfl
        rotate_left
        · simp only [Act.put, List.setIfInBounds_toArray, List.set_cons_zero, List.set_cons_succ, i64_w, i32_w]
          rfl
        refine pure_ (i := 14) (N := some 5) (v := ?_) (a' := ?_) #[true, true, true, true, true, true, true, true, true, true, true, true, true, true, true, false] rfl rfl (any_of HT_.out (by kernel_rfl)) (fun _ _ _ h => h) (Or.inl ⟨by rfl, ?_⟩) ?_ ?_
        rotate_left
        · intro w'
          go_simp
          with_reducible rfl
        rotate_left
        · simp only [Act.put, List.setIfInBounds_toArray, List.set_cons_zero, List.set_cons_succ, i64_w, i32_w]
          rfl
        refine pure_ (i := 15) (N := some 6) (v := ?_) (a' := ?_) #[true, true, true, true, true, true, true, true, true, true, true, true, true, true, true, true] rfl rfl (any_of HT_.out (by kernel_rfl)) (fun _ _ _ h => h) (Or.inl ⟨by rfl, ?_⟩) ?_ ?_
        rotate_left
        · intro w'
          go_simp
          with_reducible rfl
        rotate_left
        · simp only [Act.put, List.setIfInBounds_toArray, List.set_cons_zero, List.set_cons_succ, i64_w, i32_w]
          rfl
        refine done_ (done_of HT_.out (by kernel_rfl)) ?_
        try go_wp2
        go_meet
        case rel => exact ⟨_, (!t135), (false), (by first | rfl | (simp; done) | (simp [*]; done)), (by first | rfl | (simp; done) | (simp [*]; done)), H', ⟨by first | omega | exact Nat.le_refl _⟩, ⟨by (with_reducible repeat (first | refine blk_drewN ?_ _ | refine blk_drew ?_ | refine blk_alloc ?_ _)); exact BK133.out⟩, ⟨by (with_reducible repeat (first | refine blk_drewN ?_ _ | refine blk_drew ?_ | refine blk_alloc ?_ _)); exact BK134.out⟩, ⟨by repeat (first | (with_reducible first | exact HB.out | apply below_alloc | apply pw_below_drewN | apply below_drew1 | refine below_set ?_ GE133.out | refine below_set ?_ GE134.out) | exact HB.out)⟩⟩
    · replace c6 := Bool.eq_false_iff.mpr c6
      subst c6
      have H1 : (if a1_0 = true then ((dec_Dec_Zero.f a1_0 a1_1 a1_2).bind fun t137 => (dec_Dec_Compare.j0 k false (!t137) false a0_1 a0_2 a1_0 a1_1 a1_2)) else (dec_Dec_Compare.j0 k false false false a0_1 a0_2 a1_0 a1_1 a1_2)) = some r := by rw [if_neg (show ¬ (false = true) by decide)] at H; exact H
      clear H
      have H := H1
      clear H1
      by_cases c15 : a1_0 = true
      · subst c15
        have H1 : ((dec_Dec_Zero.f true a1_1 a1_2).bind fun t137 => (dec_Dec_Compare.j0 k false (!t137) false a0_1 a0_2 true a1_1 a1_2)) = some r := by rw [if_pos rfl] at H; exact H
        clear H
        have H := H1
        clear H1
        replace H := Option.bind_eq_some_iff.mp H
        obtain ⟨t137, A160, H⟩ := H
        replace H : (dec_Dec_Compare.j0 k false (!t137) false a0_1 a0_2 true a1_1 a1_2) = some r := H
        have A16 := Aside0.mk A160
        clear A160
        have H' := Aside0.mk H
        clear H
        try go_wp2
        have n0_ := Aside0.mk (blk_drew BK133.out)
        have n1_ := Aside0.mk (blk_drew BK134.out)
        have n2_ := Aside0.mk (below_drew1 HB.out)
        clear BK133
        clear BK134
        clear HB
        have BK133 := n0_
        have BK134 := n1_
        have HB := n2_
        clear n0_ n1_ n2_
        refine start_ (n := 16) (S := fun w' => w'.cell? ⟨gb133, 0, none⟩ = some (.bool false) ∧ w'.cell? ⟨gb133, 1, none⟩ = some (.string a0_1) ∧ w'.cell? ⟨gb133, 2, none⟩ = some (.int .i64 a0_2) ∧ w'.cell? ⟨gb134, 0, none⟩ = some (.bool true) ∧ w'.cell? ⟨gb134, 1, none⟩ = some (.string a1_1) ∧ w'.cell? ⟨gb134, 2, none⟩ = some (.int .i64 a1_2)) (ds := []) #[false, false, false, false, false, false, false, false, false, false, false, false, false, false, false, false] (by kernel_rfl) rfl rfl ⟨(blk_cell BK133.out 0).trans rfl, (blk_cell BK133.out 1).trans rfl, (blk_cell BK133.out 2).trans rfl, (blk_cell BK134.out 0).trans rfl, (blk_cell BK134.out 1).trans rfl, (blk_cell BK134.out 2).trans rfl⟩ (fun hHeld => ?_); refine with_tabW dec_Dec_Compare.tab1 dec_Dec_Compare.bits1 (fun HT_ HW_ => ?_)
        generalize w5.drew = w17 at BK133 BK134 HB hHeld ⊢
        refine pure_ (i := 0) (N := some 7) (v := ?_) (a' := ?_) #[true, false, false, false, false, false, false, false, false, false, false, false, false, false, false, false] rfl rfl (any_of HT_.out (by kernel_rfl)) (fun _ _ _ h => h) (Or.inl ⟨by rfl, ?_⟩) ?_ ?_
        rotate_left
        · intro w'
          go_simp
          with_reducible rfl
        rotate_left
        · simp only [Act.put, List.setIfInBounds_toArray, List.set_cons_zero, List.set_cons_succ, i64_w, i32_w]
          rfl
        refine pure_ (i := 7) (N := some 14) (v := ?_) (a' := ?_) #[true, false, false, false, false, false, false, true, false, false, false, false, false, false, false, false] rfl rfl (any_of HT_.out (by kernel_rfl)) (fun _ _ _ h => h) (Or.inl ⟨by rfl, ?_⟩) ?_ ?_
        rotate_left
        · intro w'
          go_simp
          with_reducible rfl
        rotate_left
        · simp only [Act.put, List.setIfInBounds_toArray, List.set_cons_zero, List.set_cons_succ, i64_w, i32_w]
          rfl
        refine take_ (i := 1) (N := some 8) (v := ?_) (a' := ?_) #[true, true, false, false, false, false, false, true, false, false, false, false, false, false, false, false] rfl rfl (take_ofW HT_.out HW_.out (by kernel_rfl)) (fun _ _ _ h => h) (Or.inl ⟨by rfl, ?_⟩) hHeld ?_ ?_
        rotate_left
        · rintro w' ⟨s0, s1, s2, s3, s4, s5⟩
          go_simp
          with_reducible rfl
        rotate_left
        · simp only [Act.put, List.setIfInBounds_toArray, List.set_cons_zero, List.set_cons_succ, i64_w, i32_w]
          rfl
        refine pure_ (i := 2) (N := some 9) (v := ?_) (a' := ?_) #[true, true, true, false, false, false, false, true, false, false, false, false, false, false, false, false] rfl rfl (any_of HT_.out (by kernel_rfl)) (fun _ _ _ h => h) (Or.inl ⟨by rfl, ?_⟩) ?_ ?_
        rotate_left
        · intro w'
          go_simp
          with_reducible rfl
        rotate_left
        · simp only [Act.put, List.setIfInBounds_toArray, List.set_cons_zero, List.set_cons_succ, i64_w, i32_w]
          rfl
        refine pure_ (i := 3) (N := some 10) (v := undef) (a' := ?_) #[true, true, true, true, false, false, false, true, false, false, false, false, false, false, false, false] rfl rfl (any_of HT_.out (by kernel_rfl)) (fun _ _ _ h => h) (Or.inr ⟨by rfl, rfl⟩) ?_ ?_
        rotate_left
        · simp only [Act.put, List.setIfInBounds_toArray, List.set_cons_zero, List.set_cons_succ, i64_w, i32_w]
          rfl
        refine pure_ (i := 4) (N := some 11) (v := undef) (a' := ?_) #[true, true, true, true, true, false, false, true, false, false, false, false, false, false, false, false] rfl rfl (any_of HT_.out (by kernel_rfl)) (fun _ _ _ h => h) (Or.inr ⟨by rfl, rfl⟩) ?_ ?_
        rotate_left
        · simp only [Act.put, List.setIfInBounds_toArray, List.set_cons_zero, List.set_cons_succ, i64_w, i32_w]
          rfl
        refine pure_ (i := 5) (N := some 12) (v := undef) (a' := ?_) #[true, true, true, true, true, true, false, true, false, false, false, false, false, false, false, false] rfl rfl (any_of HT_.out (by kernel_rfl)) (fun _ _ _ h => h) (Or.inr ⟨by rfl, rfl⟩) ?_ ?_
        rotate_left
        · simp only [Act.put, List.setIfInBounds_toArray, List.set_cons_zero, List.set_cons_succ, i64_w, i32_w]
          rfl
        refine pure_ (i := 6) (N := some 13) (v := ?_) (a' := ?_) #[true, true, true, true, true, true, true, true, false, false, false, false, false, false, false, false] rfl rfl (any_of HT_.out (by kernel_rfl)) (fun _ _ _ h => h) (Or.inl ⟨by rfl, ?_⟩) ?_ ?_
        rotate_left
        · intro w'
          go_simp
          with_reducible rfl
        rotate_left
        · simp only [Act.put, List.setIfInBounds_toArray, List.set_cons_zero, List.set_cons_succ, i64_w, i32_w]
          rfl
        refine take_ (i := 8) (N := some 15) (v := ?_) (a' := ?_) #[true, true, true, true, true, true, true, true, true, false, false, false, false, false, false, false] rfl rfl (take_ofW HT_.out HW_.out (by kernel_rfl)) (fun _ _ _ h => h) (Or.inl ⟨by rfl, ?_⟩) hHeld ?_ ?_
        rotate_left
        · rintro w' ⟨s0, s1, s2, s3, s4, s5⟩
          go_simp
          with_reducible rfl
        rotate_left
        · simp only [Act.put, List.setIfInBounds_toArray, List.set_cons_zero, List.set_cons_succ, i64_w, i32_w]
          rfl
        refine pure_ (i := 9) (N := some 16) (v := ?_) (a' := ?_) #[true, true, true, true, true, true, true, true, true, true, false, false, false, false, false, false] rfl rfl (any_of HT_.out (by kernel_rfl)) (fun _ _ _ h => h) (Or.inl ⟨by rfl, ?_⟩) ?_ ?_
        rotate_left
        · intro w'
          go_simp
          with_reducible rfl
        rotate_left
        · simp only [Act.put, List.setIfInBounds_toArray, List.set_cons_zero, List.set_cons_succ, i64_w, i32_w]
          rfl
        refine take_ (i := 10) (N := some 17) (v := ?_) (a' := ?_) #[true, true, true, true, true, true, true, true, true, true, true, false, false, false, false, false] rfl rfl (take_ofW HT_.out HW_.out (by kernel_rfl)) (fun _ _ _ h => h) (Or.inl ⟨by rfl, ?_⟩) hHeld ?_ ?_
        rotate_left
        · rintro w' ⟨s0, s1, s2, s3, s4, s5⟩
          go_simp
          with_reducible rfl
        rotate_left
        · simp only [Act.put, List.setIfInBounds_toArray, List.set_cons_zero, List.set_cons_succ, i64_w, i32_w]
          rfl
        refine one_ (i := 11) (N := some 18) #[true, true, true, true, true, true, true, true, true, true, true, true, false, false, false, false] rfl rfl (one_of HT_.out (by kernel_rfl)) (by decide) (fun K hK => ?_)
        refine goes_ Tryz.func28 (by kernel_rfl) rfl #[.agg #[.bool true, .string a1_1, .int .i64 a1_2]] (by rfl) rfl rfl (by (try simp only [List.map_toArray, List.map_cons, List.map_nil]); first | done | rfl | (simp only [List.length_drop, List.length_take]; rfl)) ?_
        with_reducible refine (dec_Dec_Zero.calls true a1_1 a1_2 t137 _ A16.out).mono ?_
        rintro e w18 ⟨rfl, hb⟩
        refine ⟨_, rfl, ?_⟩
        have n0_ := Aside0.mk (blk_below (g := gb133) (o := .cells #[.bool false, .string a0_1, .int .i64 a0_2] 23 (0, 0)) (by (with_reducible repeat (first | refine blk_drewN ?_ _ | refine blk_drew ?_ | refine blk_alloc ?_ _)); exact BK133.out) hb)
        have n1_ := Aside0.mk (blk_below (g := gb134) (o := .cells #[.bool true, .string a1_1, .int .i64 a1_2] 23 (0, 0)) (by (with_reducible repeat (first | refine blk_drewN ?_ _ | refine blk_drew ?_ | refine blk_alloc ?_ _)); exact BK134.out) hb)
        have n2_ := Aside0.mk (below_step (by repeat (first | (with_reducible first | exact HB.out | apply below_alloc | apply pw_below_drewN | apply below_drew1 | refine below_set ?_ GE133.out | refine below_set ?_ GE134.out) | exact HB.out)) hb)
        clear BK133
        clear BK134
        clear HB
        have BK133 := n0_
        have BK134 := n1_
        have HB := n2_
        clear n0_ n1_ n2_
        (try clear hb)
        (try clear hb2)
        (try clear hk)
        (try clear hi)
        refine hK.out _ _ ⟨(blk_cell BK133.out 0).trans rfl, (blk_cell BK133.out 1).trans rfl, (blk_cell BK133.out 2).trans rfl, (blk_cell BK134.out 0).trans rfl, (blk_cell BK134.out 1).trans rfl, (blk_cell BK134.out 2).trans rfl⟩ (fun hHeld => ?_)
        clear hK K
        refine norm_ (a' := ?_) ?_ ?_
        rotate_left
        · show Act.put _ (some 18) _ = _
          simp only [Act.put, List.setIfInBounds_toArray, List.set_cons_zero, List.set_cons_succ, i64_w, i32_w]
          rfl
        refine pure_ (i := 12) (N := some 19) (v := ?_) (a' := ?_) #[true, true, true, true, true, true, true, true, true, true, true, true, true, false, false, false] rfl rfl (any_of HT_.out (by kernel_rfl)) (fun _ _ _ h => h) (Or.inl ⟨by rfl, ?_⟩) ?_ ?_
        rotate_left
        · intro w'
          go_simp
          with_reducible rfl
        rotate_left
        · simp only [Act.put, List.setIfInBounds_toArray, List.set_cons_zero, List.set_cons_succ, i64_w, i32_w]
          rfl
        refine pure_ (i := 13) (N := some 20) (v := ?_) (a' := ?_) #[true, true, true, true, true, true, true, true, true, true, true, true, true, true, false, false] rfl rfl (any_of HT_.out (by kernel_rfl)) (fun _ _ _ h => h) (Or.inl ⟨by rfl, ?_⟩) ?_ ?_
        rotate_left
        · intro w'
          go_simp
          with_reducible rfl
        rotate_left
        · simp only [Act.put, List.setIfInBounds_toArray, List.set_cons_zero, List.set_cons_succ, i64_w, i32_w]
          rfl
        refine pure_ (i := 14) (N := some 5) (v := ?_) (a' := ?_) #[true, true, true, true, true, true, true, true, true, true, true, true, true, true, true, false] rfl rfl (any_of HT_.out (by kernel_rfl)) (fun _ _ _ h => h) (Or.inl ⟨by rfl, ?_⟩) ?_ ?_
        rotate_left
        · intro w'
          go_simp
          with_reducible rfl
        rotate_left
        · simp only [Act.put, List.setIfInBounds_toArray, List.set_cons_zero, List.set_cons_succ, i64_w, i32_w]
          rfl
        refine pure_ (i := 15) (N := some 6) (v := ?_) (a' := ?_) #[true, true, true, true, true, true, true, true, true, true, true, true, true, true, true, true] rfl rfl (any_of HT_.out (by kernel_rfl)) (fun _ _ _ h => h) (Or.inl ⟨by rfl, ?_⟩) ?_ ?_
        rotate_left
        · intro w'
          go_simp
          with_reducible rfl
        rotate_left
        · simp only [Act.put, List.setIfInBounds_toArray, List.set_cons_zero, List.set_cons_succ, i64_w, i32_w]
          rfl
        refine done_ (done_of HT_.out (by kernel_rfl)) ?_
        try go_wp2
        go_meet
        case rel => exact ⟨_, (false), (!t137), (by first | rfl | (simp; done) | (simp [*]; done)), (by first | rfl | (simp; done) | (simp [*]; done)), H', ⟨by first | omega | exact Nat.le_refl _⟩, ⟨by (with_reducible repeat (first | refine blk_drewN ?_ _ | refine blk_drew ?_ | refine blk_alloc ?_ _)); exact BK133.out⟩, ⟨by (with_reducible repeat (first | refine blk_drewN ?_ _ | refine blk_drew ?_ | refine blk_alloc ?_ _)); exact BK134.out⟩, ⟨by repeat (first | (with_reducible first | exact HB.out | apply below_alloc | apply pw_below_drewN | apply below_drew1 | refine below_set ?_ GE133.out | refine below_set ?_ GE134.out) | exact HB.out)⟩⟩
      · replace c15 := Bool.eq_false_iff.mpr c15
        subst c15
        have H1 : (dec_Dec_Compare.j0 k false false false a0_1 a0_2 false a1_1 a1_2) = some r := by rw [if_neg (show ¬ (false = true) by decide)] at H; exact H
        clear H
        have H := H1
        clear H1
        have H' := Aside0.mk H
        clear H
        try go_wp2
        have n0_ := Aside0.mk (blk_drew BK133.out)
        have n1_ := Aside0.mk (blk_drew BK134.out)
        have n2_ := Aside0.mk (below_drew1 HB.out)
        clear BK133
        clear BK134
        clear HB
        have BK133 := n0_
        have BK134 := n1_
        have HB := n2_
        clear n0_ n1_ n2_
        refine start_ (n := 16) (S := fun w' => w'.cell? ⟨gb133, 0, none⟩ = some (.bool false) ∧ w'.cell? ⟨gb133, 1, none⟩ = some (.string a0_1) ∧ w'.cell? ⟨gb133, 2, none⟩ = some (.int .i64 a0_2) ∧ w'.cell? ⟨gb134, 0, none⟩ = some (.bool false) ∧ w'.cell? ⟨gb134, 1, none⟩ = some (.string a1_1) ∧ w'.cell? ⟨gb134, 2, none⟩ = some (.int .i64 a1_2)) (ds := []) #[false, false, false, false, false, false, false, false, false, false, false, false, false, false, false, false] (by kernel_rfl) rfl rfl ⟨(blk_cell BK133.out 0).trans rfl, (blk_cell BK133.out 1).trans rfl, (blk_cell BK133.out 2).trans rfl, (blk_cell BK134.out 0).trans rfl, (blk_cell BK134.out 1).trans rfl, (blk_cell BK134.out 2).trans rfl⟩ (fun hHeld => ?_); refine with_tabW dec_Dec_Compare.tab1 dec_Dec_Compare.bits1 (fun HT_ HW_ => ?_)
        generalize w5.drew = w19 at BK133 BK134 HB hHeld ⊢
        refine pure_ (i := 0) (N := some 7) (v := ?_) (a' := ?_) #[true, false, false, false, false, false, false, false, false, false, false, false, false, false, false, false] rfl rfl (any_of HT_.out (by kernel_rfl)) (fun _ _ _ h => h) (Or.inl ⟨by rfl, ?_⟩) ?_ ?_
        rotate_left
        · intro w'
          go_simp
          with_reducible rfl
        rotate_left
        · simp only [Act.put, List.setIfInBounds_toArray, List.set_cons_zero, List.set_cons_succ, i64_w, i32_w]
          rfl
        refine pure_ (i := 7) (N := some 14) (v := ?_) (a' := ?_) #[true, false, false, false, false, false, false, true, false, false, false, false, false, false, false, false] rfl rfl (any_of HT_.out (by kernel_rfl)) (fun _ _ _ h => h) (Or.inl ⟨by rfl, ?_⟩) ?_ ?_
        rotate_left
        · intro w'
          go_simp
          with_reducible rfl
        rotate_left
        · simp only [Act.put, List.setIfInBounds_toArray, List.set_cons_zero, List.set_cons_succ, i64_w, i32_w]
          rfl
        refine take_ (i := 1) (N := some 8) (v := ?_) (a' := ?_) #[true, true, false, false, false, false, false, true, false, false, false, false, false, false, false, false] rfl rfl (take_ofW HT_.out HW_.out (by kernel_rfl)) (fun _ _ _ h => h) (Or.inl ⟨by rfl, ?_⟩) hHeld ?_ ?_
        rotate_left
        · rintro w' ⟨s0, s1, s2, s3, s4, s5⟩
          go_simp
          with_reducible rfl
        rotate_left
        · simp only [Act.put, List.setIfInBounds_toArray, List.set_cons_zero, List.set_cons_succ, i64_w, i32_w]
          rfl
        refine pure_ (i := 2) (N := some 9) (v := ?_) (a' := ?_) #[true, true, true, false, false, false, false, true, false, false, false, false, false, false, false, false] rfl rfl (any_of HT_.out (by kernel_rfl)) (fun _ _ _ h => h) (Or.inl ⟨by rfl, ?_⟩) ?_ ?_
        rotate_left
        · intro w'
          go_simp
          with_reducible rfl
        rotate_left
        · simp only [Act.put, List.setIfInBounds_toArray, List.set_cons_zero, List.set_cons_succ, i64_w, i32_w]
          rfl
        refine pure_ (i := 3) (N := some 10) (v := undef) (a' := ?_) #[true, true, true, true, false, false, false, true, false, false, false, false, false, false, false, false] rfl rfl (any_of HT_.out (by kernel_rfl)) (fun _ _ _ h => h) (Or.inr ⟨by rfl, rfl⟩) ?_ ?_
        rotate_left
        · simp only [Act.put, List.setIfInBounds_toArray, List.set_cons_zero, List.set_cons_succ, i64_w, i32_w]
          rfl
        refine pure_ (i := 4) (N := some 11) (v := undef) (a' := ?_) #[true, true, true, true, true, false, false, true, false, false, false, false, false, false, false, false] rfl rfl (any_of HT_.out (by kernel_rfl)) (fun _ _ _ h => h) (Or.inr ⟨by rfl, rfl⟩) ?_ ?_
        rotate_left
        · simp only [Act.put, List.setIfInBounds_toArray, List.set_cons_zero, List.set_cons_succ, i64_w, i32_w]
          rfl
        refine pure_ (i := 5) (N := some 12) (v := undef) (a' := ?_) #[true, true, true, true, true, true, false, true, false, false, false, false, false, false, false, false] rfl rfl (any_of HT_.out (by kernel_rfl)) (fun _ _ _ h => h) (Or.inr ⟨by rfl, rfl⟩) ?_ ?_
        rotate_left
        · simp only [Act.put, List.setIfInBounds_toArray, List.set_cons_zero, List.set_cons_succ, i64_w, i32_w]
          rfl
        refine pure_ (i := 6) (N := some 13) (v := ?_) (a' := ?_) #[true, true, true, true, true, true, true, true, false, false, false, false, false, false, false, false] rfl rfl (any_of HT_.out (by kernel_rfl)) (fun _ _ _ h => h) (Or.inl ⟨by rfl, ?_⟩) ?_ ?_
        rotate_left
        · intro w'
          go_simp
          with_reducible rfl
        rotate_left
        · simp only [Act.put, List.setIfInBounds_toArray, List.set_cons_zero, List.set_cons_succ, i64_w, i32_w]
          rfl
        refine take_ (i := 8) (N := some 15) (v := ?_) (a' := ?_) #[true, true, true, true, true, true, true, true, true, false, false, false, false, false, false, false] rfl rfl (take_ofW HT_.out HW_.out (by kernel_rfl)) (fun _ _ _ h => h) (Or.inl ⟨by rfl, ?_⟩) hHeld ?_ ?_
        rotate_left
        · rintro w' ⟨s0, s1, s2, s3, s4, s5⟩
          go_simp
          with_reducible rfl
        rotate_left
        · simp only [Act.put, List.setIfInBounds_toArray, List.set_cons_zero, List.set_cons_succ, i64_w, i32_w]
          rfl
        refine pure_ (i := 9) (N := some 16) (v := ?_) (a' := ?_) #[true, true, true, true, true, true, true, true, true, true, false, false, false, false, false, false] rfl rfl (any_of HT_.out (by kernel_rfl)) (fun _ _ _ h => h) (Or.inl ⟨by rfl, ?_⟩) ?_ ?_
        rotate_left
        · intro w'
          go_simp
          with_reducible rfl
        rotate_left
        · simp only [Act.put, List.setIfInBounds_toArray, List.set_cons_zero, List.set_cons_succ, i64_w, i32_w]
          rfl
        refine pure_ (i := 10) (N := some 17) (v := undef) (a' := ?_) #[true, true, true, true, true, true, true, true, true, true, true, false, false, false, false, false] rfl rfl (any_of HT_.out (by kernel_rfl)) (fun _ _ _ h => h) (Or.inr ⟨by rfl, rfl⟩) ?_ ?_
        rotate_left
        · simp only [Act.put, List.setIfInBounds_toArray, List.set_cons_zero, List.set_cons_succ, i64_w, i32_w]
          rfl
        refine pure_ (i := 11) (N := some 18) (v := undef) (a' := ?_) #[true, true, true, true, true, true, true, true, true, true, true, true, false, false, false, false] rfl rfl (any_of HT_.out (by kernel_rfl)) (fun _ _ _ h => h) (Or.inr ⟨by rfl, rfl⟩) ?_ ?_
        rotate_left
        · simp only [Act.put, List.setIfInBounds_toArray, List.set_cons_zero, List.set_cons_succ, i64_w, i32_w]
          rfl
        refine pure_ (i := 12) (N := some 19) (v := undef) (a' := ?_) #[true, true, true, true, true, true, true, true, true, true, true, true, true, false, false, false] rfl rfl (any_of HT_.out (by kernel_rfl)) (fun _ _ _ h => h) (Or.inr ⟨by rfl, rfl⟩) ?_ ?_
        rotate_left
        · simp only [Act.put, List.setIfInBounds_toArray, List.set_cons_zero, List.set_cons_succ, i64_w, i32_w]
          rfl
        refine pure_ (i := 13) (N := some 20) (v := ?_) (a' := ?_) #[true, true, true, true, true, true, true, true, true, true, true, true, true, true, false, false] rfl rfl (any_of HT_.out (by kernel_rfl)) (fun _ _ _ h => h) (Or.inl ⟨by rfl, ?_⟩) ?_ ?_
        rotate_left
        · intro w'
          go_simp
          with_reducible rfl
        rotate_left
        · simp only [Act.put, List.setIfInBounds_toArray, List.set_cons_zero, List.set_cons_succ, i64_w, i32_w]
          rfl
        refine pure_ (i := 14) (N := some 5) (v := ?_) (a' := ?_) #[true, true, true, true, true, true, true, true, true, true, true, true, true, true, true, false] rfl rfl (any_of HT_.out (by kernel_rfl)) (fun _ _ _ h => h) (Or.inl ⟨by rfl, ?_⟩) ?_ ?_
        rotate_left
        · intro w'
          go_simp
          with_reducible rfl
        rotate_left
        · simp only [Act.put, List.setIfInBounds_toArray, List.set_cons_zero, List.set_cons_succ, i64_w, i32_w]
          rfl
        refine pure_ (i := 15) (N := some 6) (v := ?_) (a' := ?_) #[true, true, true, true, true, true, true, true, true, true, true, true, true, true, true, true] rfl rfl (any_of HT_.out (by kernel_rfl)) (fun _ _ _ h => h) (Or.inl ⟨by rfl, ?_⟩) ?_ ?_
        rotate_left
        · intro w'
          go_simp
          with_reducible rfl
        rotate_left
        · simp only [Act.put, List.setIfInBounds_toArray, List.set_cons_zero, List.set_cons_succ, i64_w, i32_w]
          rfl
        refine done_ (done_of HT_.out (by kernel_rfl)) ?_
        try go_wp2
        go_meet
        case rel => exact ⟨_, (false), (false), (by first | rfl | (simp; done) | (simp [*]; done)), (by first | rfl | (simp; done) | (simp [*]; done)), H', ⟨by first | omega | exact Nat.le_refl _⟩, ⟨by (with_reducible repeat (first | refine blk_drewN ?_ _ | refine blk_drew ?_ | refine blk_alloc ?_ _)); exact BK133.out⟩, ⟨by (with_reducible repeat (first | refine blk_drewN ?_ _ | refine blk_drew ?_ | refine blk_alloc ?_ _)); exact BK134.out⟩, ⟨by repeat (first | (with_reducible first | exact HB.out | apply below_alloc | apply pw_below_drewN | apply below_drew1 | refine below_set ?_ GE133.out | refine below_set ?_ GE134.out) | exact HB.out)⟩⟩
  case rest =>
    clear HC3
    try clear c1
    try clear c2
    try clear p2
    try clear c6
    try clear c8
    try clear c15
    obtain ⟨kq, x5_2, x6_2, rfl, rfl, HA, HJ2, BK133, BK134, HB⟩ := hcut
    cases kq with
    | zero => exact absurd HA.out (by simp [dec_Dec_Compare.j0])
    | succ kj2 =>
      have H := HA.out
      clear HA
      simp only [dec_Dec_Compare.j0] at H
      have HC20 := Aside0.mk H
      clear H
      go_upto_region 2 with (fail)
      go_cut [21] (fun v21 wc => ∃ (kq : Nat) (x21_19 : Bool), v21 = .bool x21_19 ∧ Aside0 (dec_Dec_Compare.j1 kq x5_2 x6_2 x21_19 a0_0 a0_1 a0_2 a1_0 a1_1 a1_2 = some r) ∧ Aside0 (kq ≤ kj2) ∧ Aside0 (wc.heap[gb133]? = some (.cells #[.bool a0_0, .string a0_1, .int .i64 a0_2] 23 (0, 0))) ∧ Aside0 (wc.heap[gb134]? = some (.cells #[.bool a1_0, .string a1_1, .int .i64 a1_2] 23 (0, 0))) ∧ Aside0 (Below w.heap.size w wc))
      case first =>
        have H := HC20.out
        clear HC20
        by_cases c21 : x5_2 = true
        · subst c21
          have H1 : (dec_Dec_Compare.j1 kj2 true x6_2 (!x6_2) a0_0 a0_1 a0_2 a1_0 a1_1 a1_2) = some r := by rw [if_pos rfl] at H; exact H
          clear H
          have H := H1
          clear H1
          have H' := Aside0.mk H
          clear H
          go_wp2
          go_meet
          case rel => exact ⟨_, (!x6_2), (by first | rfl | (simp; done) | (simp [*]; done)), H', ⟨by have := HJ2.out; first | omega | exact Nat.le_refl _⟩, ⟨by (with_reducible repeat (first | refine blk_drewN ?_ _ | refine blk_drew ?_ | refine blk_alloc ?_ _)); exact BK133.out⟩, ⟨by (with_reducible repeat (first | refine blk_drewN ?_ _ | refine blk_drew ?_ | refine blk_alloc ?_ _)); exact BK134.out⟩, ⟨by repeat (first | (with_reducible first | exact HB.out | apply below_alloc | apply pw_below_drewN | apply below_drew1 | refine below_set ?_ GE133.out | refine below_set ?_ GE134.out) | exact HB.out)⟩⟩
        · replace c21 := Bool.eq_false_iff.mpr c21
          subst c21
          have H1 : (dec_Dec_Compare.j1 kj2 false x6_2 false a0_0 a0_1 a0_2 a1_0 a1_1 a1_2) = some r := by rw [if_neg (show ¬ (false = true) by decide)] at H; exact H
          clear H
          have H := H1
          clear H1
          have H' := Aside0.mk H
          clear H
          go_wp2
          go_meet
          case rel => exact ⟨_, (false), (by first | rfl | (simp; done) | (simp [*]; done)), H', ⟨by have := HJ2.out; first | omega | exact Nat.le_refl _⟩, ⟨by (with_reducible repeat (first | refine blk_drewN ?_ _ | refine blk_drew ?_ | refine blk_alloc ?_ _)); exact BK133.out⟩, ⟨by (with_reducible repeat (first | refine blk_drewN ?_ _ | refine blk_drew ?_ | refine blk_alloc ?_ _)); exact BK134.out⟩, ⟨by repeat (first | (with_reducible first | exact HB.out | apply below_alloc | apply pw_below_drewN | apply below_drew1 | refine below_set ?_ GE133.out | refine below_set ?_ GE134.out) | exact HB.out)⟩⟩
      case rest =>
        clear HC20
        try clear c1
        try clear c2
        try clear p2
        try clear c6
        try clear c8
        try clear c15
        try clear c21
        try clear p2
        obtain ⟨kq, x21_19, rfl, HA, HJ19, BK133, BK134, HB⟩ := hcut
        cases kq with
        | zero => exact absurd HA.out (by simp [dec_Dec_Compare.j1])
        | succ kj19 =>
          have H := HA.out
          clear HA
          simp only [dec_Dec_Compare.j1] at H
          by_cases c22 : x21_19 = true
          · subst c22
            have H1 : (some (-1)) = some r := by rw [if_pos rfl] at H; exact H
            clear H
            have H := H1
            clear H1
            obtain rfl := Option.some.inj H
            go_wp2
            go_ret
            exact ⟨by first | rfl | (simp [errW_none, errW_some] <;> rfl) | (simp [*, errW_none, errW_some] <;> rfl), by repeat (first | (with_reducible first | exact HB.out | apply below_alloc | apply pw_below_drewN | apply below_drew1 | refine below_set ?_ GE133.out | refine below_set ?_ GE134.out) | exact HB.out)⟩
          · replace c22 := Bool.eq_false_iff.mpr c22
            subst c22
            have H1 : (if x6_2 = true then (dec_Dec_Compare.j2 kj19 x5_2 (!x5_2) a0_0 a0_1 a0_2 a1_0 a1_1 a1_2) else (dec_Dec_Compare.j2 kj19 x5_2 false a0_0 a0_1 a0_2 a1_0 a1_1 a1_2)) = some r := by rw [if_neg (show ¬ (false = true) by decide)] at H; exact H
            clear H
            have H := H1
            clear H1
            have HC23 := Aside0.mk H
            clear H
            go_upto_region 4 with (fail)
            go_cut [27] (fun v27 wc => ∃ (kq : Nat) (x27_22 : Bool), v27 = .bool x27_22 ∧ Aside0 (dec_Dec_Compare.j2 kq x5_2 x27_22 a0_0 a0_1 a0_2 a1_0 a1_1 a1_2 = some r) ∧ Aside0 (kq ≤ kj19) ∧ Aside0 (wc.heap[gb133]? = some (.cells #[.bool a0_0, .string a0_1, .int .i64 a0_2] 23 (0, 0))) ∧ Aside0 (wc.heap[gb134]? = some (.cells #[.bool a1_0, .string a1_1, .int .i64 a1_2] 23 (0, 0))) ∧ Aside0 (Below w.heap.size w wc))
            case first =>
              have H := HC23.out
              clear HC23
              by_cases c24 : x6_2 = true
              · subst c24
                have H1 : (dec_Dec_Compare.j2 kj19 x5_2 (!x5_2) a0_0 a0_1 a0_2 a1_0 a1_1 a1_2) = some r := by rw [if_pos rfl] at H; exact H
                clear H
                have H := H1
                clear H1
                have H' := Aside0.mk H
                clear H
                go_wp2
                go_meet
                case rel => exact ⟨_, (!x5_2), (by first | rfl | (simp; done) | (simp [*]; done)), H', ⟨by have := HJ2.out; have := HJ19.out; first | omega | exact Nat.le_refl _⟩, ⟨by (with_reducible repeat (first | refine blk_drewN ?_ _ | refine blk_drew ?_ | refine blk_alloc ?_ _)); exact BK133.out⟩, ⟨by (with_reducible repeat (first | refine blk_drewN ?_ _ | refine blk_drew ?_ | refine blk_alloc ?_ _)); exact BK134.out⟩, ⟨by repeat (first | (with_reducible first | exact HB.out | apply below_alloc | apply pw_below_drewN | apply below_drew1 | refine below_set ?_ GE133.out | refine below_set ?_ GE134.out) | exact HB.out)⟩⟩
              · replace c24 := Bool.eq_false_iff.mpr c24
                subst c24
                have H1 : (dec_Dec_Compare.j2 kj19 x5_2 false a0_0 a0_1 a0_2 a1_0 a1_1 a1_2) = some r := by rw [if_neg (show ¬ (false = true) by decide)] at H; exact H
                clear H
                have H := H1
                clear H1
                have H' := Aside0.mk H
                clear H
                go_wp2
                go_meet
                case rel => exact ⟨_, (false), (by first | rfl | (simp; done) | (simp [*]; done)), H', ⟨by have := HJ2.out; have := HJ19.out; first | omega | exact Nat.le_refl _⟩, ⟨by (with_reducible repeat (first | refine blk_drewN ?_ _ | refine blk_drew ?_ | refine blk_alloc ?_ _)); exact BK133.out⟩, ⟨by (with_reducible repeat (first | refine blk_drewN ?_ _ | refine blk_drew ?_ | refine blk_alloc ?_ _)); exact BK134.out⟩, ⟨by repeat (first | (with_reducible first | exact HB.out | apply below_alloc | apply pw_below_drewN | apply below_drew1 | refine below_set ?_ GE133.out | refine below_set ?_ GE134.out) | exact HB.out)⟩⟩
            case rest =>
              clear HC23
              try clear c1
              try clear c2
              try clear p2
              try clear c6
              try clear c8
              try clear c15
              try clear c21
              try clear c22
              try clear c24
              try clear p2
              obtain ⟨kq, x27_22, rfl, HA, HJ22, BK133, BK134, HB⟩ := hcut
              cases kq with
              | zero => exact absurd HA.out (by simp [dec_Dec_Compare.j2])
              | succ kj22 =>
                have H := HA.out
                clear HA
                simp only [dec_Dec_Compare.j2] at H
                by_cases c25 : x27_22 = true
                · subst c25
                  have H1 : (some 1) = some r := by rw [if_pos rfl] at H; exact H
                  clear H
                  have H := H1
                  clear H1
                  obtain rfl := Option.some.inj H
                  go_wp2
                  go_ret
                  exact ⟨by first | rfl | (simp [errW_none, errW_some] <;> rfl) | (simp [*, errW_none, errW_some] <;> rfl), by repeat (first | (with_reducible first | exact HB.out | apply below_alloc | apply pw_below_drewN | apply below_drew1 | refine below_set ?_ GE133.out | refine below_set ?_ GE134.out) | exact HB.out)⟩
                · replace c25 := Bool.eq_false_iff.mpr c25
                  subst c25
                  have H1 : (if x5_2 = true then ((dec_Dec_size.f kj22 a0_0 a0_1 a0_2 a1_0 a1_1 a1_2).bind fun t138 => (some (wrap64 (-t138)))) else ((dec_Dec_size.f kj22 a0_0 a0_1 a0_2 a1_0 a1_1 a1_2).bind fun t139 => (some t139))) = some r := by rw [if_neg (show ¬ (false = true) by decide)] at H; exact H
                  clear H
                  have H := H1
                  clear H1
                  by_cases c26 : x5_2 = true
                  · subst c26
                    have H1 : ((dec_Dec_size.f kj22 a0_0 a0_1 a0_2 a1_0 a1_1 a1_2).bind fun t138 => (some (wrap64 (-t138)))) = some r := by rw [if_pos rfl] at H; exact H
                    clear H
                    have H := H1
                    clear H1
                    replace H := Option.bind_eq_some_iff.mp H
                    obtain ⟨t138, A270, H⟩ := H
                    replace H : (some (wrap64 (-t138))) = some r := H
                    have A27 := Aside0.mk A270
                    clear A270
                    obtain rfl := Option.some.inj H
                    have hnb28 := NB133_134.out
                    have hnc28 := NB134_133.out
                    have hcz29_0 : wc.cell? ⟨gb133, 0, none⟩ = some (.bool a0_0) := (blk_cell BK133.out 0).trans rfl
                    have hcz29_1 : wc.cell? ⟨gb133, 1, none⟩ = some (.string a0_1) := (blk_cell BK133.out 1).trans rfl
                    have hcz29_2 : wc.cell? ⟨gb133, 2, none⟩ = some (.int .i64 a0_2) := (blk_cell BK133.out 2).trans rfl
                    have hfz29_0 := blk_frozen BK133.out 0
                    have hfz29_1 := blk_frozen BK133.out 1
                    have hfz29_2 := blk_frozen BK133.out 2
                    have hcz30_0 : wc.cell? ⟨gb134, 0, none⟩ = some (.bool a1_0) := (blk_cell BK134.out 0).trans rfl
                    have hcz30_1 : wc.cell? ⟨gb134, 1, none⟩ = some (.string a1_1) := (blk_cell BK134.out 1).trans rfl
                    have hcz30_2 : wc.cell? ⟨gb134, 2, none⟩ = some (.int .i64 a1_2) := (blk_cell BK134.out 2).trans rfl
                    have hfz30_0 := blk_frozen BK134.out 0
                    have hfz30_1 := blk_frozen BK134.out 1
                    have hfz30_2 := blk_frozen BK134.out 2
                    go_wp2_with (first | ((with_reducible refine gate_callee (f := 29) rfl ?_); refine goesL_ (some 37) rfl rfl Tryz.func29 (by kernel_rfl) rfl #[.agg #[.bool a0_0, .string a0_1, .int .i64 a0_2], .agg #[.bool a1_0, .string a1_1, .int .i64 a1_2]] rfl (by (try simp only [List.map_toArray, List.map_cons, List.map_nil]); first | done | rfl | (simp only [List.length_drop, List.length_take]; rfl)) ?_; (with_reducible refine (dec_Dec_size.calls kj22 a0_0 a0_1 a0_2 a1_0 a1_1 a1_2 t138 _ A27.out).mono ?_); rintro e w31 ⟨rfl, hb⟩; refine ⟨_, rfl, ?_⟩; have n0_ := Aside0.mk (blk_below (g := gb133) (o := .cells #[.bool a0_0, .string a0_1, .int .i64 a0_2] 23 (0, 0)) (by (with_reducible repeat (first | refine blk_drewN ?_ _ | refine blk_drew ?_ | refine blk_alloc ?_ _)); exact BK133.out) hb); have n1_ := Aside0.mk (blk_below (g := gb134) (o := .cells #[.bool a1_0, .string a1_1, .int .i64 a1_2] 23 (0, 0)) (by (with_reducible repeat (first | refine blk_drewN ?_ _ | refine blk_drew ?_ | refine blk_alloc ?_ _)); exact BK134.out) hb); have n2_ := Aside0.mk (below_step (by repeat (first | (with_reducible first | exact HB.out | apply below_alloc | apply pw_below_drewN | apply below_drew1 | refine below_set ?_ GE133.out | refine below_set ?_ GE134.out) | exact HB.out)) hb); clear BK133; clear BK134; clear HB; have BK133 := n0_; have BK134 := n1_; have HB := n2_; clear n0_ n1_ n2_; (try clear hb); (try clear hb2); (try clear hk); (try clear hi)))
                    go_ret
                    exact ⟨by first | rfl | (simp [errW_none, errW_some] <;> rfl) | (simp [*, errW_none, errW_some] <;> rfl), by repeat (first | (with_reducible first | exact HB.out | apply below_alloc | apply pw_below_drewN | apply below_drew1 | refine below_set ?_ GE133.out | refine below_set ?_ GE134.out) | exact HB.out)⟩
                  · replace c26 := Bool.eq_false_iff.mpr c26
                    subst c26
                    have H1 : ((dec_Dec_size.f kj22 a0_0 a0_1 a0_2 a1_0 a1_1 a1_2).bind fun t139 => (some t139)) = some r := by rw [if_neg (show ¬ (false = true) by decide)] at H; exact H
                    clear H
                    have H := H1
                    clear H1
                    replace H := Option.bind_eq_some_iff.mp H
                    obtain ⟨t139, A320, H⟩ := H
                    replace H : (some t139) = some r := H
                    have A32 := Aside0.mk A320
                    clear A320
                    obtain rfl := Option.some.inj H
                    have hnb33 := NB133_134.out
                    have hnc33 := NB134_133.out
                    have hcz34_0 : wc.cell? ⟨gb133, 0, none⟩ = some (.bool a0_0) := (blk_cell BK133.out 0).trans rfl
                    have hcz34_1 : wc.cell? ⟨gb133, 1, none⟩ = some (.string a0_1) := (blk_cell BK133.out 1).trans rfl
                    have hcz34_2 : wc.cell? ⟨gb133, 2, none⟩ = some (.int .i64 a0_2) := (blk_cell BK133.out 2).trans rfl
                    have hfz34_0 := blk_frozen BK133.out 0
                    have hfz34_1 := blk_frozen BK133.out 1
                    have hfz34_2 := blk_frozen BK133.out 2
                    have hcz35_0 : wc.cell? ⟨gb134, 0, none⟩ = some (.bool a1_0) := (blk_cell BK134.out 0).trans rfl
                    have hcz35_1 : wc.cell? ⟨gb134, 1, none⟩ = some (.string a1_1) := (blk_cell BK134.out 1).trans rfl
                    have hcz35_2 : wc.cell? ⟨gb134, 2, none⟩ = some (.int .i64 a1_2) := (blk_cell BK134.out 2).trans rfl
                    have hfz35_0 := blk_frozen BK134.out 0
                    have hfz35_1 := blk_frozen BK134.out 1
                    have hfz35_2 := blk_frozen BK134.out 2
                    go_wp2_with (first | ((with_reducible refine gate_callee (f := 29) rfl ?_); refine goesL_ (some 41) rfl rfl Tryz.func29 (by kernel_rfl) rfl #[.agg #[.bool a0_0, .string a0_1, .int .i64 a0_2], .agg #[.bool a1_0, .string a1_1, .int .i64 a1_2]] rfl (by (try simp only [List.map_toArray, List.map_cons, List.map_nil]); first | done | rfl | (simp only [List.length_drop, List.length_take]; rfl)) ?_; (with_reducible refine (dec_Dec_size.calls kj22 a0_0 a0_1 a0_2 a1_0 a1_1 a1_2 t139 _ A32.out).mono ?_); rintro e w36 ⟨rfl, hb⟩; refine ⟨_, rfl, ?_⟩; have n0_ := Aside0.mk (blk_below (g := gb133) (o := .cells #[.bool a0_0, .string a0_1, .int .i64 a0_2] 23 (0, 0)) (by (with_reducible repeat (first | refine blk_drewN ?_ _ | refine blk_drew ?_ | refine blk_alloc ?_ _)); exact BK133.out) hb); have n1_ := Aside0.mk (blk_below (g := gb134) (o := .cells #[.bool a1_0, .string a1_1, .int .i64 a1_2] 23 (0, 0)) (by (with_reducible repeat (first | refine blk_drewN ?_ _ | refine blk_drew ?_ | refine blk_alloc ?_ _)); exact BK134.out) hb); have n2_ := Aside0.mk (below_step (by repeat (first | (with_reducible first | exact HB.out | apply below_alloc | apply pw_below_drewN | apply below_drew1 | refine below_set ?_ GE133.out | refine below_set ?_ GE134.out) | exact HB.out)) hb); clear BK133; clear BK134; clear HB; have BK133 := n0_; have BK134 := n1_; have HB := n2_; clear n0_ n1_ n2_; (try clear hb); (try clear hb2); (try clear hk); (try clear hi)))
                    go_ret
                    exact ⟨by first | rfl | (simp [errW_none, errW_some] <;> rfl) | (simp [*, errW_none, errW_some] <;> rfl), by repeat (first | (with_reducible first | exact HB.out | apply below_alloc | apply pw_below_drewN | apply below_drew1 | refine below_set ?_ GE133.out | refine below_set ?_ GE134.out) | exact HB.out)⟩
end Go.Proofs.YtgjboghnnhcgiaaGreatDoor.R
namespace Go.Proofs.YtgjboghnnhcgiaaGreatDoor
open Go.RowKit Go.Proofs.YtgjboghnnhcgiaaGreatDoor.M
set_option linter.unusedVariables false
set_option linter.unusedSimpArgs false
theorem Own.grown {w W W1 : World} {L : List (Nat × Obj)} {b : Nat} (h : Own w L W) (hg : W.grownBy W1 (some b)) (hb : ∀ p ∈ L, p.1 ≠ b) (hw : w.heap.size ≤ b) : Own w L W1 :=
  ⟨fun p hp => (hg.block _ (Array.getElem?_eq_some_iff.1 (h.all p hp)).1 (fun e => hb p hp (Option.some.inj e))).trans (h.all p hp), h.nd, h.own, below_grown h.bel hg hw (Nat.le_refl _)⟩
theorem ret_bool {x y : Bool} (h : x = y) : (Ending.returned (.bool x)) = .returned (.bool y) := by rw [h]
theorem mks14_new (w : World) : Mks w.heap.size 0 (w.alloc (.cells (mkc 0 0 0 none none) 62)) := .inl ⟨⟨heap_alloc_new w _⟩, rfl⟩
set_option maxRecDepth 100000 in
set_option maxHeartbeats 4000000 in
theorem vstr_num (b : Nat) (cnt : Int) (h0 : 0 ≤ cnt) (h9 : cnt ≤ 1000) (lang tx : ByteArray) (mi mf xf se st : Int) (pl rk n : Bool) (D : ByteArray) (k : Int) (E : ByteArray) (K : Nat) (hK : K < E.size) (hE : E.size ≤ 900)
    (cS : ∀ W, Calls Tryz.prog 32 #[optV mi mf xf pl rk, decV n D k] W fun e w' => e = .returned (decV n E K) ∧ Below W.heap.size W w')
    (w : World) (hm : Mks b cnt w) (hb : b < w.heap.size) :
    Calls Tryz.prog 22 #[.agg (valC 1 tx n D k mi mf xf pl rk se st), .pointer (some ⟨b, 0, none⟩), .string lang] w fun e w' => e = .returned (.string (fmC lang pl n E K)) ∧ Mks b (cnt + 1) w' ∧ w.grownBy w' (some b) := by
  have hO := Own.one w (.cells (valC 1 tx n D k mi mf xf pl rk se st) 31)
  have cF := fun W hm hb => format_any b cnt h0 h9 lang mi mf xf pl rk n D k E K hK hE cS W hm hb
  have hm1 := hm.step ((Below.refl _ w).alloc (Nat.le_refl _) (.cells (valC 1 tx n D k mi mf xf pl rk se st) 31))
  generalize fmC lang pl n E K = F at *
  unfold valC decV optV at *
  go_enter Tryz.func22, Tryz.ntmps22
  go_upto_region 1 with (fail)
  generalize w.alloc _ = W0 at *
  have p0 := hO.c 0 0 rfl rfl
  have p2 := hO.c 0 2 rfl rfl
  have p3 := hO.c 0 3 rfl rfl
  have p4 := hO.c 0 4 rfl rfl
  have p5 := hO.c 0 5 rfl rfl
  have p6 := hO.c 0 6 rfl rfl
  have p7 := hO.c 0 7 rfl rfl
  have p8 := hO.c 0 8 rfl rfl
  have p9 := hO.c 0 9 rfl rfl
  have bel := hO.bel
  have hb0 : b < W0.heap.size := Nat.lt_of_lt_of_le hb bel.size
  go_wp2_with (go_at_call 18; refine (cF _ hm1 hb0).mono ?_; rintro e W1 ⟨rfl, m1, g1⟩)
  go_ret
  exact ⟨rfl, m1, (M.grown_below bel (Nat.le_refl _)).trans g1⟩
theorem shape_10 (W : World) : Calls Tryz.prog 32 #[optV 1 1 3 false false, decV false ⟨#[49, 48]⟩ 1] W fun e w' => e = .returned (decV false ⟨#[49, 48]⟩ (1 : Nat)) ∧ Below W.heap.size W w' := by
  have cR := fun W => G.round_same false ⟨#[49, 48]⟩ 1 3 3 W (by decide) (by decide)
  have h := shape_any 1 1 3 false false false ⟨#[49, 48]⟩ 1 ⟨#[49, 48]⟩ 1 cR (by decide) (by decide) (by decide) (by decide) W
  have e1 : shD 1 1 ⟨#[49, 48]⟩ 1 = ⟨#[49, 48]⟩ := by kernel_rfl
  have e2 : shK 1 ⟨#[49, 48]⟩ 1 = 1 := by kernel_rfl
  rw [e1, e2] at h
  exact h
set_option maxRecDepth 100000 in
set_option maxHeartbeats 4000000 in
theorem head14_any (w : World) (hT : G.Tab_ w) (hA : Asc w) : Calls Tryz.prog 6 #[] w fun e w' => e = .returned (.bool true) ∧ Below w.heap.size w w' := by
  have tP := fun W (h : Below w.heap.size w W) => hT.step h
  have cP1 := fun W h => R.dec_Parse.calls ⟨#[49, 46, 48]⟩ false ⟨#[49, 48]⟩ 1 true W (by kernel_rfl) (tP W h)
  have cW := written_num ⟨#[49, 46, 48]⟩ false ⟨#[49, 48]⟩ 1 1 3 w (by decide) (by decide) cP1
  have cS := vstr_num
  have isO : ∀ W, Below w.heap.size w W → Calls Tryz.prog 12 #[.agg (valC 1 ⟨#[]⟩ false ⟨#[49, 48]⟩ 1 1 1 3 false false 0 0), .string ⟨#[111, 116, 104, 101, 114]⟩, .string ⟨#[101, 110]⟩] W fun e w' => e = .returned (.bool true) ∧ Below W.heap.size W w' := fun W hW =>
    (is_word ⟨#[]⟩ false ⟨#[49, 48]⟩ 1 1 1 3 false false 0 0 ⟨#[111, 116, 104, 101, 114]⟩ ⟨#[101, 110]⟩ false ⟨#[]⟩ 0 0 1 ⟨#[49, 48]⟩ W
      (fun W2 h2 => R.dec_Parse.calls ⟨#[111, 116, 104, 101, 114]⟩ false ⟨#[]⟩ 0 false W2 (by kernel_rfl) (tP W2 (below_on hW h2 hW.size)))
      shape_10 (fun _ W2 h2 => Of_any ⟨#[101, 110]⟩ false ⟨#[49, 48]⟩ 1 ⟨by decide, by decide, by decide⟩ W2 (ascTab hA (below_on hW h2 hW.size))) (fun h => by cases h)).mono fun e w' ⟨he, hb⟩ => ⟨he.trans (ret_bool (by kernel_rfl)), hb⟩
  have isN : ∀ W, Below w.heap.size w W → Calls Tryz.prog 12 #[.agg (valC 1 ⟨#[]⟩ false ⟨#[49, 48]⟩ 1 1 1 3 false false 0 0), .string ⟨#[111, 110, 101]⟩, .string ⟨#[101, 110]⟩] W fun e w' => e = .returned (.bool false) ∧ Below W.heap.size W w' := fun W hW =>
    (is_word ⟨#[]⟩ false ⟨#[49, 48]⟩ 1 1 1 3 false false 0 0 ⟨#[111, 110, 101]⟩ ⟨#[101, 110]⟩ false ⟨#[]⟩ 0 0 1 ⟨#[49, 48]⟩ W
      (fun W2 h2 => R.dec_Parse.calls ⟨#[111, 110, 101]⟩ false ⟨#[]⟩ 0 false W2 (by kernel_rfl) (tP W2 (below_on hW h2 hW.size)))
      shape_10 (fun _ W2 h2 => Of_any ⟨#[101, 110]⟩ false ⟨#[49, 48]⟩ 1 ⟨by decide, by decide, by decide⟩ W2 (ascTab hA (below_on hW h2 hW.size))) (fun h => by cases h)).mono fun e w' ⟨he, hb⟩ => ⟨he.trans (ret_bool (by kernel_rfl)), hb⟩
  have is1 : ∀ W, Below w.heap.size w W → Calls Tryz.prog 12 #[.agg (valC 1 ⟨#[]⟩ false ⟨#[49, 48]⟩ 1 1 1 3 false false 0 0), .string ⟨#[49]⟩, .string ⟨#[101, 110]⟩] W fun e w' => e = .returned (.bool true) ∧ Below W.heap.size W w' := fun W hW =>
    (is_num ⟨#[]⟩ false ⟨#[49, 48]⟩ 1 1 1 3 false false 0 0 ⟨#[49]⟩ ⟨#[101, 110]⟩ false ⟨#[49]⟩ 0 0 W
      (fun W2 h2 => R.dec_Parse.calls ⟨#[49]⟩ false ⟨#[49]⟩ 0 true W2 (by kernel_rfl) (tP W2 (below_on hW h2 hW.size)))
      (fun W2 => R.dec_Dec_Compare.calls 10 false ⟨#[49]⟩ 0 false ⟨#[49, 48]⟩ 1 0 W2 (by kernel_rfl))).mono fun e w' ⟨he, hb⟩ => ⟨he.trans (ret_bool (by kernel_rfl)), hb⟩
  have hF : fmC ⟨#[101, 110]⟩ false false ⟨#[49, 48]⟩ 1 = ⟨#[49, 46, 48]⟩ := by kernel_rfl
  have cV := fun b W hm hb => vstr_num b 0 (by decide) (by decide) ⟨#[101, 110]⟩ ⟨#[]⟩ 1 1 3 0 0 false false false ⟨#[49, 48]⟩ 1 ⟨#[49, 48]⟩ 1 (by decide) (by decide) shape_10 W hm hb
  rw [hF] at cV
  clear hF cP1 tP cS
  unfold valC at *
  go_enter Tryz.func6, Tryz.ntmps6
  go_upto_region 2 with (go_at_call 9; refine cW.mono ?_; rintro e W1 ⟨rfl, b1⟩; have h1 := (Own.nil w).step b1)
  have h2 := h1.alloc (.cells #[.int .i64 1, .string ⟨#[]⟩, .bool false, .string ⟨#[49, 48]⟩, .int .i64 1, .int .i64 1, .int .i64 1, .int .i64 3, .bool false, .bool false, .int .i64 0, .int .i64 0] 31)
  clear h1 b1 cW
  generalize W1.alloc _ = W2 at *
  generalize W1.heap.size = g at *
  have p0 := h2.c 0 0 rfl rfl
  have p1 := h2.c 0 1 rfl rfl
  have p2 := h2.c 0 2 rfl rfl
  have p3 := h2.c 0 3 rfl rfl
  have p4 := h2.c 0 4 rfl rfl
  have p5 := h2.c 0 5 rfl rfl
  have p6 := h2.c 0 6 rfl rfl
  have p7 := h2.c 0 7 rfl rfl
  have p8 := h2.c 0 8 rfl rfl
  have p9 := h2.c 0 9 rfl rfl
  have p10 := h2.c 0 10 rfl rfl
  have p11 := h2.c 0 11 rfl rfl
  have hg : g < W2.heap.size := h2.lt 0 rfl
  unfold mkc at *
  have mn := mks14_new W2
  unfold mkc at mn
  have hz : (W2.alloc (.cells #[.int .u32 0, .int .i32 0, .int .u32 0, .int .i64 0, .map none, .map none] 62)).heap.size = W2.heap.size + 1 := by simp
  have cV2 := cV W2.heap.size _ mn (by rw [hz]; omega)
  have h2a := h2.step ((Below.refl _ W2).alloc (Nat.le_refl _) (.cells #[.int .u32 0, .int .i32 0, .int .u32 0, .int .i64 0, .map none, .map none] 62))
  have hgr := fun W3 (g3 : World.grownBy _ W3 (some W2.heap.size)) => h2a.grown g3 (by intro p hp; rcases List.mem_singleton.1 hp with rfl; show g ≠ _; omega) h2.bel.size
  clear cV mn hz h2a
  go_wp2_with (first | (go_at_call 22; refine cV2.mono ?_; rintro e W3 ⟨rfl, m3, g3⟩; have h3 := hgr _ g3; clear p0 p1 p2 p3 p4 p5 p6 p7 p8 p9 p10 p11; have p0 := h3.c 0 0 rfl rfl; have p1 := h3.c 0 1 rfl rfl; have p2 := h3.c 0 2 rfl rfl; have p3 := h3.c 0 3 rfl rfl; have p4 := h3.c 0 4 rfl rfl; have p5 := h3.c 0 5 rfl rfl; have p6 := h3.c 0 6 rfl rfl; have p7 := h3.c 0 7 rfl rfl; have p8 := h3.c 0 8 rfl rfl; have p9 := h3.c 0 9 rfl rfl; have p10 := h3.c 0 10 rfl rfl; have p11 := h3.c 0 11 rfl rfl) | (go_at_call 12; (with_reducible refine (isO _ h3.bel).mono ?_); rintro e W4 ⟨rfl, b4⟩; have h4 := h3.step b4; clear p0 p1 p2 p3 p4 p5 p6 p7 p8 p9 p10 p11; have p0 := h4.c 0 0 rfl rfl; have p1 := h4.c 0 1 rfl rfl; have p2 := h4.c 0 2 rfl rfl; have p3 := h4.c 0 3 rfl rfl; have p4 := h4.c 0 4 rfl rfl; have p5 := h4.c 0 5 rfl rfl; have p6 := h4.c 0 6 rfl rfl; have p7 := h4.c 0 7 rfl rfl; have p8 := h4.c 0 8 rfl rfl; have p9 := h4.c 0 9 rfl rfl; have p10 := h4.c 0 10 rfl rfl; have p11 := h4.c 0 11 rfl rfl) | (go_at_call 12; (with_reducible refine (is1 _ h4.bel).mono ?_); rintro e W5 ⟨rfl, b5⟩; have h5 := h4.step b5; clear p0 p1 p2 p3 p4 p5 p6 p7 p8 p9 p10 p11; have p0 := h5.c 0 0 rfl rfl; have p1 := h5.c 0 1 rfl rfl; have p2 := h5.c 0 2 rfl rfl; have p3 := h5.c 0 3 rfl rfl; have p4 := h5.c 0 4 rfl rfl; have p5 := h5.c 0 5 rfl rfl; have p6 := h5.c 0 6 rfl rfl; have p7 := h5.c 0 7 rfl rfl; have p8 := h5.c 0 8 rfl rfl; have p9 := h5.c 0 9 rfl rfl; have p10 := h5.c 0 10 rfl rfl; have p11 := h5.c 0 11 rfl rfl) | (go_at_call 12; (with_reducible refine (isN _ h5.bel).mono ?_); rintro e W6 ⟨rfl, b6⟩; have h6 := h5.step b6))
  go_ret
  exact ⟨rfl, h6.bel⟩
end Go.Proofs.YtgjboghnnhcgiaaGreatDoor
namespace Go.Proofs.YtgjboghnnhcgiaaGreatDoor
open Go.RowKit
set_option linter.unusedVariables false
set_option linter.unusedSimpArgs false
def isMI (s : ByteArray) : Bool := s.toList == [109, 105, 110, 105, 109, 117, 109, 73, 110, 116, 101, 103, 101, 114, 68, 105, 103, 105, 116, 115]
def isMF (s : ByteArray) : Bool := s.toList == [109, 105, 110, 105, 109, 117, 109, 70, 114, 97, 99, 116, 105, 111, 110, 68, 105, 103, 105, 116, 115]
def isXF (s : ByteArray) : Bool := s.toList == [109, 97, 120, 105, 109, 117, 109, 70, 114, 97, 99, 116, 105, 111, 110, 68, 105, 103, 105, 116, 115]
def stN (mi mf xf : Int) (name : ByteArray) (n : Int) : Bool × Int × Int × Int :=
  if n < 0 then (false, mi, mf, xf) else if 20 < n then (false, mi, mf, xf) else if isMI name = true ∧ 0 < n then (true, n, mf, xf) else
  if isMF name = true then (true, mi, n, if xf < n then n else xf) else if isXF name = true then (true, mi, if n < mf then n else mf, n) else (false, mi, mf, xf)
def optC (mi mf xf : Int) (pl rk : Bool) : Array Value := #[.int .i64 mi, .int .i64 mf, .int .i64 xf, .bool pl, .bool rk]
theorem opt_cells {g : Nat} {W : World} {mi mf xf : Int} {pl rk : Bool} (h : W.heap[g]? = some (.cells (optC mi mf xf pl rk) 28 (0, 0))) :
    W.cell? ⟨g, 0, none⟩ = some (.int .i64 mi) ∧ W.cell? ⟨g, 1, none⟩ = some (.int .i64 mf) ∧ W.cell? ⟨g, 2, none⟩ = some (.int .i64 xf) ∧ W.cell? ⟨g, 3, none⟩ = some (.bool pl) ∧ W.cell? ⟨g, 4, none⟩ = some (.bool rk) ∧ ∀ i, W.frozen? ⟨g, i, none⟩ = false :=
  ⟨(Lib.cell_of_heap h 0).trans rfl, (Lib.cell_of_heap h 1).trans rfl, (Lib.cell_of_heap h 2).trans rfl, (Lib.cell_of_heap h 3).trans rfl, (Lib.cell_of_heap h 4).trans rfl, fun i => Lib.frozen_of_heap h i⟩
structure Turned (W : World) (g : Nat) (o : Obj) (W1 : World) : Prop where
  at_ : W1.heap[g]? = some o
  far : ∀ k, k ≠ g → W1.heap[k]? = W.heap[k]?
  bel : Below g W W1
theorem Turned.same {W : World} {g : Nat} {o : Obj} (h : W.heap[g]? = some o) : Turned W g o W := ⟨h, fun _ _ => rfl, Below.refl _ _⟩
theorem Turned.set {W W1 : World} {g : Nat} {cs : Array Value} {T : TypeId} {fr : Nat × Nat} (h : Turned W g (.cells cs T fr) W1) (i : Nat) (v : Value) : Turned W g (.cells (cs.setIfInBounds i v) T fr) (W1.setCell ⟨g, i, none⟩ v) :=
  ⟨heap_set h.at_, fun k hk => (heap_far hk).trans (h.far k hk), h.bel.setCell (p := ⟨g, i, none⟩) (Nat.le_refl g) v⟩
theorem Turned.drew {W W1 : World} {g : Nat} {o : Obj} (h : Turned W g o W1) : Turned W g o W1.drew := ⟨h.at_, h.far, h.bel.drew⟩
theorem Own.turned {w W W1 : World} {L : List (Nat × Obj)} (h : Own w L W) (i : Nat) {b : Nat} {o o2 : Obj} (hi : L[i]? = some (b, o)) (t : Turned W b o2 W1) : Own w (L.set i (b, o2)) W1 := h.put i hi t.at_ t.far t.bel
set_option maxRecDepth 100000 in
set_option maxHeartbeats 4000000 in
theorem set_any (g : Nat) (mi mf xf : Int) (pl rk : Bool) (name : ByteArray) (n : Int) (W : World) (hg : W.heap[g]? = some (.cells (optC mi mf xf pl rk) 28 (0, 0))) :
    Calls Tryz.prog 74 #[.pointer (some ⟨g, 0, none⟩), .string name, .int .i64 n] W fun e w' => e = .returned (.bool (stN mi mf xf name n).1) ∧
      Turned W g (.cells (optC (stN mi mf xf name n).2.1 (stN mi mf xf name n).2.2.1 (stN mi mf xf name n).2.2.2 pl rk) 28 (0, 0)) w' := by
  obtain ⟨p0, p1, p2, p3, p4, fz⟩ := opt_cells hg
  have t0 := Turned.same hg
  have fz0 := fz 0
  have fz1 := fz 1
  have fz2 := fz 2
  clear fz hg
  obtain ⟨R, hR⟩ : ∃ R, stN mi mf xf name n = R := ⟨_, rfl⟩
  rw [hR]
  unfold stN at hR
  by_cases h0 : n < 0
  · rw [if_pos h0] at hR
    subst hR
    have g0 : decide (n < 0) = true := decide_eq_true h0
    go_enter Tryz.func74, Tryz.ntmps74
    go_wp2
    go_ret
    exact ⟨rfl, t0⟩
  rw [if_neg h0] at hR
  have g0 : decide (n < 0) = false := decide_eq_false h0
  by_cases h1 : 20 < n
  · rw [if_pos h1] at hR
    subst hR
    have g1 : decide (n > 20) = true := decide_eq_true h1
    go_enter Tryz.func74, Tryz.ntmps74
    go_wp2
    go_ret
    exact ⟨rfl, t0⟩
  rw [if_neg h1] at hR
  have g1 : decide (n > 20) = false := decide_eq_false h1
  by_cases h2 : isMI name = true ∧ 0 < n
  · rw [if_pos h2] at hR
    subst hR
    have g2 : decide (n > 0) = true := decide_eq_true h2.2
    have e2 : (name.toList == [109, 105, 110, 105, 109, 117, 109, 73, 110, 116, 101, 103, 101, 114, 68, 105, 103, 105, 116, 115]) = true := h2.1
    have t1 := t0.set 0 (.int .i64 n)
    go_enter Tryz.func74, Tryz.ntmps74
    go_wp2
    go_ret
    exact ⟨rfl, t1⟩
  rw [if_neg h2] at hR
  obtain ⟨y, hy⟩ : ∃ y, isMI name = y := ⟨_, rfl⟩
  obtain ⟨z, hz⟩ : ∃ z, decide (n > 0) = z := ⟨_, rfl⟩
  have hyz : (y && z) = false := by
    rw [← hy, ← hz]
    cases hx : isMI name with
    | false => rfl
    | true =>
      rw [Bool.true_and, decide_eq_false_iff_not]
      exact fun h => h2 ⟨hx, h⟩
  have e2 : (name.toList == [109, 105, 110, 105, 109, 117, 109, 73, 110, 116, 101, 103, 101, 114, 68, 105, 103, 105, 116, 115]) = y := hy
  clear h2 hy
  by_cases h3 : isMF name = true
  · rw [if_pos h3] at hR
    have e3 : (name.toList == [109, 105, 110, 105, 109, 117, 109, 70, 114, 97, 99, 116, 105, 111, 110, 68, 105, 103, 105, 116, 115]) = true := h3
    have t1 := (t0.set 1 (.int .i64 n)).set 2 (.int .i64 (if xf < n then n else xf))
    subst hR
    obtain ⟨m, hm⟩ : ∃ m, (if xf < n then n else xf) = m := ⟨_, rfl⟩
    have hm2 : max xf n = m := by rw [← hm]; omega
    simp only [hm] at t1 ⊢
    cases y with
    | false =>
      go_enter Tryz.func74, Tryz.ntmps74
      go_wp2
      go_ret
      exact ⟨rfl, t1⟩
    | true =>
      cases z with
      | true => cases hyz
      | false =>
        go_enter Tryz.func74, Tryz.ntmps74
        go_wp2
        go_ret
        exact ⟨rfl, t1⟩
  rw [if_neg h3] at hR
  have e3 : (name.toList == [109, 105, 110, 105, 109, 117, 109, 70, 114, 97, 99, 116, 105, 111, 110, 68, 105, 103, 105, 116, 115]) = false := by simpa [isMF] using h3
  by_cases h4 : isXF name = true
  · rw [if_pos h4] at hR
    have e4 : (name.toList == [109, 97, 120, 105, 109, 117, 109, 70, 114, 97, 99, 116, 105, 111, 110, 68, 105, 103, 105, 116, 115]) = true := h4
    have t1 := (t0.set 2 (.int .i64 n)).set 1 (.int .i64 (if n < mf then n else mf))
    subst hR
    obtain ⟨m, hm⟩ : ∃ m, (if n < mf then n else mf) = m := ⟨_, rfl⟩
    have hm2 : min mf n = m := by rw [← hm]; omega
    simp only [hm] at t1 ⊢
    cases y with
    | false =>
      go_enter Tryz.func74, Tryz.ntmps74
      go_wp2
      go_ret
      exact ⟨rfl, t1⟩
    | true =>
      cases z with
      | true => cases hyz
      | false =>
        go_enter Tryz.func74, Tryz.ntmps74
        go_wp2
        go_ret
        exact ⟨rfl, t1⟩
  rw [if_neg h4] at hR
  have e4 : (name.toList == [109, 97, 120, 105, 109, 117, 109, 70, 114, 97, 99, 116, 105, 111, 110, 68, 105, 103, 105, 116, 115]) = false := by simpa [isXF] using h4
  subst hR
  cases y with
  | false =>
    go_enter Tryz.func74, Tryz.ntmps74
    go_wp2
    go_ret
    exact ⟨rfl, t0⟩
  | true =>
    cases z with
    | true => cases hyz
    | false =>
      go_enter Tryz.func74, Tryz.ntmps74
      go_wp2
      go_ret
      exact ⟨rfl, t0⟩
end Go.Proofs.YtgjboghnnhcgiaaGreatDoor
namespace Go.Proofs.YtgjboghnnhcgiaaGreatDoor
open Go.RowKit
set_option linter.unusedVariables false
set_option linter.unusedSimpArgs false
def stS (mi mf xf : Int) (pl rk : Bool) (name text : ByteArray) (dg : Int) (isT : Bool) : Bool × Int × Int × Int × Bool × Bool :=
  if isT = false then ((stN mi mf xf name dg).1, (stN mi mf xf name dg).2.1, (stN mi mf xf name dg).2.2.1, (stN mi mf xf name dg).2.2.2, pl, rk)
  else if (name.toList == [117, 115, 101, 71, 114, 111, 117, 112, 105, 110, 103]) = true then ((text.toList == [102, 97, 108, 115, 101]) || (text.toList == [116, 114, 117, 101]), mi, mf, xf, (text.toList == [102, 97, 108, 115, 101]), rk)
  else if (name.toList == [116, 121, 112, 101]) = true then ((text.toList == [111, 114, 100, 105, 110, 97, 108]) || (text.toList == [99, 97, 114, 100, 105, 110, 97, 108]), mi, mf, xf, pl, (text.toList == [111, 114, 100, 105, 110, 97, 108]))
  else (false, mi, mf, xf, pl, rk)
def zO : Array Value := #[.int .i64 0, .int .i64 0, .int .i64 0, .bool false, .bool false]
set_option maxRecDepth 100000 in
set_option maxHeartbeats 4000000 in
theorem Set_any (mi mf xf : Int) (pl rk : Bool) (name text : ByteArray) (n : Bool) (D : ByteArray) (k : Int) (isT : Bool) (dg : Int)
    (cD : ∀ W, Calls Tryz.prog 75 #[decV n D k] W fun e w' => e = .returned (.int .i64 dg) ∧ Below W.heap.size W w') (w : World) :
    Calls Tryz.prog 37 #[optV mi mf xf pl rk, .string name, .string text, decV n D k, .bool isT] w fun e w' =>
      (∃ z mi1 mf1 xf1 pl1 rk1, stS mi mf xf pl rk name text dg isT = (z, mi1, mf1, xf1, pl1, rk1) ∧
        e = .returned (.tuple (if z = true then #[optV mi1 mf1 xf1 pl1 rk1, .int .i64 0] else #[optV 0 0 0 false false, .int .i64 1]))) ∧ Below w.heap.size w w' := by
  have h0 := Own.three w (.cells (optC mi mf xf pl rk) 28) (.cells #[.bool n, .string D, .int .i64 k] 23) (.cells zO 28)
  unfold decV optV at *
  unfold zO optC at h0
  unfold stS
  cases isT with
  | false =>
    rw [if_pos rfl]
    have cs := fun W => set_any w.heap.size mi mf xf pl rk name dg W
    unfold optC at cs
    generalize stN mi mf xf name dg = R at *
    obtain ⟨z, a, b, c⟩ := R
    dsimp only at cs ⊢
    go_enter Tryz.func37, Tryz.ntmps37
    go_upto_region 2 with (fail)
    generalize (((w.alloc (.cells #[.int .i64 mi, .int .i64 mf, .int .i64 xf, .bool pl, .bool rk] 28)).alloc (.cells #[.bool n, .string D, .int .i64 k] 23)).alloc (.cells #[.int .i64 0, .int .i64 0, .int .i64 0, .bool false, .bool false] 28)) = W0 at *
    have p0 := h0.c 1 0 rfl rfl
    have p1 := h0.c 1 1 rfl rfl
    have p2 := h0.c 1 2 rfl rfl
    go_upto_region 8 with (first | (go_at_call 75; refine (cD _).mono ?_; rintro e W1 ⟨rfl, b1⟩; have h1 := h0.step b1) | (go_at_call 74; refine (cs _ (h1.at (i := 2) rfl)).mono ?_; rintro e W2 ⟨rfl, t2⟩; have h2 := h1.turned 2 rfl t2))
    clear p0 p1 p2 cs cD
    have bel := h2.bel
    cases z with
    | false =>
      have r0 := h2.c 0 0 rfl rfl
      have r1 := h2.c 0 1 rfl rfl
      have r2 := h2.c 0 2 rfl rfl
      have r3 := h2.c 0 3 rfl rfl
      have r4 := h2.c 0 4 rfl rfl
      have f0 := h2.fz 0 0 rfl
      have f1 := h2.fz 0 1 rfl
      have f2 := h2.fz 0 2 rfl
      have f3 := h2.fz 0 3 rfl
      have f4 := h2.fz 0 4 rfl
      have h3 := ((((h2.set 0 0 (.int .i64 0) rfl).set 0 1 (.int .i64 0) rfl).set 0 2 (.int .i64 0) rfl).set 0 3 (.bool false) rfl).set 0 4 (.bool false) rfl
      have q0 := h3.c 0 0 rfl rfl
      have q1 := h3.c 0 1 rfl rfl
      have q2 := h3.c 0 2 rfl rfl
      have q3 := h3.c 0 3 rfl rfl
      have q4 := h3.c 0 4 rfl rfl
      go_wp2
      refine bodyPost_ret (v := .tuple #[.agg #[.int .i64 0, .int .i64 0, .int .i64 0, .bool false, .bool false], .int .i64 1]) (by simp [results, Tryz.results37, go_sem, q0, q1, q2, q3, q4]) rfl ?_
      exact ⟨⟨false, a, b, c, pl, rk, rfl, rfl⟩, h3.bel⟩
    | true =>
      have r0 := h2.c 0 0 rfl rfl
      have r1 := h2.c 0 1 rfl rfl
      have r2 := h2.c 0 2 rfl rfl
      have r3 := h2.c 0 3 rfl rfl
      have r4 := h2.c 0 4 rfl rfl
      have p0 := h2.c 2 0 rfl rfl
      have p1 := h2.c 2 1 rfl rfl
      have p2 := h2.c 2 2 rfl rfl
      have p3 := h2.c 2 3 rfl rfl
      have p4 := h2.c 2 4 rfl rfl
      have f0 := h2.fz 0 0 rfl
      have f1 := h2.fz 0 1 rfl
      have f2 := h2.fz 0 2 rfl
      have f3 := h2.fz 0 3 rfl
      have f4 := h2.fz 0 4 rfl
      have h3 := ((((h2.set 0 0 (.int .i64 a) rfl).set 0 1 (.int .i64 b) rfl).set 0 2 (.int .i64 c) rfl).set 0 3 (.bool pl) rfl).set 0 4 (.bool rk) rfl
      have q0 := h3.c 0 0 rfl rfl
      have q1 := h3.c 0 1 rfl rfl
      have q2 := h3.c 0 2 rfl rfl
      have q3 := h3.c 0 3 rfl rfl
      have q4 := h3.c 0 4 rfl rfl
      go_wp2
      refine bodyPost_ret (v := .tuple #[.agg #[.int .i64 a, .int .i64 b, .int .i64 c, .bool pl, .bool rk], .int .i64 0]) (by simp [results, Tryz.results37, go_sem, q0, q1, q2, q3, q4]) rfl ?_
      exact ⟨⟨true, a, b, c, pl, rk, rfl, rfl⟩, h3.bel⟩
  | true =>
    rw [if_neg (by decide)]
    clear cD
    by_cases h1 : (name.toList == [117, 115, 101, 71, 114, 111, 117, 112, 105, 110, 103]) = true
    · rw [if_pos h1]
      obtain ⟨x, hx⟩ : ∃ x, (text.toList == [102, 97, 108, 115, 101]) = x := ⟨_, rfl⟩
      obtain ⟨y, hy⟩ : ∃ y, (text.toList == [116, 114, 117, 101]) = y := ⟨_, rfl⟩
      simp only [hx, hy]
      go_enter Tryz.func37, Tryz.ntmps37
      go_upto_region 2 with (fail)
      generalize (((w.alloc (.cells #[.int .i64 mi, .int .i64 mf, .int .i64 xf, .bool pl, .bool rk] 28)).alloc (.cells #[.bool n, .string D, .int .i64 k] 23)).alloc (.cells #[.int .i64 0, .int .i64 0, .int .i64 0, .bool false, .bool false] 28)) = W0 at *
      have p3 := h0.c 2 3 rfl rfl
      have g3 := h0.fz 2 3 rfl
      have h2 := h0.set 2 3 (.bool x) rfl
      cases x with
      | true =>
        go_upto_region 8 with (fail)
        generalize W0.setCell ⟨w.heap.size, 3, none⟩ (.bool true) = W2 at *
        clear p3 g3 h0
        have r0 := h2.c 0 0 rfl rfl
        have r1 := h2.c 0 1 rfl rfl
        have r2 := h2.c 0 2 rfl rfl
        have r3 := h2.c 0 3 rfl rfl
        have r4 := h2.c 0 4 rfl rfl
        have p0 := h2.c 2 0 rfl rfl
        have p1 := h2.c 2 1 rfl rfl
        have p2 := h2.c 2 2 rfl rfl
        have p3 := h2.c 2 3 rfl rfl
        have p4 := h2.c 2 4 rfl rfl
        have f0 := h2.fz 0 0 rfl
        have f1 := h2.fz 0 1 rfl
        have f2 := h2.fz 0 2 rfl
        have f3 := h2.fz 0 3 rfl
        have f4 := h2.fz 0 4 rfl
        have h3 := (((((h2).set 0 0 (.int .i64 mi) rfl).set 0 1 (.int .i64 mf) rfl).set 0 2 (.int .i64 xf) rfl).set 0 3 (.bool true) rfl).set 0 4 (.bool rk) rfl
        have q0 := h3.c 0 0 rfl rfl
        have q1 := h3.c 0 1 rfl rfl
        have q2 := h3.c 0 2 rfl rfl
        have q3 := h3.c 0 3 rfl rfl
        have q4 := h3.c 0 4 rfl rfl
        go_wp2
        refine bodyPost_ret (v := .tuple #[.agg #[.int .i64 mi, .int .i64 mf, .int .i64 xf, .bool true, .bool rk], .int .i64 0]) (by simp [results, Tryz.results37, go_sem, q0, q1, q2, q3, q4]) rfl ?_
        exact ⟨⟨true, mi, mf, xf, true, rk, rfl, rfl⟩, h3.bel⟩
      | false =>
        cases y with
        | true =>
          go_upto_region 8 with (fail)
          generalize W0.setCell ⟨w.heap.size, 3, none⟩ (.bool false) = W2 at *
          clear p3 g3 h0
          have r0 := h2.c 0 0 rfl rfl
          have r1 := h2.c 0 1 rfl rfl
          have r2 := h2.c 0 2 rfl rfl
          have r3 := h2.c 0 3 rfl rfl
          have r4 := h2.c 0 4 rfl rfl
          have p0 := h2.c 2 0 rfl rfl
          have p1 := h2.c 2 1 rfl rfl
          have p2 := h2.c 2 2 rfl rfl
          have p3 := h2.c 2 3 rfl rfl
          have p4 := h2.c 2 4 rfl rfl
          have f0 := h2.fz 0 0 rfl
          have f1 := h2.fz 0 1 rfl
          have f2 := h2.fz 0 2 rfl
          have f3 := h2.fz 0 3 rfl
          have f4 := h2.fz 0 4 rfl
          have h3 := (((((h2).set 0 0 (.int .i64 mi) rfl).set 0 1 (.int .i64 mf) rfl).set 0 2 (.int .i64 xf) rfl).set 0 3 (.bool false) rfl).set 0 4 (.bool rk) rfl
          have q0 := h3.c 0 0 rfl rfl
          have q1 := h3.c 0 1 rfl rfl
          have q2 := h3.c 0 2 rfl rfl
          have q3 := h3.c 0 3 rfl rfl
          have q4 := h3.c 0 4 rfl rfl
          go_wp2
          refine bodyPost_ret (v := .tuple #[.agg #[.int .i64 mi, .int .i64 mf, .int .i64 xf, .bool false, .bool rk], .int .i64 0]) (by simp [results, Tryz.results37, go_sem, q0, q1, q2, q3, q4]) rfl ?_
          exact ⟨⟨true, mi, mf, xf, false, rk, rfl, rfl⟩, h3.bel⟩
        | false =>
          go_upto_region 8 with (fail)
          generalize W0.setCell ⟨w.heap.size, 3, none⟩ (.bool false) = W2 at *
          clear p3 g3 h0
          have r0 := h2.c 0 0 rfl rfl
          have r1 := h2.c 0 1 rfl rfl
          have r2 := h2.c 0 2 rfl rfl
          have r3 := h2.c 0 3 rfl rfl
          have r4 := h2.c 0 4 rfl rfl
          have f0 := h2.fz 0 0 rfl
          have f1 := h2.fz 0 1 rfl
          have f2 := h2.fz 0 2 rfl
          have f3 := h2.fz 0 3 rfl
          have f4 := h2.fz 0 4 rfl
          have h3 := (((((h2).set 0 0 (.int .i64 0) rfl).set 0 1 (.int .i64 0) rfl).set 0 2 (.int .i64 0) rfl).set 0 3 (.bool false) rfl).set 0 4 (.bool false) rfl
          have q0 := h3.c 0 0 rfl rfl
          have q1 := h3.c 0 1 rfl rfl
          have q2 := h3.c 0 2 rfl rfl
          have q3 := h3.c 0 3 rfl rfl
          have q4 := h3.c 0 4 rfl rfl
          go_wp2
          refine bodyPost_ret (v := .tuple #[.agg #[.int .i64 0, .int .i64 0, .int .i64 0, .bool false, .bool false], .int .i64 1]) (by simp [results, Tryz.results37, go_sem, q0, q1, q2, q3, q4]) rfl ?_
          exact ⟨⟨false, mi, mf, xf, false, rk, rfl, rfl⟩, h3.bel⟩
    rw [if_neg h1]
    have e1 : (name.toList == [117, 115, 101, 71, 114, 111, 117, 112, 105, 110, 103]) = false := by simpa using h1
    by_cases h2 : (name.toList == [116, 121, 112, 101]) = true
    · rw [if_pos h2]
      obtain ⟨x, hx⟩ : ∃ x, (text.toList == [111, 114, 100, 105, 110, 97, 108]) = x := ⟨_, rfl⟩
      obtain ⟨y, hy⟩ : ∃ y, (text.toList == [99, 97, 114, 100, 105, 110, 97, 108]) = y := ⟨_, rfl⟩
      simp only [hx, hy]
      go_enter Tryz.func37, Tryz.ntmps37
      go_upto_region 2 with (fail)
      generalize (((w.alloc (.cells #[.int .i64 mi, .int .i64 mf, .int .i64 xf, .bool pl, .bool rk] 28)).alloc (.cells #[.bool n, .string D, .int .i64 k] 23)).alloc (.cells #[.int .i64 0, .int .i64 0, .int .i64 0, .bool false, .bool false] 28)) = W0 at *
      have p4 := h0.c 2 4 rfl rfl
      have g4 := h0.fz 2 4 rfl
      have h2 := h0.set 2 4 (.bool x) rfl
      cases x with
      | true =>
        go_upto_region 8 with (fail)
        generalize W0.setCell ⟨w.heap.size, 4, none⟩ (.bool true) = W2 at *
        clear p4 g4 h0
        have r0 := h2.c 0 0 rfl rfl
        have r1 := h2.c 0 1 rfl rfl
        have r2 := h2.c 0 2 rfl rfl
        have r3 := h2.c 0 3 rfl rfl
        have r4 := h2.c 0 4 rfl rfl
        have p0 := h2.c 2 0 rfl rfl
        have p1 := h2.c 2 1 rfl rfl
        have p2 := h2.c 2 2 rfl rfl
        have p3 := h2.c 2 3 rfl rfl
        have p4 := h2.c 2 4 rfl rfl
        have f0 := h2.fz 0 0 rfl
        have f1 := h2.fz 0 1 rfl
        have f2 := h2.fz 0 2 rfl
        have f3 := h2.fz 0 3 rfl
        have f4 := h2.fz 0 4 rfl
        have h3 := (((((h2).set 0 0 (.int .i64 mi) rfl).set 0 1 (.int .i64 mf) rfl).set 0 2 (.int .i64 xf) rfl).set 0 3 (.bool pl) rfl).set 0 4 (.bool true) rfl
        have q0 := h3.c 0 0 rfl rfl
        have q1 := h3.c 0 1 rfl rfl
        have q2 := h3.c 0 2 rfl rfl
        have q3 := h3.c 0 3 rfl rfl
        have q4 := h3.c 0 4 rfl rfl
        go_wp2
        refine bodyPost_ret (v := .tuple #[.agg #[.int .i64 mi, .int .i64 mf, .int .i64 xf, .bool pl, .bool true], .int .i64 0]) (by simp [results, Tryz.results37, go_sem, q0, q1, q2, q3, q4]) rfl ?_
        exact ⟨⟨true, mi, mf, xf, pl, true, rfl, rfl⟩, h3.bel⟩
      | false =>
        cases y with
        | true =>
          go_upto_region 8 with (fail)
          generalize W0.setCell ⟨w.heap.size, 4, none⟩ (.bool false) = W2 at *
          clear p4 g4 h0
          have r0 := h2.c 0 0 rfl rfl
          have r1 := h2.c 0 1 rfl rfl
          have r2 := h2.c 0 2 rfl rfl
          have r3 := h2.c 0 3 rfl rfl
          have r4 := h2.c 0 4 rfl rfl
          have p0 := h2.c 2 0 rfl rfl
          have p1 := h2.c 2 1 rfl rfl
          have p2 := h2.c 2 2 rfl rfl
          have p3 := h2.c 2 3 rfl rfl
          have p4 := h2.c 2 4 rfl rfl
          have f0 := h2.fz 0 0 rfl
          have f1 := h2.fz 0 1 rfl
          have f2 := h2.fz 0 2 rfl
          have f3 := h2.fz 0 3 rfl
          have f4 := h2.fz 0 4 rfl
          have h3 := (((((h2).set 0 0 (.int .i64 mi) rfl).set 0 1 (.int .i64 mf) rfl).set 0 2 (.int .i64 xf) rfl).set 0 3 (.bool pl) rfl).set 0 4 (.bool false) rfl
          have q0 := h3.c 0 0 rfl rfl
          have q1 := h3.c 0 1 rfl rfl
          have q2 := h3.c 0 2 rfl rfl
          have q3 := h3.c 0 3 rfl rfl
          have q4 := h3.c 0 4 rfl rfl
          go_wp2
          refine bodyPost_ret (v := .tuple #[.agg #[.int .i64 mi, .int .i64 mf, .int .i64 xf, .bool pl, .bool false], .int .i64 0]) (by simp [results, Tryz.results37, go_sem, q0, q1, q2, q3, q4]) rfl ?_
          exact ⟨⟨true, mi, mf, xf, pl, false, rfl, rfl⟩, h3.bel⟩
        | false =>
          go_upto_region 8 with (fail)
          generalize W0.setCell ⟨w.heap.size, 4, none⟩ (.bool false) = W2 at *
          clear p4 g4 h0
          have r0 := h2.c 0 0 rfl rfl
          have r1 := h2.c 0 1 rfl rfl
          have r2 := h2.c 0 2 rfl rfl
          have r3 := h2.c 0 3 rfl rfl
          have r4 := h2.c 0 4 rfl rfl
          have f0 := h2.fz 0 0 rfl
          have f1 := h2.fz 0 1 rfl
          have f2 := h2.fz 0 2 rfl
          have f3 := h2.fz 0 3 rfl
          have f4 := h2.fz 0 4 rfl
          have h3 := (((((h2).set 0 0 (.int .i64 0) rfl).set 0 1 (.int .i64 0) rfl).set 0 2 (.int .i64 0) rfl).set 0 3 (.bool false) rfl).set 0 4 (.bool false) rfl
          have q0 := h3.c 0 0 rfl rfl
          have q1 := h3.c 0 1 rfl rfl
          have q2 := h3.c 0 2 rfl rfl
          have q3 := h3.c 0 3 rfl rfl
          have q4 := h3.c 0 4 rfl rfl
          go_wp2
          refine bodyPost_ret (v := .tuple #[.agg #[.int .i64 0, .int .i64 0, .int .i64 0, .bool false, .bool false], .int .i64 1]) (by simp [results, Tryz.results37, go_sem, q0, q1, q2, q3, q4]) rfl ?_
          exact ⟨⟨false, mi, mf, xf, pl, false, rfl, rfl⟩, h3.bel⟩
    rw [if_neg h2]
    have e2 : (name.toList == [116, 121, 112, 101]) = false := by simpa using h2
    go_enter Tryz.func37, Tryz.ntmps37
    go_upto_region 8 with (fail)
    generalize (((w.alloc (.cells #[.int .i64 mi, .int .i64 mf, .int .i64 xf, .bool pl, .bool rk] 28)).alloc (.cells #[.bool n, .string D, .int .i64 k] 23)).alloc (.cells #[.int .i64 0, .int .i64 0, .int .i64 0, .bool false, .bool false] 28)) = W0 at *
    have r0 := h0.c 0 0 rfl rfl
    have r1 := h0.c 0 1 rfl rfl
    have r2 := h0.c 0 2 rfl rfl
    have r3 := h0.c 0 3 rfl rfl
    have r4 := h0.c 0 4 rfl rfl
    have f0 := h0.fz 0 0 rfl
    have f1 := h0.fz 0 1 rfl
    have f2 := h0.fz 0 2 rfl
    have f3 := h0.fz 0 3 rfl
    have f4 := h0.fz 0 4 rfl
    have h3 := (((((h0).set 0 0 (.int .i64 0) rfl).set 0 1 (.int .i64 0) rfl).set 0 2 (.int .i64 0) rfl).set 0 3 (.bool false) rfl).set 0 4 (.bool false) rfl
    have q0 := h3.c 0 0 rfl rfl
    have q1 := h3.c 0 1 rfl rfl
    have q2 := h3.c 0 2 rfl rfl
    have q3 := h3.c 0 3 rfl rfl
    have q4 := h3.c 0 4 rfl rfl
    go_wp2
    refine bodyPost_ret (v := .tuple #[.agg #[.int .i64 0, .int .i64 0, .int .i64 0, .bool false, .bool false], .int .i64 1]) (by simp [results, Tryz.results37, go_sem, q0, q1, q2, q3, q4]) rfl ?_
    exact ⟨⟨false, mi, mf, xf, pl, rk, rfl, rfl⟩, h3.bel⟩
end Go.Proofs.YtgjboghnnhcgiaaGreatDoor
namespace Go.Proofs.YtgjboghnnhcgiaaGreatDoor
open Go.RowKit
set_option linter.unusedVariables false
set_option linter.unusedSimpArgs false
def nuL (l : List UInt8) : Int := l.foldl (fun x c => x * 10 + ((c.toNat : Int) - 48)) 0
def dgV (n : Bool) (E : ByteArray) (K : Nat) : Int := if 0 < K then -1 else if 2 < E.size then -1 else if (n && !(Lib.trimB E.data.toList 48).isEmpty) = true then -1 else nuL E.data.toList
theorem dg_int {x y : Int} (h : x = y) : (Ending.returned (.int .i64 x)) = .returned (.int .i64 y) := by rw [h]
set_option maxRecDepth 100000 in
set_option maxHeartbeats 4000000 in
theorem digits_any (n : Bool) (D : ByteArray) (k : Int) (E : ByteArray) (J : Nat)
    (cT : ∀ W, Calls Tryz.prog 61 #[decV n D k, .int .i64 0] W fun e w' => e = .returned (decV n E J) ∧ Below W.heap.size W w')
    (hE : E.size ≤ 1000) (hJ : J ≤ 1000) (hd : ∀ j (h : j < E.size), 48 ≤ (E[j]'h).toNat ∧ (E[j]'h).toNat ≤ 57) (w : World) :
    Calls Tryz.prog 75 #[decV n D k] w fun e w' => e = .returned (.int .i64 (dgV n E J)) ∧ Below w.heap.size w w' := by
  have h0 := Own.one w (.cells #[.bool n, .string D, .int .i64 k] 23)
  have cZ := fun W => zero_any n E J W (by omega)
  obtain ⟨R, hR⟩ : ∃ R, dgV n E J = R := ⟨_, rfl⟩
  rw [hR]
  unfold dgV at hR
  unfold decV at *
  go_enter Tryz.func75, Tryz.ntmps75
  go_upto_region 1 with (fail)
  generalize w.alloc (.cells #[.bool n, .string D, .int .i64 k] 23) = W0 at *
  have p0 := h0.c 0 0 rfl rfl
  have p1 := h0.c 0 1 rfl rfl
  have p2 := h0.c 0 2 rfl rfl
  go_upto_region 2 with (go_at_call 61; refine (cT _).mono ?_; rintro e W1 ⟨rfl, b1⟩; have h1 := h0.step b1; have q0 := h1.c 0 0 rfl rfl; have q1 := h1.c 0 1 rfl rfl; have q2 := h1.c 0 2 rfl rfl; have f0 := h1.fz 0 0 rfl; have f1 := h1.fz 0 1 rfl; have f2 := h1.fz 0 2 rfl)
  have h2 := ((h1.set 0 0 (.bool n) rfl).set 0 1 (.string E) rfl).set 0 2 (.int .i64 J) rfl
  clear p0 p1 p2 q0 q1 q2 f0 f1 f2 h0 h1 b1 cT
  generalize ((W1.setCell ⟨w.heap.size, 0, none⟩ (.bool n)).setCell ⟨w.heap.size, 1, none⟩ (.string E)).setCell ⟨w.heap.size, 2, none⟩ (.int .i64 (J : Int)) = W2 at *
  have p0 := h2.c 0 0 rfl rfl
  have p1 := h2.c 0 1 rfl rfl
  have p2 := h2.c 0 2 rfl rfl
  have bel := h2.bel
  by_cases c1 : 0 < J
  · rw [if_pos c1] at hR
    subst hR
    have g1 : decide ((J : Int) > 0) = true := decide_eq_true (by omega)
    go_wp2
    go_ret
    exact ⟨rfl, bel⟩
  rw [if_neg c1] at hR
  have g1 : decide ((J : Int) > 0) = false := decide_eq_false (by omega)
  by_cases c2 : 2 < E.size
  · rw [if_pos c2] at hR
    subst hR
    have g2 : decide ((E.size : Int) > 2) = true := decide_eq_true (by omega)
    go_wp2
    go_ret
    exact ⟨rfl, bel⟩
  rw [if_neg c2] at hR
  have g2 : decide ((E.size : Int) > 2) = false := decide_eq_false (by omega)
  have body : ∀ W, Own w [(w.heap.size, .cells #[.bool n, .string E, .int .i64 J] 23 (0, 0))] W → True := fun _ _ => trivial
  generalize (Lib.trimB E.data.toList 48).isEmpty = z at *
  have hloop : ∀ (h : ¬ (n && !z) = true), nuL E.data.toList = R := fun h => by rw [if_neg h] at hR; exact hR
  have hneg : ∀ (h : (n && !z) = true), R = -1 := fun h => by rw [if_pos h] at hR; exact hR.symm
  clear hR
  obtain ⟨y, hy⟩ : ∃ y, (n && !z) = y := ⟨_, rfl⟩
  rw [hy] at hloop hneg
  cases y with
  | true =>
    have hr := hneg rfl
    subst hr
    obtain ⟨rfl, rfl⟩ : n = true ∧ z = false := by cases n <;> cases z <;> simp_all
    go_wp2_with (go_at_call 28; refine (cZ _).mono ?_; rintro e W3 ⟨rfl, b3⟩; have h3 := h2.step b3; have bel := h3.bel)
    go_ret
    exact ⟨rfl, h3.bel⟩
  | false =>
    have hr : (E.data.toList).foldl (fun x c => x * 10 + ((c.toNat : Int) - 48)) 0 = R := hloop (by decide)
    clear hloop hneg
    cases n with
    | false =>
      clear hy
      go_upto_region 4 with (fail)
      have e0 := h2.c 0 1 rfl rfl
      have bel := h2.bel
      clear p0 p1 p2
      go_upto_region 5 with (fail)
      have hit1 := World.iter_heap W2 E 0
      have bI := bel.alloc bel.size (.stringIter E 0)
      have hk0 : w.heap.size < W2.heap.size := h2.lt 0 rfl
      go_wp2
      generalize hk : W2.heap.size = k0 at *
      have HK := Lib.hid hk; clear hk
      go_loopg [3] E.size (fun gk sx wx => ∃ (pos : Nat) (x : Int), sx = .int .i64 x ∧ wx.heap[k0]? = some (.stringIter E pos) ∧ Below w.heap.size w wx ∧ (E.data.toList.drop pos).foldl (fun x c => x * 10 + ((c.toNat : Int) - 48)) x = R ∧ E.size ≤ pos + gk ∧ 0 ≤ x ∧ (pos = 0 → x = 0) ∧ (pos = 1 → x ≤ 9) ∧ x ≤ 99 ∧ pos ≤ E.size)
      case atStart => exact ⟨0, 0, rfl, hit1, bI, hr, by omega, by omega, fun _ => rfl, by omega, by omega, by omega⟩
      case round =>
        obtain ⟨pos, x, rfl, hit, hbw, hacc, hfu, hx0, hp0, hp1, hx9, hpos⟩ := hrel
        clear hit1 bI bel e0 hr
        have hsz' : k0 < wr.heap.size := (Array.getElem?_eq_some_iff.1 hit).1
        by_cases hp : pos < E.size
        · obtain ⟨d1, d2⟩ := hd pos hp
          have hnx : ∀ ty, (Instr.next (.pointer (some ⟨k0, 0, none⟩)) true ty).run Tryz.prog wr = _ := fun ty => Lib.run_next_ascii_at wr k0 E pos ty hit hp (by omega)
          have hit2 := Lib.iterAt_heap wr k0 E pos (pos + 1) hit
          have hbw2 := Lib.below_iterAt hbw (k := k0) (by omega) E (pos + 1)
          obtain ⟨f, rfl⟩ : ∃ f, gk = f + 1 := ⟨gk - 1, by omega⟩
          have hdr : E.data.toList.drop pos = (E[pos]'hp) :: E.data.toList.drop (pos + 1) := List.drop_eq_getElem_cons (by rw [← Lib.size_eq]; exact hp)
          rw [hdr, List.foldl_cons] at hacc
          obtain ⟨Q, hQ⟩ : ∃ Q, (E[pos]'hp).toNat = Q := ⟨_, rfl⟩
          rw [hQ] at hnx hacc d1 d2
          have hpp : pos = 0 ∨ pos = 1 := by omega
          have HA := Lib.hid hacc; clear hacc hdr
          have hxb : 0 ≤ x * 10 + ((Q : Int) - 48) ∧ (pos = 0 → x * 10 + ((Q : Int) - 48) ≤ 9) ∧ x * 10 + ((Q : Int) - 48) ≤ 99 := by omega
          go_wp2
          go_roundg f
          case measure => omega
          case rel =>
            exact ⟨pos + 1, x * 10 + ((Q : Int) - 48), rfl, hit2, hbw2, HA.out, by omega, by omega, by omega, by omega, by omega, by omega⟩
        · have hnx : ∀ ty, (Instr.next (.pointer (some ⟨k0, 0, none⟩)) true ty).run Tryz.prog wr = _ := fun ty => Lib.run_next_end_at wr k0 E pos ty hit hp
          have hfin : x = R := by
            rw [List.drop_eq_nil_of_le (by rw [← Lib.size_eq]; omega)] at hacc
            exact hacc
          have HF := Lib.hid hfin; clear hfin hacc
          go_wp2
          go_ret
          exact ⟨dg_int HF.out, hbw⟩
    | true =>
      obtain rfl : z = true := by cases z <;> simp_all
      clear hy
      go_upto_region 4 with (go_at_call 28; refine (cZ _).mono ?_; rintro e W3 ⟨rfl, b3⟩; have h3 := h2.step b3)
      clear b3 h2 cZ
      have e0 := h3.c 0 1 rfl rfl
      have bel := h3.bel
      clear p0 p1 p2
      go_upto_region 5 with (fail)
      have hit1 := World.iter_heap W3 E 0
      have bI := bel.alloc bel.size (.stringIter E 0)
      have hk0 : w.heap.size < W3.heap.size := h3.lt 0 rfl
      go_wp2
      generalize hk : W3.heap.size = k0 at *
      have HK := Lib.hid hk; clear hk
      go_loopg [3] E.size (fun gk sx wx => ∃ (pos : Nat) (x : Int), sx = .int .i64 x ∧ wx.heap[k0]? = some (.stringIter E pos) ∧ Below w.heap.size w wx ∧ (E.data.toList.drop pos).foldl (fun x c => x * 10 + ((c.toNat : Int) - 48)) x = R ∧ E.size ≤ pos + gk ∧ 0 ≤ x ∧ (pos = 0 → x = 0) ∧ (pos = 1 → x ≤ 9) ∧ x ≤ 99 ∧ pos ≤ E.size)
      case atStart => exact ⟨0, 0, rfl, hit1, bI, hr, by omega, by omega, fun _ => rfl, by omega, by omega, by omega⟩
      case round =>
        obtain ⟨pos, x, rfl, hit, hbw, hacc, hfu, hx0, hp0, hp1, hx9, hpos⟩ := hrel
        clear hit1 bI bel e0 hr
        have hsz' : k0 < wr.heap.size := (Array.getElem?_eq_some_iff.1 hit).1
        by_cases hp : pos < E.size
        · obtain ⟨d1, d2⟩ := hd pos hp
          have hnx : ∀ ty, (Instr.next (.pointer (some ⟨k0, 0, none⟩)) true ty).run Tryz.prog wr = _ := fun ty => Lib.run_next_ascii_at wr k0 E pos ty hit hp (by omega)
          have hit2 := Lib.iterAt_heap wr k0 E pos (pos + 1) hit
          have hbw2 := Lib.below_iterAt hbw (k := k0) (by omega) E (pos + 1)
          obtain ⟨f, rfl⟩ : ∃ f, gk = f + 1 := ⟨gk - 1, by omega⟩
          have hdr : E.data.toList.drop pos = (E[pos]'hp) :: E.data.toList.drop (pos + 1) := List.drop_eq_getElem_cons (by rw [← Lib.size_eq]; exact hp)
          rw [hdr, List.foldl_cons] at hacc
          obtain ⟨Q, hQ⟩ : ∃ Q, (E[pos]'hp).toNat = Q := ⟨_, rfl⟩
          rw [hQ] at hnx hacc d1 d2
          have hpp : pos = 0 ∨ pos = 1 := by omega
          have HA := Lib.hid hacc; clear hacc hdr
          have hxb : 0 ≤ x * 10 + ((Q : Int) - 48) ∧ (pos = 0 → x * 10 + ((Q : Int) - 48) ≤ 9) ∧ x * 10 + ((Q : Int) - 48) ≤ 99 := by omega
          go_wp2
          go_roundg f
          case measure => omega
          case rel =>
            exact ⟨pos + 1, x * 10 + ((Q : Int) - 48), rfl, hit2, hbw2, HA.out, by omega, by omega, by omega, by omega, by omega, by omega⟩
        · have hnx : ∀ ty, (Instr.next (.pointer (some ⟨k0, 0, none⟩)) true ty).run Tryz.prog wr = _ := fun ty => Lib.run_next_end_at wr k0 E pos ty hit hp
          have hfin : x = R := by
            rw [List.drop_eq_nil_of_le (by rw [← Lib.size_eq]; omega)] at hacc
            exact hacc
          have HF := Lib.hid hfin; clear hfin hacc
          go_wp2
          go_ret
          exact ⟨dg_int HF.out, hbw⟩
end Go.Proofs.YtgjboghnnhcgiaaGreatDoor
namespace Go.Proofs.YtgjboghnnhcgiaaGreatDoor
open Go.RowKit
set_option linter.unusedVariables false
set_option linter.unusedSimpArgs false
end Go.Proofs.YtgjboghnnhcgiaaGreatDoor
namespace Go.Proofs.YtgjboghnnhcgiaaGreatDoor
open Go.RowKit
set_option linter.unusedVariables false
set_option linter.unusedSimpArgs false
end Go.Proofs.YtgjboghnnhcgiaaGreatDoor
namespace Go.Proofs.YtgjboghnnhcgiaaGreatDoor
open Go.RowKit
set_option linter.unusedVariables false
set_option linter.unusedSimpArgs false
end Go.Proofs.YtgjboghnnhcgiaaGreatDoor
namespace Go.Proofs.YtgjboghnnhcgiaaGreatDoor.G
open Go.RowKit Go.Proofs.YtgjboghnnhcgiaaGreatDoor
set_option linter.unusedVariables false
set_option linter.unusedSimpArgs false
def okN (D : ByteArray) (k : Int) : Bool := decide (0 ≤ k) && decide (k < D.size) && decide (D.size ≤ 60) && digB D
theorem okN_of {D : ByteArray} {k : Int} (h : okN D k = true) : ∃ j : Nat, k = j ∧ j < D.size ∧ D.size ≤ 60 ∧ digB D = true := by
  unfold okN at h
  simp only [Bool.and_eq_true, decide_eq_true_eq] at h
  obtain ⟨⟨⟨h0, h1⟩, h2⟩, h3⟩ := h
  exact ⟨k.toNat, by omega, by omega, h2, h3⟩
theorem digB_mem {D : ByteArray} (h : digB D = true) : ∀ c ∈ D.data.toList, 48 ≤ c.toNat ∧ c.toNat ≤ 57 := fun c hc => by
  have := List.all_eq_true.1 h c hc
  simpa using this
def number_Default.f : Option (Int × Int × Int × Bool × Bool) := some (1, 0, 3, false, false)
theorem number_Default.calls (r1 r2 r3 : Int) (r4 r5 : Bool) (w : World) (h : number_Default.f = some (r1, r2, r3, r4, r5)) :
    Calls Tryz.prog 24 #[] w fun e w' => e = .returned (.agg #[.int .i64 r1, .int .i64 r2, .int .i64 r3, .bool r4, .bool r5]) ∧ Below w.heap.size w w' := by
  have h2 := Option.some.inj h
  simp only [Prod.mk.injEq] at h2
  obtain ⟨rfl, rfl, rfl, rfl, rfl⟩ := h2
  exact default_any w
def trE (D : ByteArray) (j : Nat) : ByteArray := D.extract 0 (tz D j D.size)
def trK (D : ByteArray) (j : Nat) : Nat := j - (D.size - tz D j D.size)
def optR (x : Bool × Int × Int × Int × Bool × Bool) : Int × Int × Int × Bool × Bool × Int := if x.1 = true then (x.2.1, x.2.2.1, x.2.2.2.1, x.2.2.2.2.1, x.2.2.2.2.2, 0) else (0, 0, 0, false, false, 1)
def number_Opts_Set.f (a0 a1 a2 : Int) (a3 a4 : Bool) (nm tx : ByteArray) (d0 : Bool) (d1 : ByteArray) (d2 : Int) (it : Bool) : Option (Int × Int × Int × Bool × Bool × Int) :=
  if okN d1 d2 = true then some (optR (stS a0 a1 a2 a3 a4 nm tx (dgV d0 (trE d1 d2.toNat) (trK d1 d2.toNat)) it)) else none
theorem dg_at {D : ByteArray} (h : digB D = true) (i : Nat) : ∀ j (hj : j < (D.extract 0 i).size), 48 ≤ ((D.extract 0 i)[j]'hj).toNat ∧ ((D.extract 0 i)[j]'hj).toNat ≤ 57 := fun j hj => by
  refine digB_mem h _ ?_
  rw [ByteArray.getElem_extract]
  have hj2 : j < D.size := by rw [ByteArray.size_extract] at hj; omega
  have : D[0 + j]'(by omega) = D.data.toList[j]'(by rw [← Lib.size_eq]; exact hj2) := by simp only [Nat.zero_add]; rfl
  rw [this]
  exact List.getElem_mem _
theorem number_Opts_Set.calls (a0 a1 a2 : Int) (a3 a4 : Bool) (nm tx : ByteArray) (d0 : Bool) (d1 : ByteArray) (d2 : Int) (it : Bool) (r1 r2 r3 : Int) (r4 r5 : Bool) (r6 : Int) (w : World)
    (h : number_Opts_Set.f a0 a1 a2 a3 a4 nm tx d0 d1 d2 it = some (r1, r2, r3, r4, r5, r6)) :
    Calls Tryz.prog 37 #[.agg #[.int .i64 a0, .int .i64 a1, .int .i64 a2, .bool a3, .bool a4], .string nm, .string tx, .agg #[.bool d0, .string d1, .int .i64 d2], .bool it] w fun e w' =>
      e = .returned (.tuple #[.agg #[.int .i64 r1, .int .i64 r2, .int .i64 r3, .bool r4, .bool r5], .int .i64 r6]) ∧ Below w.heap.size w w' := by
  unfold number_Opts_Set.f at h
  by_cases ho : okN d1 d2 = true
  · rw [if_pos ho] at h
    obtain ⟨j, rfl, h1, h2, h3⟩ := okN_of ho
    rw [Int.toNat_natCast] at h
    have t1 := tz_le d1 j d1.size
    have t2 := tz_ge d1 j d1.size
    have cT := fun W => trim_any d0 d1 j 0 W h1 (by omega) (by omega)
    rw [Nat.sub_zero] at cT
    have hk : (j : Int) - ((d1.size - tz d1 j d1.size : Nat) : Int) = (trK d1 j : Nat) := by unfold trK; omega
    rw [hk] at cT
    have hs : (trE d1 j).size ≤ 1000 := by unfold trE; rw [ByteArray.size_extract]; omega
    have cD := fun W => digits_any d0 d1 j (trE d1 j) (trK d1 j) cT hs (by unfold trK; omega) (dg_at h3 _) W
    refine (Set_any a0 a1 a2 a3 a4 nm tx d0 d1 j it _ cD w).mono ?_
    rintro e w' ⟨⟨z, m1, m2, m3, p1, p2, hV, rfl⟩, hb⟩
    refine ⟨?_, hb⟩
    rw [hV] at h
    have h := Option.some.inj h
    unfold optR at h
    cases z with
    | true =>
      simp only [if_true, Prod.mk.injEq] at h
      obtain ⟨rfl, rfl, rfl, rfl, rfl, rfl⟩ := h
      rfl
    | false =>
      simp only [Bool.false_eq_true, if_false, Prod.mk.injEq] at h
      obtain ⟨rfl, rfl, rfl, rfl, rfl, rfl⟩ := h
      rfl
  · rw [if_neg ho] at h; cases h
end Go.Proofs.YtgjboghnnhcgiaaGreatDoor.G
namespace Go.Proofs.YtgjboghnnhcgiaaGreatDoor.R
open Go.RowKit Go.Proofs.YtgjboghnnhcgiaaGreatDoor.G Go.Proofs.YtgjboghnnhcgiaaGreatDoor.U Go.Proofs.YtgjboghnnhcgiaaGreatDoorW.PrintWords Go.Proofs.YtgjboghnnhcgiaaGreatDoorW.PrintLast Go.Proofs.YtgjboghnnhcgiaaGreatDoorW.PrintMore
attribute [local go_sem] max2_int min2_int max_two min_two max_three min_three max_four min_four
set_option linter.unusedVariables false
set_option linter.unusedSimpArgs false
end Go.Proofs.YtgjboghnnhcgiaaGreatDoor.R

namespace Go.Proofs.YtgjboghnnhcgiaaGreatDoor.GV
open Go.RowKit Go.Proofs.YtgjboghnnhcgiaaGreatDoor Go.Proofs.YtgjboghnnhcgiaaGreatDoorW.PrintWords
set_option linter.unusedVariables false
set_option linter.unusedSimpArgs false
def Tab_ (w : World) : Prop := G.Tab_ w ∧ Asc w
theorem Tab_.step {w W : World} (h : Tab_ w) (b : Below w.heap.size w W) : Tab_ W := ⟨h.1.step b, ascTab h.2 b⟩
def polyglotlaw14_head.f : Option Bool := some true
theorem polyglotlaw14_head.calls (r : Bool) (w : World) (h : polyglotlaw14_head.f = some r) (HT0_ : Tab_ w := by exact Tab_.step HT0_ (by repeat (first | (with_reducible first | exact HB.out | apply below_alloc | apply pw_below_drewN | apply below_drew1 | refine below_set ?_ (Aside0.out (by assumption))) | exact HB.out))) :
    Calls Tryz.prog 6 #[] w fun e w' => e = .returned (.bool r) ∧ Below w.heap.size w w' := by
  obtain rfl := Option.some.inj h
  exact head14_any w HT0_.1 HT0_.2
def polyglotlaw02_Right.f (k : Nat) (a0 : Bool) (a1 : ByteArray) (a2 : Int) : Option Bool := R.polyglotlaw02_Right.f k a0 a1 a2
theorem polyglotlaw02_Right.mono : ∀ a0 a1 a2 k, LeO (polyglotlaw02_Right.f k a0 a1 a2) (polyglotlaw02_Right.f (k + 1) a0 a1 a2) := R.polyglotlaw02_Right.mono
theorem polyglotlaw02_Right.calls (k : Nat) (a0 : Bool) (a1 : ByteArray) (a2 : Int) (r : Bool) (w : World) (h : polyglotlaw02_Right.f k a0 a1 a2 = some r) :
    Calls Tryz.prog 7 #[.agg #[.bool a0, .string a1, .int .i64 a2]] w fun e w' => e = .returned (.bool r) ∧ Below w.heap.size w w' := R.polyglotlaw02_Right.calls k a0 a1 a2 r w h
def number_Default.f : Option (Int × Int × Int × Bool × Bool) := G.number_Default.f
theorem number_Default.calls (r1 r2 r3 : Int) (r4 r5 : Bool) (w : World) (h : number_Default.f = some (r1, r2, r3, r4, r5)) :
    Calls Tryz.prog 24 #[] w fun e w' => e = .returned (.agg #[.int .i64 r1, .int .i64 r2, .int .i64 r3, .bool r4, .bool r5]) ∧ Below w.heap.size w w' := G.number_Default.calls r1 r2 r3 r4 r5 w h
def number_Opts_Set.f (a0 a1 a2 : Int) (a3 a4 : Bool) (nm tx : ByteArray) (d0 : Bool) (d1 : ByteArray) (d2 : Int) (it : Bool) : Option (Int × Int × Int × Bool × Bool × Int) := G.number_Opts_Set.f a0 a1 a2 a3 a4 nm tx d0 d1 d2 it
theorem number_Opts_Set.calls (a0 a1 a2 : Int) (a3 a4 : Bool) (nm tx : ByteArray) (d0 : Bool) (d1 : ByteArray) (d2 : Int) (it : Bool) (r1 r2 r3 : Int) (r4 r5 : Bool) (r6 : Int) (w : World)
    (h : number_Opts_Set.f a0 a1 a2 a3 a4 nm tx d0 d1 d2 it = some (r1, r2, r3, r4, r5, r6)) :
    Calls Tryz.prog 37 #[.agg #[.int .i64 a0, .int .i64 a1, .int .i64 a2, .bool a3, .bool a4], .string nm, .string tx, .agg #[.bool d0, .string d1, .int .i64 d2], .bool it] w fun e w' =>
      e = .returned (.tuple #[.agg #[.int .i64 r1, .int .i64 r2, .int .i64 r3, .bool r4, .bool r5], .int .i64 r6]) ∧ Below w.heap.size w w' := G.number_Opts_Set.calls a0 a1 a2 a3 a4 nm tx d0 d1 d2 it r1 r2 r3 r4 r5 r6 w h
theorem shD_small (mi mf : Nat) (r : ByteArray) (k : Nat) (hk : k < r.size) (hr : r.size ≤ 800) (hmi : mi ≤ 20) (hmf : mf ≤ 20) : shK mf r k ≤ (shD mi mf r k).size ∧ (shD mi mf r k).size ≤ 1000 := by
  have t1 : shT mf r k ≤ r.size := tz_le _ _ _
  have t2 : r.size - (k - mf) ≤ shT mf r k := tz_ge _ _ _
  have j1 : shJ mf r k < shT mf r k := by unfold shJ; omega
  have e : (shE mf r k).size = shT mf r k + (mf - shJ mf r k) := by
    unfold shE
    rw [ByteArray.size_append, extract_size r _ t1, zs_size]
  have d : (shD mi mf r k).size = (mi - ((shE mf r k).size - shK mf r k)) + (shE mf r k).size := by
    unfold shD
    rw [ByteArray.size_append, zs_size]
  have kk : shK mf r k = shJ mf r k + (mf - shJ mf r k) := rfl
  omega
def shOk (n : Bool) (r : Bool × ByteArray × Int) (mi mf : Int) : Bool := decide (r.1 = n) && decide (0 ≤ r.2.2) && decide (r.2.2 < r.2.1.size) && decide (r.2.1.size ≤ 800) && decide (0 ≤ mi) && decide (mi ≤ 20) && decide (0 ≤ mf) && decide (mf ≤ 20) && G.digB (shD mi.toNat mf.toNat r.2.1 r.2.2.toNat)
def plC (rk : Bool) (lang : ByteArray) (E : ByteArray) (K : Nat) : Int := if rk = true then rkC lang E K else ofC lang E K
def value_Value_Is.f (k : Nat) (kd : Int) (tx : ByteArray) (n : Bool) (D : ByteArray) (sc mi mf xf : Int) (pl rk : Bool) (se st : Int) (key lang : ByteArray) : Option Bool :=
  if kd = 0 then some (tx.toList == key.toList) else if kd = 1 then
    (R.dec_Parse.f key).bind fun p => if p.2.2.2 = true then (R.dec_Dec_Compare.f k p.1 p.2.1 p.2.2.1 n D sc).bind fun c => some (c == 0)
      else (G.dec_Dec_Round.f n D sc xf).bind fun r => if shOk n r mi mf = true then some (wordL (plC rk lang (shD mi.toNat mf.toNat r.2.1 r.2.2.toNat) (shK mf.toNat r.2.1 r.2.2.toNat)) == key.toList) else none
  else some false
theorem value_Value_Is.mono : ∀ a0 a1 a2 a3 a4 a5 a6 a7 a8 a9 a10 a11 b c k, LeO (value_Value_Is.f k a0 a1 a2 a3 a4 a5 a6 a7 a8 a9 a10 a11 b c) (value_Value_Is.f (k + 1) a0 a1 a2 a3 a4 a5 a6 a7 a8 a9 a10 a11 b c) := by
  intro a0 a1 a2 a3 a4 a5 a6 a7 a8 a9 a10 a11 b c k r h
  unfold value_Value_Is.f at h ⊢
  by_cases c0 : a0 = 0
  · rw [if_pos c0] at h ⊢; exact h
  rw [if_neg c0] at h ⊢
  by_cases c1 : a0 = 1
  · rw [if_pos c1] at h ⊢
    cases hp : R.dec_Parse.f b with
    | none => rw [hp] at h; cases h
    | some p =>
      rw [hp] at h
      rw [Option.bind_some] at h ⊢
      by_cases c2 : p.2.2.2 = true
      · rw [if_pos c2] at h ⊢
        cases hc : R.dec_Dec_Compare.f k p.1 p.2.1 p.2.2.1 a2 a3 a4 with
        | none => rw [hc] at h; cases h
        | some x => rw [R.dec_Dec_Compare.mono _ _ _ _ _ _ k x hc]; rw [hc] at h; exact h
      · rw [if_neg c2] at h ⊢; exact h
  · rw [if_neg c1] at h ⊢; exact h
theorem value_Value_Is.calls (k : Nat) (kd : Int) (tx : ByteArray) (n : Bool) (D : ByteArray) (sc mi mf xf : Int) (pl rk : Bool) (se st : Int) (key lang : ByteArray) (r : Bool) (w : World)
    (h : value_Value_Is.f k kd tx n D sc mi mf xf pl rk se st key lang = some r) (HT0_ : Tab_ w := by exact Tab_.step HT0_ (by repeat (first | (with_reducible first | exact HB.out | apply below_alloc | apply pw_below_drewN | apply below_drew1 | refine below_set ?_ (Aside0.out (by assumption))) | exact HB.out))) :
    Calls Tryz.prog 12 #[.agg #[.int .i64 kd, .string tx, .bool n, .string D, .int .i64 sc, .int .i64 mi, .int .i64 mf, .int .i64 xf, .bool pl, .bool rk, .int .i64 se, .int .i64 st], .string key, .string lang] w fun e w' => e = .returned (.bool r) ∧ Below w.heap.size w w' := by
  unfold value_Value_Is.f at h
  by_cases c0 : kd = 0
  · rw [if_pos c0] at h
    subst c0
    obtain rfl := Option.some.inj h
    exact is_text tx n D sc mi mf xf pl rk se st key lang w
  rw [if_neg c0] at h
  by_cases c1 : kd = 1
  · rw [if_pos c1] at h
    subst c1
    cases hp : R.dec_Parse.f key with
    | none => rw [hp] at h; cases h
    | some p =>
      obtain ⟨p1, p2, p3, p4⟩ := p
      rw [hp, Option.bind_some] at h
      dsimp only at h
      cases p4 with
      | true =>
        rw [if_pos rfl] at h
        cases hc : R.dec_Dec_Compare.f k p1 p2 p3 n D sc with
        | none => rw [hc] at h; cases h
        | some x =>
          rw [hc, Option.bind_some] at h
          obtain rfl := Option.some.inj h
          exact is_num tx n D sc mi mf xf pl rk se st key lang p1 p2 p3 x w (fun W hW => R.dec_Parse.calls key p1 p2 p3 true W hp (HT0_.1.step hW)) (fun W => R.dec_Dec_Compare.calls k p1 p2 p3 n D sc x W hc)
      | false =>
        rw [if_neg (by decide)] at h
        cases hr : G.dec_Dec_Round.f n D sc xf with
        | none => rw [hr] at h; cases h
        | some r3 =>
          obtain ⟨q1, q2, q3⟩ := r3
          rw [hr, Option.bind_some] at h
          by_cases ho : shOk n (q1, q2, q3) mi mf = true
          · rw [if_pos ho] at h
            obtain rfl := Option.some.inj h
            unfold shOk at ho
            simp only [Bool.and_eq_true, decide_eq_true_eq] at ho
            obtain ⟨⟨⟨⟨⟨⟨⟨⟨o1, o2⟩, o3⟩, o4⟩, o5⟩, o6⟩, o7⟩, o8⟩, o9⟩ := ho
            subst o1
            obtain ⟨i, rfl⟩ : ∃ i : Nat, q3 = i := ⟨q3.toNat, by omega⟩
            obtain ⟨m1, rfl⟩ : ∃ i : Nat, mi = i := ⟨mi.toNat, by omega⟩
            obtain ⟨m2, rfl⟩ : ∃ i : Nat, mf = i := ⟨mf.toNat, by omega⟩
            simp only [Int.toNat_natCast] at o9 ⊢
            have cR := fun W => G.dec_Dec_Round.calls q1 D sc xf q1 q2 i W hr
            have cS := fun W => shape_any m1 m2 xf pl rk q1 D sc q2 i cR (by omega) o4 (by omega) (by omega) W
            have hz := shD_small m1 m2 q2 i (by omega) o4 (by omega) (by omega)
            have hdg : Dig (shD m1 m2 q2 i) (shK m2 q2 i) := ⟨hz.1, by omega, G.digB_mem o9⟩
            refine is_word tx q1 D sc m1 m2 xf pl rk se st key lang p1 p2 p3 (plC rk lang (shD m1 m2 q2 i) (shK m2 q2 i)) (shK m2 q2 i) (shD m1 m2 q2 i) w (fun W hW => R.dec_Parse.calls key p1 p2 p3 false W hp (HT0_.1.step hW)) cS ?_ ?_
            · rintro rfl W hW
              exact Of_any lang q1 _ _ hdg W (ascTab HT0_.2 hW)
            · rintro rfl W
              exact Rank_any lang q1 _ _ hdg W
          · rw [if_neg ho] at h; cases h
  · rw [if_neg c1] at h
    obtain rfl := Option.some.inj h
    exact is_none tx n D sc mi mf xf pl rk se st key lang kd c0 c1 w
end Go.Proofs.YtgjboghnnhcgiaaGreatDoor.GV
namespace Go.Proofs.YtgjboghnnhcgiaaGreatDoor.Z
open Go.RowKit Go.Proofs.YtgjboghnnhcgiaaGreatDoor.GV Go.Proofs.YtgjboghnnhcgiaaGreatDoor.U Go.Proofs.YtgjboghnnhcgiaaGreatDoorW.PrintWords Go.Proofs.YtgjboghnnhcgiaaGreatDoorW.PrintLast Go.Proofs.YtgjboghnnhcgiaaGreatDoorW.PrintMore
attribute [local go_sem] max2_int min2_int max_two min_two max_three min_three max_four min_four
set_option linter.unusedVariables false
set_option linter.unusedSimpArgs false
def errW : Option Int → Value
  | none => .nilIface
  | some c => .iface 0 (.int .i64 c)
theorem errW_none : errW none = .nilIface := rfl
theorem errW_some (c : Int) : errW (some c) = .iface 0 (.int .i64 c) := rfl
structure S28 where
  f0 : Int
  f1 : Int
  f2 : Int
  f3 : Bool
  f4 : Bool
def z28 : S28 := ⟨(0 : Int), (0 : Int), (0 : Int), false, false⟩
structure S23 where
  f0 : Bool
  f1 : ByteArray
  f2 : Int
def z23 : S23 := ⟨false, (⟨#[]⟩ : ByteArray), (0 : Int)⟩
def k23 : Kd S23 := Kd.iso (Kd.pair Kd.bool (Kd.pair Kd.string (Kd.int .i64))) (fun x : S23 => (x.f0, x.f1, x.f2))
theorem k23_open {w : World} {x : S23} {cs : List Value} (h : k23.K w x cs) : cs = [.bool x.f0, .string x.f1, .int .i64 x.f2] := by
  obtain ⟨_, _, rfl, rfl, ⟨_, _, rfl, rfl, rfl⟩⟩ := h
  exact rfl
theorem k23_mk (w : World) (x : S23)  : k23.K w x [.bool x.f0, .string x.f1, .int .i64 x.f2] := ⟨[.bool x.f0], [.string x.f1, .int .i64 x.f2], rfl, rfl, ⟨[.string x.f1], [.int .i64 x.f2], rfl, rfl, rfl⟩⟩
structure S78 where
  f0 : ByteArray
  f1 : ByteArray
  f2 : S23
  f3 : Bool
def z78 : S78 := ⟨(⟨#[]⟩ : ByteArray), (⟨#[]⟩ : ByteArray), z23, false⟩
def k78 : Kd S78 := Kd.iso (Kd.pair Kd.string (Kd.pair Kd.string (Kd.pair k23 Kd.bool))) (fun x : S78 => (x.f0, x.f1, x.f2, x.f3))
theorem k78_open {w : World} {x : S78} {cs : List Value} (h : k78.K w x cs) : cs = [.string x.f0, .string x.f1, .bool x.f2.f0, .string x.f2.f1, .int .i64 x.f2.f2, .bool x.f3] := by
  obtain ⟨_, _, rfl, rfl, ⟨_, _, rfl, rfl, ⟨_, _, rfl, s2, rfl⟩⟩⟩ := h
  obtain rfl := k23_open s2
  exact rfl
theorem k78_mk (w : World) (x : S78)  : k78.K w x [.string x.f0, .string x.f1, .bool x.f2.f0, .string x.f2.f1, .int .i64 x.f2.f2, .bool x.f3] := ⟨[.string x.f0], [.string x.f1, .bool x.f2.f0, .string x.f2.f1, .int .i64 x.f2.f2, .bool x.f3], rfl, rfl, ⟨[.string x.f1], [.bool x.f2.f0, .string x.f2.f1, .int .i64 x.f2.f2, .bool x.f3], rfl, rfl, ⟨[.bool x.f2.f0, .string x.f2.f1, .int .i64 x.f2.f2], [.bool x.f3], rfl, (k23_mk w x.f2 ), rfl⟩⟩⟩
def rd_T78 (xs : List S78) (i : Int) : S78 := xs.getD i.toNat z78
theorem at_T78 {w : World} {A : Option Addr} {n : Nat} {xs : List S78} (h : Kd.C k78 w A n xs) (i : Int) (h0 : 0 ≤ i) (h1 : i < n) : ∃ ad , A = some ad ∧ w.cell? (ad.add (i.toNat * 6)) = some (.string (rd_T78 xs i).f0) ∧ w.cell? ⟨(ad.add (i.toNat * 6)).block, (ad.add (i.toNat * 6)).off + 1, none⟩ = some (.string (rd_T78 xs i).f1) ∧ w.cell? ⟨(ad.add (i.toNat * 6)).block, (ad.add (i.toNat * 6)).off + 2, none⟩ = some (.bool (rd_T78 xs i).f2.f0) ∧ w.cell? ⟨(ad.add (i.toNat * 6)).block, (ad.add (i.toNat * 6)).off + 3, none⟩ = some (.string (rd_T78 xs i).f2.f1) ∧ w.cell? ⟨(ad.add (i.toNat * 6)).block, (ad.add (i.toNat * 6)).off + 4, none⟩ = some (.int .i64 (rd_T78 xs i).f2.f2) ∧ w.cell? ⟨(ad.add (i.toNat * 6)).block, (ad.add (i.toNat * 6)).off + 5, none⟩ = some (.bool (rd_T78 xs i).f3) := by
  obtain ⟨ad, c, e, _, hK, hc0⟩ := Kd.C_get h z78 i h0 h1
  have hc : ∀ j u, c[j]? = some u → w.cell? (ad.add (i.toNat * 6 + j)) = some u := hc0
  obtain rfl := k78_open hK
  exact ⟨ad, e, hc 0 _ rfl, by rw [← add_field _ _ 1 (by omega)]; exact hc 1 _ rfl, by rw [← add_field _ _ 2 (by omega)]; exact hc 2 _ rfl, by rw [← add_field _ _ 3 (by omega)]; exact hc 3 _ rfl, by rw [← add_field _ _ 4 (by omega)]; exact hc 4 _ rfl, by rw [← add_field _ _ 5 (by omega)]; exact hc 5 _ rfl⟩
structure S31 where
  f0 : Int
  f1 : ByteArray
  f2 : S23
  f3 : S28
  f4 : Int
  f5 : Int
def z31 : S31 := ⟨(0 : Int), (⟨#[]⟩ : ByteArray), z23, z28, (0 : Int), (0 : Int)⟩
structure S42 where
  f0 : Int
  f1 : ByteArray
  f2 : S23
  f3 : (List S78)
  f4 : Int
  f5 : Int
end Go.Proofs.YtgjboghnnhcgiaaGreatDoor.Z
namespace Go.Proofs.YtgjboghnnhcgiaaGreatDoor.E
open Go.Proofs.YtgjboghnnhcgiaaGreatDoor Go.ChangeShapes Go.WideShapes Go.ChangeAt Go.RowKit Go.Joins Go.Deep Go.Proofs.YtgjboghnnhcgiaaGreatDoor.Z Go.Proofs.YtgjboghnnhcgiaaGreatDoorW.PrintWords
set_option linter.unusedVariables false
theorem own : ownKnob Tryz.prog.godebug = none := by kernel_rfl
theorem laidOut : laidOutB Tryz.prog = true := by kernel_rfl
theorem args_below {P : Program} (hl : laidOutB P = true) {H : Type} {enc : TypeId × Value → H} {W W' : World} (hb : Below W.heap.size W W') : ∀ (ts : List TypeId) (vs : List Value) (ds : List (DataW H)) (ps : List MemPlace),
    (∀ t ∈ ts, P.readableRec t = true ∧ t < P.types.size) → DataW.TrodAll enc P W 0 (fun _ => true) true ts vs ds ps → (∀ x ∈ ps, x.block < W.heap.size) →
    DataW.TrodAll enc P W' 0 (fun b => decide (b < W.heap.size)) true ts vs ds ps
  | [], [], [], ps, _, h, _ => h
  | t :: ts, v :: vs, d :: ds, ps, hr, h, hlt => by
    obtain ⟨p, q, h0, h1, rfl⟩ := h
    exact ⟨p, q, Below.trod hl (hr t (.head _)).1 (hr t (.head _)).2 h0 hb (fun x hx => hlt x (List.mem_append.2 (Or.inl hx))), args_below hl hb ts vs ds q (fun t ht => hr t (.tail _ ht)) h1 (fun x hx => hlt x (List.mem_append.2 (Or.inr hx))), rfl⟩
  | [], _ :: _, _, _, _, h, _ => h.elim
  | _ :: _, [], _, _, _, h, _ => h.elim
  | [], [], _ :: _, _, _, h, _ => h.elim
  | _ :: _, _ :: _, [], _, _, h, _ => h.elim
noncomputable def laidWorld (os : Os) : World :=
  let w0 := World.holding Tryz.prog os ⟨#[], #[], []⟩
  let put (h : Array Obj) (g : Nat) (cs : Array Value) : Array Obj := h.modify g fun
    | .cells _ t frozen => .cells cs t frozen
    | o => o
  let n := w0.heap.size
  let h1 := put w0.heap 5 (Lib.firstTab.map fun z => Value.int .u8 z).toArray
  let h2 := put h1 6 ((List.range 16).flatMap fun i => [Value.int .u8 (Lib.accLo i), Value.int .u8 (Lib.accHi i)]).toArray
  let h3 := put h2 2 #[.iface 228 (.pointer (some ⟨n + 2, 0, none⟩))]
  let h5 := put h3 4 (Lib.pow10Tab.map fun z => Value.int .u64 z).toArray
  let h6 := put h5 7 (([0, 1, 28, 2, 29, 14, 24, 3, 30, 22, 20, 15, 25, 17, 4, 8, 31, 27, 13, 23, 21, 19, 16, 7, 26, 12, 18, 6, 11, 5, 10, 9] : List Int).map fun z => Value.int .u8 z).toArray
  let h7 := put h6 8 (([0, 1, 56, 2, 57, 49, 28, 3, 61, 58, 42, 50, 38, 29, 17, 4, 62, 47, 59, 36, 45, 43, 51, 22, 53, 39, 33, 30, 24, 18, 12, 5, 63, 55, 48, 27, 60, 41, 37, 16, 46, 35, 44, 21, 52, 32, 23, 11, 54, 26, 40, 15, 34, 20, 31, 10, 25, 14, 19, 9, 13, 8, 7, 6] : List Int).map fun z => Value.int .u8 z).toArray
  let h8 := put h7 0 (Lib.asciiSpaceTab.map fun z => Value.int .u8 z).toArray
  let h9 := put h8 1 #[.pointer (some ⟨n + 1, 0, none⟩)]
  let h10 := h9.push (.cells (([9, 13, 1, 32, 133, 101, 160, 5760, 5600, 8192, 8202, 1, 8232, 8233, 1, 8239, 8287, 48, 12288, 12288, 1] : List Int).map fun z => Value.int .u16 z).toArray 198 (0, 0))
  let h11 := h10.push (.cells #[.slice (some ⟨n, 0, none⟩) 7 7, .slice none 0 0, .int .i64 2] 195 (0, 0))
  let h12 := h11.push (.cells #[.string ⟨#[98, 121, 116, 101, 115, 46, 66, 117, 102, 102, 101, 114, 58, 32, 116, 111, 111, 32, 108, 97, 114, 103, 101]⟩] 242 (0, 0))
  { w0 with heap := h12 }
theorem dec_cells : Tryz.prog.cellsOf 23 = 3 := by kernel_rfl
theorem list_of {α : Type} {p : Nat → α → Prop} : ∀ {n : Nat}, (∀ i, i < n → ∃ x, p i x) → ∃ l : List α, l.length = n ∧ ∀ i x, l[i]? = some x → p i x
  | 0, _ => ⟨[], rfl, fun i x h => by simp at h⟩
  | n + 1, h => by
    obtain ⟨l, h1, h2⟩ := list_of (p := p) (n := n) (fun i hi => h i (by omega))
    obtain ⟨x, hx⟩ := h n (by omega)
    refine ⟨l ++ [x], by simp [h1], fun i y hy => ?_⟩
    by_cases hi : i < l.length
    · rw [List.getElem?_append_left hi] at hy
      exact h2 i y hy
    · rw [List.getElem?_append_right (by omega)] at hy
      have hz : i - l.length = 0 := by
        have := (List.getElem?_eq_some_iff.1 hy).1
        simp at this
        omega
      rw [hz] at hy
      obtain rfl : x = y := by simpa using hy
      obtain rfl : i = n := by omega
      exact hx
theorem add_add (a : Addr) (m n : Nat) : (a.add m).add n = a.add (m + n) := by
  unfold Addr.add
  by_cases hm : m = 0
  · subst hm
    simp
  · by_cases hn : n = 0
    · subst hn
      simp [hm]
    · rw [if_neg hm, if_neg hn, if_neg (by omega)]
      simp [Nat.add_assoc]
section
variable {H : Type} {enc : TypeId × Value → H} {P : Program} {w : World} {base : Nat} {spare : Nat → Bool} {held : Bool}
def Fits (P : Program) (t : TypeId) (d : DataW H) : Prop := ∀ n ∈ d.weights P t, n ≤ 281474976710656
theorem weightsAll_mem {e : TypeId} : ∀ {l : List (DataW H)} {d : DataW H}, d ∈ l → ∀ n ∈ d.weights P e, n ∈ DataW.weightsAll P e l
  | a :: r, d, h, n, hn => by
    rw [DataW.weightsAll]
    rcases List.mem_cons.1 h with rfl | h
    · exact List.mem_append_left _ hn
    · exact List.mem_append_right _ (weightsAll_mem h n hn)
theorem open_rows {α : Type} (K : α → List Value → Prop) (Q : α → Prop) (sz : Nat) {t e : TypeId} (ht : P.underlying t = some (.slice e)) (hc : P.cellsOf e = sz) (hB : 0 < P.bytesOf e)
    (hel : ∀ n cs y, DataW.trod enc P w base spare held n e cs = some y → Fits P e y.1 → ∃ x, K x cs ∧ Q x) {fuel : Nat} {cs : List Value} {x : DataW H × List MemPlace} (h : DataW.trod enc P w base spare held fuel t cs = some x) (hf : Fits P t x.1) :
    ∃ (A : Option Addr) (c : Nat) (l : List α), cs = [.slice A l.length c] ∧ l.length ≤ c ∧ ReadsRow K sz w A l.length l ∧ l.length ≤ 281474976710656 ∧ ∀ y ∈ l, Q y := by
  rcases open_slice ht h with ⟨rfl, _⟩ | ⟨a, len, cap, m, n, D, Pl, rfl, hb, hl, hm, hmm, rfl, hx⟩
  · exact ⟨none, 0, [], rfl, Nat.le_refl _, ⟨rfl, Nat.zero_le _, fun hn => absurd hn (Nat.lt_irrefl _)⟩, Nat.zero_le _, fun y hy => by cases hy⟩
  · have hlm : len ≤ m := by rw [hmm]; split <;> omega
    have ew : ∀ es sp : List (DataW H), (DataW.slice es sp).weights P t = (es.length + sp.length) * P.bytesOf e :: (DataW.weightsAll P e es ++ DataW.weightsAll P e sp) := fun es sp => by simp [DataW.weights, ht]
    unfold Fits at hf
    rw [ew] at hf
    have hlen := hf _ (.head _)
    rw [List.length_map, List.length_range] at hlen
    have hle : len ≤ 281474976710656 := Nat.le_trans (Nat.le_trans (Nat.le_mul_of_pos_right len hB) (Nat.mul_le_mul_right _ (Nat.le_add_right _ _))) hlen
    obtain ⟨l, h1, h2⟩ := list_of (p := fun i x => ∃ cs', cs'.length = sz ∧ K x cs' ∧ Q x ∧ ∀ j u, cs'[j]? = some u → w.cell? (a.add (i * sz + j)) = some u) (n := len) (fun i hi => by
      obtain ⟨cs', e1, e2⟩ := hx i (by omega)
      rw [hc] at e1
      obtain ⟨_, g1, g2⟩ := World.cells?_some e1
      obtain ⟨x, k1, k2⟩ := hel n cs' _ e2 (fun q hq => hf q (.tail _ (List.mem_append_left _ (weightsAll_mem (List.mem_map_of_mem (List.mem_range.2 hi)) q hq))))
      refine ⟨x, cs', g1, k1, k2, fun j u hu => ?_⟩
      have hj := (List.getElem?_eq_some_iff.1 hu).1
      rw [← add_add, g2 j (by omega), hu])
    subst h1
    refine ⟨some a, cap, l, rfl, hl, ⟨rfl, by omega, fun _ => ⟨a, rfl, fun j p hp => ?_⟩⟩, hle, fun y hy => ?_⟩
    · obtain ⟨cs', g1, g2, _, g3⟩ := h2 j p hp
      exact ⟨cs', g1, g2, g3⟩
    · obtain ⟨i, hi, rfl⟩ := List.getElem_of_mem hy
      obtain ⟨_, _, _, g, _⟩ := h2 i _ (List.getElem?_eq_getElem hi)
      exact g
end
section
variable {H : Type} {enc : TypeId × Value → H} {w : World} {base : Nat} {spare : Nat → Bool} {held : Bool}
theorem trod_fieldsG {P : Program} {t : TypeId} {fs : Array Field} {fuel : Nat} {cs : List Value} {x : DataW H × List MemPlace} (ht : P.underlying t = some (.struct fs)) (h : DataW.trod enc P w base spare held fuel t cs = some x) (hq : Fits P t x.1) :
    cs.length = P.cellsOf t ∧ ∃ n, ∀ (i : Nat) (f : Field), fs[i]? = some f → ∃ y, DataW.trod enc P w base spare held n f.type ((cs.drop f.offset).take (P.cellsOf f.type)) = some y ∧ Fits P f.type y.1 := by
  obtain ⟨xs, n, _, rfl, hl, hlen, hf⟩ := DataW.trod_struct ht h
  refine ⟨hl, n, fun i f hi => ?_⟩
  have hlt : i < fs.size := (Array.getElem?_eq_some_iff.1 hi).1
  have := hf i f hi
  rw [List.getElem?_eq_getElem (by omega)] at this
  have ew : ∀ ps : List (DataW H), (DataW.agg ps).weights P t = DataW.weightsEach P (fs.toList.map (·.type)) ps := fun ps => by simp [DataW.weights, ht]
  unfold Fits at hq
  rw [ew] at hq
  refine ⟨_, this, fun q hq' => hq q (DataW.weights_mem_each (j := i) (t := f.type) (d := (xs[i]'(by omega)).1) ?_ ?_ q hq')⟩
  · rw [List.getElem?_map, Array.getElem?_toList, hi]
    rfl
  · rw [List.getElem?_map, List.getElem?_eq_getElem (by omega)]
    rfl
theorem list6 {α : Type} {l : List α} (h : l.length = 6) : ∃ a b c d e f, l = [a, b, c, d, e, f] := by
  match l, h with
  | [a, b, c, d, e, f], _ => exact ⟨a, b, c, d, e, f, rfl⟩
theorem str_fits {n : Nat} {cs : List Value} {y : DataW H × List MemPlace} (h : DataW.trod enc Tryz.prog w base spare held n 9 cs = some y) (hf : Fits Tryz.prog 9 y.1) : ∃ s : ByteArray, cs = [.string s] ∧ s.size ≤ 281474976710656 := by
  obtain ⟨s, e, rfl, hs⟩ := DataW.trod_string Tryz.underlying9 h
  exact ⟨s, e, hf s.data.toList.length (by simp [DataW.weights])⟩
theorem str_cells : Tryz.prog.cellsOf 9 = 1 := by kernel_rfl
theorem bool_cells : Tryz.prog.cellsOf 4 = 1 := by kernel_rfl
theorem opt_cells6 : Tryz.prog.cellsOf 78 = 6 := by kernel_rfl
set_option maxRecDepth 100000 in
theorem opt_bytes : 0 < Tryz.prog.bytesOf 78 := by decide +kernel
def OptIn (p : S78) : Prop := p.f0.size ≤ 281474976710656 ∧ p.f1.size ≤ 281474976710656
set_option maxRecDepth 100000 in
theorem opt_at (n : Nat) (cs : List Value) (y : DataW H × List MemPlace) (h : DataW.trod enc Tryz.prog w base spare held n 78 cs = some y) (hq : Fits Tryz.prog 78 y.1) : ∃ x, k78.K w x cs ∧ OptIn x := by
  obtain ⟨hl, m, hf⟩ := trod_fieldsG Tryz.underlying78 h hq
  rw [opt_cells6] at hl
  obtain ⟨c0, c1, c2, c3, c4, c5, rfl⟩ := list6 hl
  obtain ⟨y0, h0, f0⟩ := hf 0 _ rfl
  obtain ⟨y1, h1, f1⟩ := hf 1 _ rfl
  obtain ⟨y2, h2, f2⟩ := hf 2 _ rfl
  obtain ⟨y3, h3, f3⟩ := hf 3 _ rfl
  change DataW.trod enc Tryz.prog w base spare held m 9 (([c0, c1, c2, c3, c4, c5].drop 0).take (Tryz.prog.cellsOf 9)) = some y0 at h0
  change DataW.trod enc Tryz.prog w base spare held m 9 (([c0, c1, c2, c3, c4, c5].drop 1).take (Tryz.prog.cellsOf 9)) = some y1 at h1
  change DataW.trod enc Tryz.prog w base spare held m 23 (([c0, c1, c2, c3, c4, c5].drop 2).take (Tryz.prog.cellsOf 23)) = some y2 at h2
  change DataW.trod enc Tryz.prog w base spare held m 4 (([c0, c1, c2, c3, c4, c5].drop 5).take (Tryz.prog.cellsOf 4)) = some y3 at h3
  rw [str_cells] at h0 h1
  rw [dec_cells] at h2
  rw [bool_cells] at h3
  obtain ⟨s0, e0, z0⟩ := str_fits h0 f0
  obtain ⟨s1, e1, z1⟩ := str_fits h1 f1
  obtain ⟨hl2, m2, hf2⟩ := trod_fieldsG Tryz.underlying23 h2 f2
  obtain ⟨y4, h4, f4⟩ := hf2 0 _ rfl
  obtain ⟨y5, h5, f5⟩ := hf2 1 _ rfl
  obtain ⟨y6, h6, f6⟩ := hf2 2 _ rfl
  change DataW.trod enc Tryz.prog w base spare held m2 4 (((([c0, c1, c2, c3, c4, c5].drop 2).take 3).drop 0).take (Tryz.prog.cellsOf 4)) = some y4 at h4
  change DataW.trod enc Tryz.prog w base spare held m2 9 (((([c0, c1, c2, c3, c4, c5].drop 2).take 3).drop 1).take (Tryz.prog.cellsOf 9)) = some y5 at h5
  change DataW.trod enc Tryz.prog w base spare held m2 3 (((([c0, c1, c2, c3, c4, c5].drop 2).take 3).drop 2).take (Tryz.prog.cellsOf 3)) = some y6 at h6
  have int_cells : Tryz.prog.cellsOf 3 = 1 := by kernel_rfl
  rw [bool_cells] at h4
  rw [str_cells] at h5
  rw [int_cells] at h6
  obtain ⟨b4, e4, _⟩ := DataW.trod_bool Tryz.underlying4 h4
  obtain ⟨s5, e5, _⟩ := DataW.trod_string Tryz.underlying9 h5
  obtain ⟨k6, e6, _, _⟩ := DataW.trod_int Tryz.underlying3 h6
  obtain ⟨b3, e3, _⟩ := DataW.trod_bool Tryz.underlying4 h3
  simp at e0 e1 e3 e4 e5 e6
  subst e0 e1 e3 e4 e5 e6
  exact ⟨⟨s0, s1, ⟨b4, s5, k6⟩, b3⟩, k78_mk w ⟨s0, s1, ⟨b4, s5, k6⟩, b3⟩, z0, z1⟩
end
theorem asc_of {W : World} (h : Lib.VarReads Tryz.prog W "strings.asciiSpace" Rows.laid_strings_asciiSpace) : Asc W := by
  obtain ⟨g, t, cs, fuel, p, h1, h2, h3, h4⟩ := h
  obtain rfl : g = 0 := Option.some.inj (h1.symm.trans (by kernel_rfl))
  obtain rfl : t = 146 := Option.some.inj (h2.symm.trans (by kernel_rfl))
  have e : (Rows.laid_strings_asciiSpace : DataW Unit) = Lib.tabData .u8 Lib.asciiSpaceTab := by kernel_rfl
  rw [e] at h4
  unfold Asc Lib.TabIs
  rw [h3, ← Lib.cells_of_tab Tryz.underlying146 Tryz.underlying5 (by kernel_rfl) (by kernel_rfl) h4]
theorem tab_of {W : World} (h : W.ShapedOpen Tryz.prog) : G.Tab_ W := Tryz.laysM145.s1_3 W h
theorem list8 {α : Type} {l : List α} (h : l.length = 8) : ∃ a b c d e f g i, l = [a, b, c, d, e, f, g, i] := by
  match l, h with
  | [a, b, c, d, e, f, g, i], _ => exact ⟨a, b, c, d, e, f, g, i, rfl⟩
theorem make_cells : Tryz.prog.cellsOf 42 = 8 := by kernel_rfl
theorem int_cells : Tryz.prog.cellsOf 3 = 1 := by kernel_rfl
theorem i64_cells : Tryz.prog.cellsOf 2 = 1 := by kernel_rfl
theorem sl_cells : Tryz.prog.cellsOf 40 = 1 := by kernel_rfl
set_option maxRecDepth 100000 in
theorem open_make {H : Type} {enc : TypeId × Value → H} {W : World} {base : Nat} {v : Value} {d : DataW H} {p : List MemPlace} (hval : Value.okWide Tryz.prog W .any base 42 v) (h : DataW.Trod enc Tryz.prog W 0 (fun _ => true) true 42 v d p) (hq : Fits Tryz.prog 42 d) :
    ∃ (kd : Int) (tx : ByteArray) (n : Bool) (D : ByteArray) (sc : Int) (A : Option Addr) (c : Nat) (l : List S78) (se st : Int), v = .agg #[.int .i64 kd, .string tx, .bool n, .string D, .int .i64 sc, .slice A l.length c, .int .i64 se, .int .i64 st] ∧ l.length ≤ c ∧ Kd.C k78 W A l.length l ∧ l.length ≤ 281474976710656 := by
  obtain ⟨cs, rfl, hsz⟩ := okWide_struct Tryz.underlying42 hval
  obtain ⟨fuel, hf0⟩ := h
  obtain ⟨hl, m, hf⟩ := trod_fieldsG Tryz.underlying42 hf0 hq
  rw [make_cells] at hl
  obtain ⟨c0, c1, c2, c3, c4, c5, c6, c7, hcs⟩ := list8 hl
  have hv : cs.toList = [c0, c1, c2, c3, c4, c5, c6, c7] := hcs
  obtain ⟨y0, h0, f0⟩ := hf 0 _ rfl
  obtain ⟨y1, h1, f1⟩ := hf 1 _ rfl
  obtain ⟨y2, h2, f2⟩ := hf 2 _ rfl
  obtain ⟨y3, h3, f3⟩ := hf 3 _ rfl
  obtain ⟨y4, h4, f4⟩ := hf 4 _ rfl
  obtain ⟨y5, h5, f5⟩ := hf 5 _ rfl
  rw [hcs] at h0 h1 h2 h3 h4 h5
  change DataW.trod enc Tryz.prog W 0 (fun _ => true) true m 3 (([c0, c1, c2, c3, c4, c5, c6, c7].drop 0).take (Tryz.prog.cellsOf 3)) = some y0 at h0
  change DataW.trod enc Tryz.prog W 0 (fun _ => true) true m 9 (([c0, c1, c2, c3, c4, c5, c6, c7].drop 1).take (Tryz.prog.cellsOf 9)) = some y1 at h1
  change DataW.trod enc Tryz.prog W 0 (fun _ => true) true m 23 (([c0, c1, c2, c3, c4, c5, c6, c7].drop 2).take (Tryz.prog.cellsOf 23)) = some y2 at h2
  change DataW.trod enc Tryz.prog W 0 (fun _ => true) true m 40 (([c0, c1, c2, c3, c4, c5, c6, c7].drop 5).take (Tryz.prog.cellsOf 40)) = some y3 at h3
  change DataW.trod enc Tryz.prog W 0 (fun _ => true) true m 2 (([c0, c1, c2, c3, c4, c5, c6, c7].drop 6).take (Tryz.prog.cellsOf 2)) = some y4 at h4
  change DataW.trod enc Tryz.prog W 0 (fun _ => true) true m 3 (([c0, c1, c2, c3, c4, c5, c6, c7].drop 7).take (Tryz.prog.cellsOf 3)) = some y5 at h5
  rw [int_cells] at h0 h5
  rw [str_cells] at h1
  rw [dec_cells] at h2
  rw [sl_cells] at h3
  rw [i64_cells] at h4
  obtain ⟨k0, e0, _, _⟩ := DataW.trod_int Tryz.underlying3 h0
  obtain ⟨s1, e1, _⟩ := DataW.trod_string Tryz.underlying9 h1
  obtain ⟨hl2, m2, hf2⟩ := trod_fieldsG Tryz.underlying23 h2 f2
  obtain ⟨y6, h6, f6⟩ := hf2 0 _ rfl
  obtain ⟨y7, h7, f7⟩ := hf2 1 _ rfl
  obtain ⟨y8, h8, f8⟩ := hf2 2 _ rfl
  change DataW.trod enc Tryz.prog W 0 (fun _ => true) true m2 4 (((([c0, c1, c2, c3, c4, c5, c6, c7].drop 2).take 3).drop 0).take (Tryz.prog.cellsOf 4)) = some y6 at h6
  change DataW.trod enc Tryz.prog W 0 (fun _ => true) true m2 9 (((([c0, c1, c2, c3, c4, c5, c6, c7].drop 2).take 3).drop 1).take (Tryz.prog.cellsOf 9)) = some y7 at h7
  change DataW.trod enc Tryz.prog W 0 (fun _ => true) true m2 3 (((([c0, c1, c2, c3, c4, c5, c6, c7].drop 2).take 3).drop 2).take (Tryz.prog.cellsOf 3)) = some y8 at h8
  rw [bool_cells] at h6
  rw [str_cells] at h7
  rw [int_cells] at h8
  obtain ⟨b6, e6, _⟩ := DataW.trod_bool Tryz.underlying4 h6
  obtain ⟨s7, e7, _⟩ := DataW.trod_string Tryz.underlying9 h7
  obtain ⟨k8, e8, _, _⟩ := DataW.trod_int Tryz.underlying3 h8
  obtain ⟨A, c, l, e3, q3, r3, z3, w3⟩ := open_rows (k78.K W) OptIn 6 Tryz.underlying40 opt_cells6 opt_bytes (opt_at (enc := enc)) h3 f3
  obtain ⟨k4, e4, _, _⟩ := DataW.trod_int Tryz.underlying2 h4
  obtain ⟨k5, e5, _, _⟩ := DataW.trod_int Tryz.underlying3 h5
  simp at e0 e1 e3 e4 e5 e6 e7 e8
  subst e0 e1 e3 e4 e5 e6 e7 e8
  refine ⟨k0, s1, b6, s7, k8, A, c, l, k4, k5, ?_, q3, r3, z3⟩
  congr 1
  apply Array.ext'
  rw [hv]
end Go.Proofs.YtgjboghnnhcgiaaGreatDoor.E
