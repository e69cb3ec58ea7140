/- A number is meant by each way of writing it, and by no other number; for every input. (Text 5 of 5: what the law's proof rests on, joined; walks printed by the kit's print over given contracts, walks and plain laws by hand.) -/
import Derived.Lib.IndexMore
import Derived.Lib.IndexLaws
import Derived.Test.YtgjboghnnhcgiaaGreatDoorCards
import Derived.Test.YtgjboghnnhcgiaaGreatDoorTie
import Derived.Lib.SmallJoins
import Derived.SizedLaws
import Derived.Deep.Slices
import Derived.Deep.Fields
import Derived.WalkKit
import Derived.ProofKit
import Derived.OpenShut
import Derived.ShutString
import Derived.Deep.DeepHandedRow
import Derived.Lib.LaidU8
import Derived.Lib.LaidU8T
import Derived.LaidOnce
import Derived.LaidMore
import Derived.Deep.DeepWitnessRowRef
import Derived.Deep.DeepLaidRun
import Derived.Test.YtgjboghnnhcgiaaGreatDoorVsm0
import Derived.Test.YtgjboghnnhcgiaaGreatDoorVsm1
import Derived.Test.YtgjboghnnhcgiaaGreatDoorVsm2
import Derived.Test.YtgjboghnnhcgiaaGreatDoorVsm3
namespace Go.Proofs.YtgjboghnnhcgiaaGreatDoor.R
open Go.RowKit Go.Proofs.YtgjboghnnhcgiaaGreatDoor.G Go.Proofs.YtgjboghnnhcgiaaGreatDoor.U Go.Proofs.YtgjboghnnhcgiaaGreatDoorW.PrintWords Go.Proofs.YtgjboghnnhcgiaaGreatDoorW.PrintLast Go.Proofs.YtgjboghnnhcgiaaGreatDoorW.PrintMore
attribute [local go_sem] max2_int min2_int max_two min_two max_three min_three max_four min_four
set_option linter.unusedVariables false
set_option linter.unusedSimpArgs false
mutual
def dec_Dec_Compare.j0 : Nat → Bool → Bool → Bool → ByteArray → Int → Bool → ByteArray → Int → Option (Int)
  | 0, _, _, _, _, _, _, _, _ => none
  | k + 1, x5, x6, x134000, x134001, x134002, x135000, x135001, x135002 => if x5 = true then (dec_Dec_Compare.j1 k x5 x6 (!x6) x134000 x134001 x134002 x135000 x135001 x135002) else (dec_Dec_Compare.j1 k x5 x6 false x134000 x134001 x134002 x135000 x135001 x135002)
def dec_Dec_Compare.j1 : Nat → Bool → Bool → Bool → Bool → ByteArray → Int → Bool → ByteArray → Int → Option (Int)
  | 0, _, _, _, _, _, _, _, _, _ => none
  | k + 1, x5, x6, x21, x134000, x134001, x134002, x135000, x135001, x135002 => if x21 = true then (some (-1)) else (if x6 = true then (dec_Dec_Compare.j2 k x5 (!x5) x134000 x134001 x134002 x135000 x135001 x135002) else (dec_Dec_Compare.j2 k x5 false x134000 x134001 x134002 x135000 x135001 x135002))
def dec_Dec_Compare.j2 : Nat → Bool → Bool → Bool → ByteArray → Int → Bool → ByteArray → Int → Option (Int)
  | 0, _, _, _, _, _, _, _, _ => none
  | k + 1, x5, x27, x134000, x134001, x134002, x135000, x135001, x135002 => if x27 = true then (some 1) else (if x5 = true then ((dec_Dec_size.f k x134000 x134001 x134002 x135000 x135001 x135002).bind fun t138 => (some (wrap64 (-t138)))) else ((dec_Dec_size.f k x134000 x134001 x134002 x135000 x135001 x135002).bind fun t139 => (some t139)))
end
def dec_Dec_Compare.f (k : Nat) (a0_0 : Bool) (a0_1 : ByteArray) (a0_2 : Int) (a1_0 : Bool) (a1_1 : ByteArray) (a1_2 : Int) : Option (Int) := if a0_0 = true then ((dec_Dec_Zero.f a0_0 a0_1 a0_2).bind fun t135 => (if a1_0 = true then ((dec_Dec_Zero.f a1_0 a1_1 a1_2).bind fun t136 => (dec_Dec_Compare.j0 k (!t135) (!t136) a0_0 a0_1 a0_2 a1_0 a1_1 a1_2)) else (dec_Dec_Compare.j0 k (!t135) false a0_0 a0_1 a0_2 a1_0 a1_1 a1_2))) else (if a1_0 = true then ((dec_Dec_Zero.f a1_0 a1_1 a1_2).bind fun t137 => (dec_Dec_Compare.j0 k false (!t137) a0_0 a0_1 a0_2 a1_0 a1_1 a1_2)) else (dec_Dec_Compare.j0 k false false a0_0 a0_1 a0_2 a1_0 a1_1 a1_2))
def dec_Dec_Compare.T1 : Bool × List (List Nat × List Nat) := (true, [([], []), ([0], [0]), ([1], [1]), ([2], [2]), ([3, 2, 2], [2, 3]), ([4, 2], [2, 4]), ([2, 5], [2, 5]), ([], []), ([7], [7]), ([8, 4], [8]), ([9], [9]), ([10, 9, 9], [9, 10]), ([11, 9], [9, 11]), ([9, 12], [9, 12]), ([6, 11, 0, 1, 2, 3, 4, 5, 6], [6]), ([13, 14, 0, 1, 2, 3, 4, 5, 6, 7, 8, 9, 10, 11, 12, 13, 14], [13])])
def dec_Dec_Compare.B1 : List Nat := [0, 1, 3, 7, 15, 31, 63, 0, 128, 415, 927, 1951, 3999, 8095, 4095, 32767]
theorem dec_Dec_Compare.tab1 : rtab .any (opsOf Tryz.f11 1) = dec_Dec_Compare.T1 := by kernel_rfl
theorem dec_Dec_Compare.bits1 : waitsOk dec_Dec_Compare.T1.2 dec_Dec_Compare.B1 = true := by kernel_rfl
set_option maxHeartbeats 8000000 in
set_option maxRecDepth 100000 in
theorem dec_Dec_Compare.calls (k : Nat) (a0_0 : Bool) (a0_1 : ByteArray) (a0_2 : Int) (a1_0 : Bool) (a1_1 : ByteArray) (a1_2 : Int) (r : Int) (w : World) (h : dec_Dec_Compare.f k a0_0 a0_1 a0_2 a1_0 a1_1 a1_2 = some r) :
    Calls Tryz.prog 11 #[.agg #[.bool a0_0, .string a0_1, .int .i64 a0_2], .agg #[.bool a1_0, .string a1_1, .int .i64 a1_2]] w fun e w' => e = .returned (.int .i64 r) ∧ Below w.heap.size w w' := by
  have hu23 := Tryz.underlying23
  have HB := Aside0.mk (Below.refl w.heap.size w)
  have H : (if a0_0 = true then ((dec_Dec_Zero.f a0_0 a0_1 a0_2).bind fun t135 => (if a1_0 = true then ((dec_Dec_Zero.f a1_0 a1_1 a1_2).bind fun t136 => (dec_Dec_Compare.j0 k (!t135) (!t136) a0_0 a0_1 a0_2 a1_0 a1_1 a1_2)) else (dec_Dec_Compare.j0 k (!t135) false a0_0 a0_1 a0_2 a1_0 a1_1 a1_2))) else (if a1_0 = true then ((dec_Dec_Zero.f a1_0 a1_1 a1_2).bind fun t137 => (dec_Dec_Compare.j0 k false (!t137) a0_0 a0_1 a0_2 a1_0 a1_1 a1_2)) else (dec_Dec_Compare.j0 k false false a0_0 a0_1 a0_2 a1_0 a1_1 a1_2))) = some r := h
  clear h
  have HC3 := Aside0.mk H
  clear H
  go_enter Tryz.func11, Tryz.ntmps11
  go_upto_region 1 with (first | ((with_reducible refine gate_dst (N := 2) rfl ?_); refine box_event ?hg (N := 2) ?hd (cs := #[.bool a0_0, .string a0_1, .int .i64 a0_2]) (t := 23) ?hr ?_; (case hd => rfl); (case hg => rfl); (case hr => first | (go_simp; done) | (go_simp; rfl)); intro gb133 hg w4 hbox hb; have n0_ := Aside0.mk (below_step (by repeat (first | (with_reducible first | exact HB.out | apply below_alloc | apply pw_below_drewN | apply below_drew1) | exact HB.out)) hb); have n1_ := Aside0.mk (hbox); have n2_ := Aside0.mk ((by rw [hg]; exact (below_size (by repeat (first | (with_reducible first | exact HB.out | apply below_alloc | apply pw_below_drewN | apply below_drew1) | exact HB.out))) : w.heap.size ≤ gb133)); have n3_ := Aside0.mk ((by rw [hg]; exact (below_size (by repeat (first | (with_reducible first | exact HB.out | apply below_alloc | apply pw_below_drewN | apply below_drew1) | exact HB.out))) : w.heap.size ≤ gb133)); clear HB; have HB := n0_; have BK133 := n1_; have GW133 := n2_; have GE133 := n3_; clear n0_ n1_ n2_ n3_; clear hb hbox hg) | ((with_reducible refine gate_dst (N := 3) rfl ?_); refine box_event ?hg (N := 3) ?hd (cs := #[.bool a1_0, .string a1_1, .int .i64 a1_2]) (t := 23) ?hr ?_; (case hd => rfl); (case hg => rfl); (case hr => first | (go_simp; done) | (go_simp; rfl)); intro gb134 hg w5 hbox hb; have n0_ := Aside0.mk (blk_below (g := gb133) (o := .cells #[.bool a0_0, .string a0_1, .int .i64 a0_2] 23 (0, 0)) (by (with_reducible repeat (first | refine blk_drewN ?_ _ | refine blk_drew ?_ | refine blk_alloc ?_ _)); exact BK133.out) hb); have n1_ := Aside0.mk (below_step (by repeat (first | (with_reducible first | exact HB.out | apply below_alloc | apply pw_below_drewN | apply below_drew1 | refine below_set ?_ GE133.out) | exact HB.out)) hb); have n2_ := Aside0.mk (hbox); have n3_ := Aside0.mk ((by rw [hg]; exact (below_size (by repeat (first | (with_reducible first | exact HB.out | apply below_alloc | apply pw_below_drewN | apply below_drew1 | refine below_set ?_ GE133.out) | exact HB.out))) : w.heap.size ≤ gb134)); have n4_ := Aside0.mk ((by rw [hg]; exact (below_size (by repeat (first | (with_reducible first | exact HB.out | apply below_alloc | apply pw_below_drewN | apply below_drew1 | refine below_set ?_ GE133.out) | exact HB.out))) : w.heap.size ≤ gb134)); have n5_ := Aside0.mk ((by rw [hg]; exact Nat.ne_of_lt (blk_lt (g := gb133) (o := .cells #[.bool a0_0, .string a0_1, .int .i64 a0_2] 23 (0, 0)) (by (with_reducible repeat (first | refine blk_drewN ?_ _ | refine blk_drew ?_ | refine blk_alloc ?_ _)); exact BK133.out)) : gb133 ≠ gb134)); have n6_ := Aside0.mk ((by rw [hg]; exact Nat.ne_of_gt (blk_lt (g := gb133) (o := .cells #[.bool a0_0, .string a0_1, .int .i64 a0_2] 23 (0, 0)) (by (with_reducible repeat (first | refine blk_drewN ?_ _ | refine blk_drew ?_ | refine blk_alloc ?_ _)); exact BK133.out)) : gb134 ≠ gb133)); clear BK133; clear HB; have BK133 := n0_; have HB := n1_; have BK134 := n2_; have GW134 := n3_; have GE134 := n4_; have NB133_134 := n5_; have NB134_133 := n6_; clear n0_ n1_ n2_ n3_ n4_ n5_ n6_; clear hb hbox hg))
  (try simp only [Act.put, List.setIfInBounds_toArray, List.set_cons_zero, List.set_cons_succ])
  go_cut [5, 6] (fun v5 v6 wc => ∃ (kq : Nat) (x5_2 : Bool) (x6_2 : Bool), v5 = .bool x5_2 ∧ v6 = .bool x6_2 ∧ Aside0 (dec_Dec_Compare.j0 kq x5_2 x6_2 a0_0 a0_1 a0_2 a1_0 a1_1 a1_2 = some r) ∧ Aside0 (kq ≤ k) ∧ Aside0 (wc.heap[gb133]? = some (.cells #[.bool a0_0, .string a0_1, .int .i64 a0_2] 23 (0, 0))) ∧ Aside0 (wc.heap[gb134]? = some (.cells #[.bool a1_0, .string a1_1, .int .i64 a1_2] 23 (0, 0))) ∧ Aside0 (Below w.heap.size w wc))
  case first =>
    have H := HC3.out
    clear HC3
    by_cases c6 : a0_0 = true
    · subst c6
      have H1 : ((dec_Dec_Zero.f true a0_1 a0_2).bind fun t135 => (if a1_0 = true then ((dec_Dec_Zero.f a1_0 a1_1 a1_2).bind fun t136 => (dec_Dec_Compare.j0 k (!t135) (!t136) true a0_1 a0_2 a1_0 a1_1 a1_2)) else (dec_Dec_Compare.j0 k (!t135) false true a0_1 a0_2 a1_0 a1_1 a1_2))) = some r := by rw [if_pos rfl] at H; exact H
      clear H
      have H := H1
      clear H1
      replace H := Option.bind_eq_some_iff.mp H
      obtain ⟨t135, A70, H⟩ := H
      replace H : (if a1_0 = true then ((dec_Dec_Zero.f a1_0 a1_1 a1_2).bind fun t136 => (dec_Dec_Compare.j0 k (!t135) (!t136) true a0_1 a0_2 a1_0 a1_1 a1_2)) else (dec_Dec_Compare.j0 k (!t135) false true a0_1 a0_2 a1_0 a1_1 a1_2)) = some r := H
      have A7 := Aside0.mk A70
      clear A70
      by_cases c8 : a1_0 = true
      · subst c8
        have H1 : ((dec_Dec_Zero.f true a1_1 a1_2).bind fun t136 => (dec_Dec_Compare.j0 k (!t135) (!t136) true a0_1 a0_2 true a1_1 a1_2)) = some r := by rw [if_pos rfl] at H; exact H
        clear H
        have H := H1
        clear H1
        replace H := Option.bind_eq_some_iff.mp H
        obtain ⟨t136, A90, H⟩ := H
        replace H : (dec_Dec_Compare.j0 k (!t135) (!t136) true a0_1 a0_2 true a1_1 a1_2) = some r := H
        have A9 := Aside0.mk A90
        clear A90
        have H' := Aside0.mk H
        clear H
        try go_wp2
        have n0_ := Aside0.mk (blk_drew BK133.out)
        have n1_ := Aside0.mk (blk_drew BK134.out)
        have n2_ := Aside0.mk (below_drew1 HB.out)
        clear BK133
        clear BK134
        clear HB
        have BK133 := n0_
        have BK134 := n1_
        have HB := n2_
        clear n0_ n1_ n2_
        refine start_ (n := 16) (S := fun w' => w'.cell? ⟨gb133, 0, none⟩ = some (.bool true) ∧ w'.cell? ⟨gb133, 1, none⟩ = some (.string a0_1) ∧ w'.cell? ⟨gb133, 2, none⟩ = some (.int .i64 a0_2) ∧ w'.cell? ⟨gb134, 0, none⟩ = some (.bool true) ∧ w'.cell? ⟨gb134, 1, none⟩ = some (.string a1_1) ∧ w'.cell? ⟨gb134, 2, none⟩ = some (.int .i64 a1_2)) (ds := []) #[false, false, false, false, false, false, false, false, false, false, false, false, false, false, false, false] (by kernel_rfl) rfl rfl ⟨(blk_cell BK133.out 0).trans rfl, (blk_cell BK133.out 1).trans rfl, (blk_cell BK133.out 2).trans rfl, (blk_cell BK134.out 0).trans rfl, (blk_cell BK134.out 1).trans rfl, (blk_cell BK134.out 2).trans rfl⟩ (fun hHeld => ?_); refine with_tabW dec_Dec_Compare.tab1 dec_Dec_Compare.bits1 (fun HT_ HW_ => ?_)
        generalize w5.drew = w10 at BK133 BK134 HB hHeld ⊢
        refine pure_ (i := 0) (N := some 7) (v := ?_) (a' := ?_) #[true, false, false, false, false, false, false, false, false, false, false, false, false, false, false, false] rfl rfl (any_of HT_.out (by kernel_rfl)) (fun _ _ _ h => h) (Or.inl ⟨by rfl, ?_⟩) ?_ ?_
        rotate_left
        · intro w'
          go_simp
          with_reducible rfl
        rotate_left
        · simp only [Act.put, List.setIfInBounds_toArray, List.set_cons_zero, List.set_cons_succ, i64_w, i32_w]
          rfl
        refine pure_ (i := 7) (N := some 14) (v := ?_) (a' := ?_) #[true, false, false, false, false, false, false, true, false, false, false, false, false, false, false, false] rfl rfl (any_of HT_.out (by kernel_rfl)) (fun _ _ _ h => h) (Or.inl ⟨by rfl, ?_⟩) ?_ ?_
        rotate_left
        · intro w'
          go_simp
          with_reducible rfl
        rotate_left
        · simp only [Act.put, List.setIfInBounds_toArray, List.set_cons_zero, List.set_cons_succ, i64_w, i32_w]
          rfl
        refine take_ (i := 1) (N := some 8) (v := ?_) (a' := ?_) #[true, true, false, false, false, false, false, true, false, false, false, false, false, false, false, false] rfl rfl (take_ofW HT_.out HW_.out (by kernel_rfl)) (fun _ _ _ h => h) (Or.inl ⟨by rfl, ?_⟩) hHeld ?_ ?_
        rotate_left
        · rintro w' ⟨s0, s1, s2, s3, s4, s5⟩
          go_simp
          with_reducible rfl
        rotate_left
        · simp only [Act.put, List.setIfInBounds_toArray, List.set_cons_zero, List.set_cons_succ, i64_w, i32_w]
          rfl
        refine pure_ (i := 2) (N := some 9) (v := ?_) (a' := ?_) #[true, true, true, false, false, false, false, true, false, false, false, false, false, false, false, false] rfl rfl (any_of HT_.out (by kernel_rfl)) (fun _ _ _ h => h) (Or.inl ⟨by rfl, ?_⟩) ?_ ?_
        rotate_left
        · intro w'
          go_simp
          with_reducible rfl
        rotate_left
        · simp only [Act.put, List.setIfInBounds_toArray, List.set_cons_zero, List.set_cons_succ, i64_w, i32_w]
          rfl
        refine take_ (i := 3) (N := some 10) (v := ?_) (a' := ?_) #[true, true, true, true, false, false, false, true, false, false, false, false, false, false, false, false] rfl rfl (take_ofW HT_.out HW_.out (by kernel_rfl)) (fun _ _ _ h => h) (Or.inl ⟨by rfl, ?_⟩) hHeld ?_ ?_
        rotate_left
        · rintro w' ⟨s0, s1, s2, s3, s4, s5⟩
          go_simp
          with_reducible rfl
        rotate_left
        · simp only [Act.put, List.setIfInBounds_toArray, List.set_cons_zero, List.set_cons_succ, i64_w, i32_w]
          rfl
        refine take_ (i := 8) (N := some 15) (v := ?_) (a' := ?_) #[true, true, true, true, false, false, false, true, true, false, false, false, false, false, false, false] rfl rfl (take_ofW HT_.out HW_.out (by kernel_rfl)) (fun _ _ _ h => h) (Or.inl ⟨by rfl, ?_⟩) hHeld ?_ ?_
        rotate_left
        · rintro w' ⟨s0, s1, s2, s3, s4, s5⟩
          go_simp
          with_reducible rfl
        rotate_left
        · simp only [Act.put, List.setIfInBounds_toArray, List.set_cons_zero, List.set_cons_succ, i64_w, i32_w]
          rfl
        refine one_ (i := 4) (N := some 11) #[true, true, true, true, true, false, false, true, true, false, false, false, false, false, false, false] rfl rfl (one_of HT_.out (by kernel_rfl)) (by decide) (fun K hK => ?_)
        refine goes_ Tryz.func28 (by kernel_rfl) rfl #[.agg #[.bool true, .string a0_1, .int .i64 a0_2]] (by rfl) rfl rfl (by (try simp only [List.map_toArray, List.map_cons, List.map_nil]); first | done | rfl | (simp only [List.length_drop, List.length_take]; rfl)) ?_
        with_reducible refine (dec_Dec_Zero.calls true a0_1 a0_2 t135 _ A7.out).mono ?_
        rintro e w11 ⟨rfl, hb⟩
        refine ⟨_, rfl, ?_⟩
        have n0_ := Aside0.mk (blk_below (g := gb133) (o := .cells #[.bool true, .string a0_1, .int .i64 a0_2] 23 (0, 0)) (by (with_reducible repeat (first | refine blk_drewN ?_ _ | refine blk_drew ?_ | refine blk_alloc ?_ _)); exact BK133.out) hb)
        have n1_ := Aside0.mk (blk_below (g := gb134) (o := .cells #[.bool true, .string a1_1, .int .i64 a1_2] 23 (0, 0)) (by (with_reducible repeat (first | refine blk_drewN ?_ _ | refine blk_drew ?_ | refine blk_alloc ?_ _)); exact BK134.out) hb)
        have n2_ := Aside0.mk (below_step (by repeat (first | (with_reducible first | exact HB.out | apply below_alloc | apply pw_below_drewN | apply below_drew1 | refine below_set ?_ GE133.out | refine below_set ?_ GE134.out) | exact HB.out)) hb)
        clear BK133
        clear BK134
        clear HB
        have BK133 := n0_
        have BK134 := n1_
        have HB := n2_
        clear n0_ n1_ n2_
        (try clear hb)
        (try clear hb2)
        (try clear hk)
        (try clear hi)
        refine hK.out _ _ ⟨(blk_cell BK133.out 0).trans rfl, (blk_cell BK133.out 1).trans rfl, (blk_cell BK133.out 2).trans rfl, (blk_cell BK134.out 0).trans rfl, (blk_cell BK134.out 1).trans rfl, (blk_cell BK134.out 2).trans rfl⟩ (fun hHeld => ?_)
        clear hK K
        refine norm_ (a' := ?_) ?_ ?_
        rotate_left
        · show Act.put _ (some 11) _ = _
          simp only [Act.put, List.setIfInBounds_toArray, List.set_cons_zero, List.set_cons_succ, i64_w, i32_w]
          rfl
        refine pure_ (i := 5) (N := some 12) (v := ?_) (a' := ?_) #[true, true, true, true, true, true, false, true, true, false, false, false, false, false, false, false] rfl rfl (any_of HT_.out (by kernel_rfl)) (fun _ _ _ h => h) (Or.inl ⟨by rfl, ?_⟩) ?_ ?_
        rotate_left
        · intro w'
          go_simp
          with_reducible rfl
        rotate_left
        · simp only [Act.put, List.setIfInBounds_toArray, List.set_cons_zero, List.set_cons_succ, i64_w, i32_w]
          rfl
        refine pure_ (i := 6) (N := some 13) (v := ?_) (a' := ?_) #[true, true, true, true, true, true, true, true, true, false, false, false, false, false, false, false] rfl rfl (any_of HT_.out (by kernel_rfl)) (fun _ _ _ h => h) (Or.inl ⟨by rfl, ?_⟩) ?_ ?_
        rotate_left
        · intro w'
          go_simp
          with_reducible rfl
        rotate_left
        · simp only [Act.put, List.setIfInBounds_toArray, List.set_cons_zero, List.set_cons_succ, i64_w, i32_w]
          rfl
        refine pure_ (i := 9) (N := some 16) (v := ?_) (a' := ?_) #[true, true, true, true, true, true, true, true, true, true, false, false, false, false, false, false] rfl rfl (any_of HT_.out (by kernel_rfl)) (fun _ _ _ h => h) (Or.inl ⟨by rfl, ?_⟩) ?_ ?_
        rotate_left
        · intro w'
          go_simp
          with_reducible rfl
        rotate_left
        · simp only [Act.put, List.setIfInBounds_toArray, List.set_cons_zero, List.set_cons_succ, i64_w, i32_w]
          rfl
        refine take_ (i := 10) (N := some 17) (v := ?_) (a' := ?_) #[true, true, true, true, true, true, true, true, true, true, true, false, false, false, false, false] rfl rfl (take_ofW HT_.out HW_.out (by kernel_rfl)) (fun _ _ _ h => h) (Or.inl ⟨by rfl, ?_⟩) hHeld ?_ ?_
        rotate_left
        · rintro w' ⟨s0, s1, s2, s3, s4, s5⟩
          go_simp
          with_reducible rfl
        rotate_left
        · simp only [Act.put, List.setIfInBounds_toArray, List.set_cons_zero, List.set_cons_succ, i64_w, i32_w]
          rfl
        refine one_ (i := 11) (N := some 18) #[true, true, true, true, true, true, true, true, true, true, true, true, false, false, false, false] rfl rfl (one_of HT_.out (by kernel_rfl)) (by decide) (fun K hK => ?_)
        refine goes_ Tryz.func28 (by kernel_rfl) rfl #[.agg #[.bool true, .string a1_1, .int .i64 a1_2]] (by rfl) rfl rfl (by (try simp only [List.map_toArray, List.map_cons, List.map_nil]); first | done | rfl | (simp only [List.length_drop, List.length_take]; rfl)) ?_
        with_reducible refine (dec_Dec_Zero.calls true a1_1 a1_2 t136 _ A9.out).mono ?_
        rintro e w12 ⟨rfl, hb⟩
        refine ⟨_, rfl, ?_⟩
        have n0_ := Aside0.mk (blk_below (g := gb133) (o := .cells #[.bool true, .string a0_1, .int .i64 a0_2] 23 (0, 0)) (by (with_reducible repeat (first | refine blk_drewN ?_ _ | refine blk_drew ?_ | refine blk_alloc ?_ _)); exact BK133.out) hb)
        have n1_ := Aside0.mk (blk_below (g := gb134) (o := .cells #[.bool true, .string a1_1, .int .i64 a1_2] 23 (0, 0)) (by (with_reducible repeat (first | refine blk_drewN ?_ _ | refine blk_drew ?_ | refine blk_alloc ?_ _)); exact BK134.out) hb)
        have n2_ := Aside0.mk (below_step (by repeat (first | (with_reducible first | exact HB.out | apply below_alloc | apply pw_below_drewN | apply below_drew1 | refine below_set ?_ GE133.out | refine below_set ?_ GE134.out) | exact HB.out)) hb)
        clear BK133
        clear BK134
        clear HB
        have BK133 := n0_
        have BK134 := n1_
        have HB := n2_
        clear n0_ n1_ n2_
        (try clear hb)
        (try clear hb2)
        (try clear hk)
        (try clear hi)
        refine hK.out _ _ ⟨(blk_cell BK133.out 0).trans rfl, (blk_cell BK133.out 1).trans rfl, (blk_cell BK133.out 2).trans rfl, (blk_cell BK134.out 0).trans rfl, (blk_cell BK134.out 1).trans rfl, (blk_cell BK134.out 2).trans rfl⟩ (fun hHeld => ?_)
        clear hK K
        refine norm_ (a' := ?_) ?_ ?_
        rotate_left
        · show Act.put _ (some 18) _ = _
          simp only [Act.put, List.setIfInBounds_toArray, List.set_cons_zero, List.set_cons_succ, i64_w, i32_w]
          rfl
        refine pure_ (i := 12) (N := some 19) (v := ?_) (a' := ?_) #[true, true, true, true, true, true, true, true, true, true, true, true, true, false, false, false] rfl rfl (any_of HT_.out (by kernel_rfl)) (fun _ _ _ h => h) (Or.inl ⟨by rfl, ?_⟩) ?_ ?_
        rotate_left
        · intro w'
          go_simp
          with_reducible rfl
        rotate_left
        · simp only [Act.put, List.setIfInBounds_toArray, List.set_cons_zero, List.set_cons_succ, i64_w, i32_w]
          rfl
        refine pure_ (i := 13) (N := some 20) (v := ?_) (a' := ?_) #[true, true, true, true, true, true, true, true, true, true, true, true, true, true, false, false] rfl rfl (any_of HT_.out (by kernel_rfl)) (fun _ _ _ h => h) (Or.inl ⟨by rfl, ?_⟩) ?_ ?_
        rotate_left
        · intro w'
          go_simp
          with_reducible rfl
        rotate_left
        · simp only [Act.put, List.setIfInBounds_toArray, List.set_cons_zero, List.set_cons_succ, i64_w, i32_w]
          rfl
        refine pure_ (i := 14) (N := some 5) (v := ?_) (a' := ?_) #[true, true, true, true, true, true, true, true, true, true, true, true, true, true, true, false] rfl rfl (any_of HT_.out (by kernel_rfl)) (fun _ _ _ h => h) (Or.inl ⟨by rfl, ?_⟩) ?_ ?_
        rotate_left
        · intro w'
          go_simp
          with_reducible rfl
        rotate_left
        · simp only [Act.put, List.setIfInBounds_toArray, List.set_cons_zero, List.set_cons_succ, i64_w, i32_w]
          rfl
        refine pure_ (i := 15) (N := some 6) (v := ?_) (a' := ?_) #[true, true, true, true, true, true, true, true, true, true, true, true, true, true, true, true] rfl rfl (any_of HT_.out (by kernel_rfl)) (fun _ _ _ h => h) (Or.inl ⟨by rfl, ?_⟩) ?_ ?_
        rotate_left
        · intro w'
          go_simp
          with_reducible rfl
        rotate_left
        · simp only [Act.put, List.setIfInBounds_toArray, List.set_cons_zero, List.set_cons_succ, i64_w, i32_w]
          rfl
        refine done_ (done_of HT_.out (by kernel_rfl)) ?_
        try go_wp2
        go_meet
        case rel => exact ⟨_, (!t135), (!t136), (by first | rfl | (simp; done) | (simp [*]; done)), (by first | rfl | (simp; done) | (simp [*]; done)), H', ⟨by first | omega | exact Nat.le_refl _⟩, ⟨by (with_reducible repeat (first | refine blk_drewN ?_ _ | refine blk_drew ?_ | refine blk_alloc ?_ _)); exact BK133.out⟩, ⟨by (with_reducible repeat (first | refine blk_drewN ?_ _ | refine blk_drew ?_ | refine blk_alloc ?_ _)); exact BK134.out⟩, ⟨by repeat (first | (with_reducible first | exact HB.out | apply below_alloc | apply pw_below_drewN | apply below_drew1 | refine below_set ?_ GE133.out | refine below_set ?_ GE134.out) | exact HB.out)⟩⟩
      · replace c8 := Bool.eq_false_iff.mpr c8
        subst c8
        have H1 : (dec_Dec_Compare.j0 k (!t135) false true a0_1 a0_2 false a1_1 a1_2) = some r := by rw [if_neg (show ¬ (false = true) by decide)] at H; exact H
        clear H
        have H := H1
        clear H1
        have H' := Aside0.mk H
        clear H
        try go_wp2
        have n0_ := Aside0.mk (blk_drew BK133.out)
        have n1_ := Aside0.mk (blk_drew BK134.out)
        have n2_ := Aside0.mk (below_drew1 HB.out)
        clear BK133
        clear BK134
        clear HB
        have BK133 := n0_
        have BK134 := n1_
        have HB := n2_
        clear n0_ n1_ n2_
        refine start_ (n := 16) (S := fun w' => w'.cell? ⟨gb133, 0, none⟩ = some (.bool true) ∧ w'.cell? ⟨gb133, 1, none⟩ = some (.string a0_1) ∧ w'.cell? ⟨gb133, 2, none⟩ = some (.int .i64 a0_2) ∧ w'.cell? ⟨gb134, 0, none⟩ = some (.bool false) ∧ w'.cell? ⟨gb134, 1, none⟩ = some (.string a1_1) ∧ w'.cell? ⟨gb134, 2, none⟩ = some (.int .i64 a1_2)) (ds := []) #[false, false, false, false, false, false, false, false, false, false, false, false, false, false, false, false] (by kernel_rfl) rfl rfl ⟨(blk_cell BK133.out 0).trans rfl, (blk_cell BK133.out 1).trans rfl, (blk_cell BK133.out 2).trans rfl, (blk_cell BK134.out 0).trans rfl, (blk_cell BK134.out 1).trans rfl, (blk_cell BK134.out 2).trans rfl⟩ (fun hHeld => ?_); refine with_tabW dec_Dec_Compare.tab1 dec_Dec_Compare.bits1 (fun HT_ HW_ => ?_)
        generalize w5.drew = w13 at BK133 BK134 HB hHeld ⊢
        refine pure_ (i := 0) (N := some 7) (v := ?_) (a' := ?_) #[true, false, false, false, false, false, false, false, false, false, false, false, false, false, false, false] rfl rfl (any_of HT_.out (by kernel_rfl)) (fun _ _ _ h => h) (Or.inl ⟨by rfl, ?_⟩) ?_ ?_
        rotate_left
        · intro w'
          go_simp
          with_reducible rfl
        rotate_left
        · simp only [Act.put, List.setIfInBounds_toArray, List.set_cons_zero, List.set_cons_succ, i64_w, i32_w]
          rfl
        refine pure_ (i := 7) (N := some 14) (v := ?_) (a' := ?_) #[true, false, false, false, false, false, false, true, false, false, false, false, false, false, false, false] rfl rfl (any_of HT_.out (by kernel_rfl)) (fun _ _ _ h => h) (Or.inl ⟨by rfl, ?_⟩) ?_ ?_
        rotate_left
        · intro w'
          go_simp
          with_reducible rfl
        rotate_left
        · simp only [Act.put, List.setIfInBounds_toArray, List.set_cons_zero, List.set_cons_succ, i64_w, i32_w]
          rfl
        refine take_ (i := 1) (N := some 8) (v := ?_) (a' := ?_) #[true, true, false, false, false, false, false, true, false, false, false, false, false, false, false, false] rfl rfl (take_ofW HT_.out HW_.out (by kernel_rfl)) (fun _ _ _ h => h) (Or.inl ⟨by rfl, ?_⟩) hHeld ?_ ?_
        rotate_left
        · rintro w' ⟨s0, s1, s2, s3, s4, s5⟩
          go_simp
          with_reducible rfl
        rotate_left
        · simp only [Act.put, List.setIfInBounds_toArray, List.set_cons_zero, List.set_cons_succ, i64_w, i32_w]
          rfl
        refine pure_ (i := 2) (N := some 9) (v := ?_) (a' := ?_) #[true, true, true, false, false, false, false, true, false, false, false, false, false, false, false, false] rfl rfl (any_of HT_.out (by kernel_rfl)) (fun _ _ _ h => h) (Or.inl ⟨by rfl, ?_⟩) ?_ ?_
        rotate_left
        · intro w'
          go_simp
          with_reducible rfl
        rotate_left
        · simp only [Act.put, List.setIfInBounds_toArray, List.set_cons_zero, List.set_cons_succ, i64_w, i32_w]
          rfl
        refine take_ (i := 3) (N := some 10) (v := ?_) (a' := ?_) #[true, true, true, true, false, false, false, true, false, false, false, false, false, false, false, false] rfl rfl (take_ofW HT_.out HW_.out (by kernel_rfl)) (fun _ _ _ h => h) (Or.inl ⟨by rfl, ?_⟩) hHeld ?_ ?_
        rotate_left
        · rintro w' ⟨s0, s1, s2, s3, s4, s5⟩
          go_simp
          with_reducible rfl
        rotate_left
        · simp only [Act.put, List.setIfInBounds_toArray, List.set_cons_zero, List.set_cons_succ, i64_w, i32_w]
          rfl
        refine take_ (i := 8) (N := some 15) (v := ?_) (a' := ?_) #[true, true, true, true, false, false, false, true, true, false, false, false, false, false, false, false] rfl rfl (take_ofW HT_.out HW_.out (by kernel_rfl)) (fun _ _ _ h => h) (Or.inl ⟨by rfl, ?_⟩) hHeld ?_ ?_
        rotate_left
        · rintro w' ⟨s0, s1, s2, s3, s4, s5⟩
          go_simp
          with_reducible rfl
        rotate_left
        · simp only [Act.put, List.setIfInBounds_toArray, List.set_cons_zero, List.set_cons_succ, i64_w, i32_w]
          rfl
        refine one_ (i := 4) (N := some 11) #[true, true, true, true, true, false, false, true, true, false, false, false, false, false, false, false] rfl rfl (one_of HT_.out (by kernel_rfl)) (by decide) (fun K hK => ?_)
        refine goes_ Tryz.func28 (by kernel_rfl) rfl #[.agg #[.bool true, .string a0_1, .int .i64 a0_2]] (by rfl) rfl rfl (by (try simp only [List.map_toArray, List.map_cons, List.map_nil]); first | done | rfl | (simp only [List.length_drop, List.length_take]; rfl)) ?_
        with_reducible refine (dec_Dec_Zero.calls true a0_1 a0_2 t135 _ A7.out).mono ?_
        rintro e w14 ⟨rfl, hb⟩
        refine ⟨_, rfl, ?_⟩
        have n0_ := Aside0.mk (blk_below (g := gb133) (o := .cells #[.bool true, .string a0_1, .int .i64 a0_2] 23 (0, 0)) (by (with_reducible repeat (first | refine blk_drewN ?_ _ | refine blk_drew ?_ | refine blk_alloc ?_ _)); exact BK133.out) hb)
        have n1_ := Aside0.mk (blk_below (g := gb134) (o := .cells #[.bool false, .string a1_1, .int .i64 a1_2] 23 (0, 0)) (by (with_reducible repeat (first | refine blk_drewN ?_ _ | refine blk_drew ?_ | refine blk_alloc ?_ _)); exact BK134.out) hb)
        have n2_ := Aside0.mk (below_step (by repeat (first | (with_reducible first | exact HB.out | apply below_alloc | apply pw_below_drewN | apply below_drew1 | refine below_set ?_ GE133.out | refine below_set ?_ GE134.out) | exact HB.out)) hb)
        clear BK133
        clear BK134
        clear HB
        have BK133 := n0_
        have BK134 := n1_
        have HB := n2_
        clear n0_ n1_ n2_
        (try clear hb)
        (try clear hb2)
        (try clear hk)
        (try clear hi)
        refine hK.out _ _ ⟨(blk_cell BK133.out 0).trans rfl, (blk_cell BK133.out 1).trans rfl, (blk_cell BK133.out 2).trans rfl, (blk_cell BK134.out 0).trans rfl, (blk_cell BK134.out 1).trans rfl, (blk_cell BK134.out 2).trans rfl⟩ (fun hHeld => ?_)
        clear hK K
        refine norm_ (a' := ?_) ?_ ?_
        rotate_left
        · show Act.put _ (some 11) _ = _
          simp only [Act.put, List.setIfInBounds_toArray, List.set_cons_zero, List.set_cons_succ, i64_w, i32_w]
          rfl
        refine pure_ (i := 5) (N := some 12) (v := ?_) (a' := ?_) #[true, true, true, true, true, true, false, true, true, false, false, false, false, false, false, false] rfl rfl (any_of HT_.out (by kernel_rfl)) (fun _ _ _ h => h) (Or.inl ⟨by rfl, ?_⟩) ?_ ?_
        rotate_left
        · intro w'
          go_simp
          with_reducible rfl
        rotate_left
        · simp only [Act.put, List.setIfInBounds_toArray, List.set_cons_zero, List.set_cons_succ, i64_w, i32_w]
          rfl
        refine pure_ (i := 6) (N := some 13) (v := ?_) (a' := ?_) #[true, true, true, true, true, true, true, true, true, false, false, false, false, false, false, false] rfl rfl (any_of HT_.out (by kernel_rfl)) (fun _ _ _ h => h) (Or.inl ⟨by rfl, ?_⟩) ?_ ?_
        rotate_left
        · intro w'
          go_simp
          with_reducible rfl
        rotate_left
        · simp only [Act.put, List.setIfInBounds_toArray, List.set_cons_zero, List.set_cons_succ, i64_w, i32_w]
          rfl
        refine pure_ (i := 9) (N := some 16) (v := ?_) (a' := ?_) #[true, true, true, true, true, true, true, true, true, true, false, false, false, false, false, false] rfl rfl (any_of HT_.out (by kernel_rfl)) (fun _ _ _ h => h) (Or.inl ⟨by rfl, ?_⟩) ?_ ?_
        rotate_left
        · intro w'
          go_simp
          with_reducible rfl
        rotate_left
        · simp only [Act.put, List.setIfInBounds_toArray, List.set_cons_zero, List.set_cons_succ, i64_w, i32_w]
          rfl
        refine pure_ (i := 10) (N := some 17) (v := undef) (a' := ?_) #[true, true, true, true, true, true, true, true, true, true, true, false, false, false, false, false] rfl rfl (any_of HT_.out (by kernel_rfl)) (fun _ _ _ h => h) (Or.inr ⟨by rfl, rfl⟩) ?_ ?_
        rotate_left
        · simp only [Act.put, List.setIfInBounds_toArray, List.set_cons_zero, List.set_cons_succ, i64_w, i32_w]
          rfl
        refine pure_ (i := 11) (N := some 18) (v := undef) (a' := ?_) #[true, true, true, true, true, true, true, true, true, true, true, true, false, false, false, false] rfl rfl (any_of HT_.out (by kernel_rfl)) (fun _ _ _ h => h) (Or.inr ⟨by rfl, rfl⟩) ?_ ?_
        rotate_left
        · simp only [Act.put, List.setIfInBounds_toArray, List.set_cons_zero, List.set_cons_succ, i64_w, i32_w]
          rfl
        refine pure_ (i := 12) (N := some 19) (v := undef) (a' := ?_) #[true, true, true, true, true, true, true, true, true, true, true, true, true, false, false, false] rfl rfl (any_of HT_.out (by kernel_rfl)) (fun _ _ _ h => h) (Or.inr ⟨by rfl, rfl⟩) ?_ ?_
        rotate_left
        · simp only [Act.put, List.setIfInBounds_toArray, List.set_cons_zero, List.set_cons_succ, i64_w, i32_w]
          rfl
        refine pure_ (i := 13) (N := some 20) (v := ?_) (a' := ?_) #[true, true, true, true, true, true, true, true, true, true, true, true, true, true, false, false] rfl rfl (any_of HT_.out (by kernel_rfl)) (fun _ _ _ h => h) (Or.inl ⟨by rfl, ?_⟩) ?_ ?_
        rotate_left
        · intro w'
          go_simp
          with_reducible rfl
        rotate_left
        · simp only [Act.put, List.setIfInBounds_toArray, List.set_cons_zero, List.set_cons_succ, i64_w, i32_w]
          rfl
        refine pure_ (i := 14) (N := some 5) (v := ?_) (a' := ?_) #[true, true, true, true, true, true, true, true, true, true, true, true, true, true, true, false] rfl rfl (any_of HT_.out (by kernel_rfl)) (fun _ _ _ h => h) (Or.inl ⟨by rfl, ?_⟩) ?_ ?_
        rotate_left
        · intro w'
          go_simp
          with_reducible rfl
        rotate_left
        · simp only [Act.put, List.setIfInBounds_toArray, List.set_cons_zero, List.set_cons_succ, i64_w, i32_w]
          rfl
        refine pure_ (i := 15) (N := some 6) (v := ?_) (a' := ?_) #[true, true, true, true, true, true, true, true, true, true, true, true, true, true, true, true] rfl rfl (any_of HT_.out (by kernel_rfl)) (fun _ _ _ h => h) (Or.inl ⟨by rfl, ?_⟩) ?_ ?_
        rotate_left
        · intro w'
          go_simp
          with_reducible rfl
        rotate_left
        · simp only [Act.put, List.setIfInBounds_toArray, List.set_cons_zero, List.set_cons_succ, i64_w, i32_w]
          rfl
        refine done_ (done_of HT_.out (by kernel_rfl)) ?_
        try go_wp2
        go_meet
        case rel => exact ⟨_, (!t135), (false), (by first | rfl | (simp; done) | (simp [*]; done)), (by first | rfl | (simp; done) | (simp [*]; done)), H', ⟨by first | omega | exact Nat.le_refl _⟩, ⟨by (with_reducible repeat (first | refine blk_drewN ?_ _ | refine blk_drew ?_ | refine blk_alloc ?_ _)); exact BK133.out⟩, ⟨by (with_reducible repeat (first | refine blk_drewN ?_ _ | refine blk_drew ?_ | refine blk_alloc ?_ _)); exact BK134.out⟩, ⟨by repeat (first | (with_reducible first | exact HB.out | apply below_alloc | apply pw_below_drewN | apply below_drew1 | refine below_set ?_ GE133.out | refine below_set ?_ GE134.out) | exact HB.out)⟩⟩
    · replace c6 := Bool.eq_false_iff.mpr c6
      subst c6
      have H1 : (if a1_0 = true then ((dec_Dec_Zero.f a1_0 a1_1 a1_2).bind fun t137 => (dec_Dec_Compare.j0 k false (!t137) false a0_1 a0_2 a1_0 a1_1 a1_2)) else (dec_Dec_Compare.j0 k false false false a0_1 a0_2 a1_0 a1_1 a1_2)) = some r := by rw [if_neg (show ¬ (false = true) by decide)] at H; exact H
      clear H
      have H := H1
      clear H1
      by_cases c15 : a1_0 = true
      · subst c15
        have H1 : ((dec_Dec_Zero.f true a1_1 a1_2).bind fun t137 => (dec_Dec_Compare.j0 k false (!t137) false a0_1 a0_2 true a1_1 a1_2)) = some r := by rw [if_pos rfl] at H; exact H
        clear H
        have H := H1
        clear H1
        replace H := Option.bind_eq_some_iff.mp H
        obtain ⟨t137, A160, H⟩ := H
        replace H : (dec_Dec_Compare.j0 k false (!t137) false a0_1 a0_2 true a1_1 a1_2) = some r := H
        have A16 := Aside0.mk A160
        clear A160
        have H' := Aside0.mk H
        clear H
        try go_wp2
        have n0_ := Aside0.mk (blk_drew BK133.out)
        have n1_ := Aside0.mk (blk_drew BK134.out)
        have n2_ := Aside0.mk (below_drew1 HB.out)
        clear BK133
        clear BK134
        clear HB
        have BK133 := n0_
        have BK134 := n1_
        have HB := n2_
        clear n0_ n1_ n2_
        refine start_ (n := 16) (S := fun w' => w'.cell? ⟨gb133, 0, none⟩ = some (.bool false) ∧ w'.cell? ⟨gb133, 1, none⟩ = some (.string a0_1) ∧ w'.cell? ⟨gb133, 2, none⟩ = some (.int .i64 a0_2) ∧ w'.cell? ⟨gb134, 0, none⟩ = some (.bool true) ∧ w'.cell? ⟨gb134, 1, none⟩ = some (.string a1_1) ∧ w'.cell? ⟨gb134, 2, none⟩ = some (.int .i64 a1_2)) (ds := []) #[false, false, false, false, false, false, false, false, false, false, false, false, false, false, false, false] (by kernel_rfl) rfl rfl ⟨(blk_cell BK133.out 0).trans rfl, (blk_cell BK133.out 1).trans rfl, (blk_cell BK133.out 2).trans rfl, (blk_cell BK134.out 0).trans rfl, (blk_cell BK134.out 1).trans rfl, (blk_cell BK134.out 2).trans rfl⟩ (fun hHeld => ?_); refine with_tabW dec_Dec_Compare.tab1 dec_Dec_Compare.bits1 (fun HT_ HW_ => ?_)
        generalize w5.drew = w17 at BK133 BK134 HB hHeld ⊢
        refine pure_ (i := 0) (N := some 7) (v := ?_) (a' := ?_) #[true, false, false, false, false, false, false, false, false, false, false, false, false, false, false, false] rfl rfl (any_of HT_.out (by kernel_rfl)) (fun _ _ _ h => h) (Or.inl ⟨by rfl, ?_⟩) ?_ ?_
        rotate_left
        · intro w'
          go_simp
          with_reducible rfl
        rotate_left
        · simp only [Act.put, List.setIfInBounds_toArray, List.set_cons_zero, List.set_cons_succ, i64_w, i32_w]
          rfl
        refine pure_ (i := 7) (N := some 14) (v := ?_) (a' := ?_) #[true, false, false, false, false, false, false, true, false, false, false, false, false, false, false, false] rfl rfl (any_of HT_.out (by kernel_rfl)) (fun _ _ _ h => h) (Or.inl ⟨by rfl, ?_⟩) ?_ ?_
        rotate_left
        · intro w'
          go_simp
          with_reducible rfl
        rotate_left
        · simp only [Act.put, List.setIfInBounds_toArray, List.set_cons_zero, List.set_cons_succ, i64_w, i32_w]
          rfl
        refine take_ (i := 1) (N := some 8) (v := ?_) (a' := ?_) #[true, true, false, false, false, false, false, true, false, false, false, false, false, false, false, false] rfl rfl (take_ofW HT_.out HW_.out (by kernel_rfl)) (fun _ _ _ h => h) (Or.inl ⟨by rfl, ?_⟩) hHeld ?_ ?_
        rotate_left
        · rintro w' ⟨s0, s1, s2, s3, s4, s5⟩
          go_simp
          with_reducible rfl
        rotate_left
        · simp only [Act.put, List.setIfInBounds_toArray, List.set_cons_zero, List.set_cons_succ, i64_w, i32_w]
          rfl
        refine pure_ (i := 2) (N := some 9) (v := ?_) (a' := ?_) #[true, true, true, false, false, false, false, true, false, false, false, false, false, false, false, false] rfl rfl (any_of HT_.out (by kernel_rfl)) (fun _ _ _ h => h) (Or.inl ⟨by rfl, ?_⟩) ?_ ?_
        rotate_left
        · intro w'
          go_simp
          with_reducible rfl
        rotate_left
        · simp only [Act.put, List.setIfInBounds_toArray, List.set_cons_zero, List.set_cons_succ, i64_w, i32_w]
          rfl
        refine pure_ (i := 3) (N := some 10) (v := undef) (a' := ?_) #[true, true, true, true, false, false, false, true, false, false, false, false, false, false, false, false] rfl rfl (any_of HT_.out (by kernel_rfl)) (fun _ _ _ h => h) (Or.inr ⟨by rfl, rfl⟩) ?_ ?_
        rotate_left
        · simp only [Act.put, List.setIfInBounds_toArray, List.set_cons_zero, List.set_cons_succ, i64_w, i32_w]
          rfl
        refine pure_ (i := 4) (N := some 11) (v := undef) (a' := ?_) #[true, true, true, true, true, false, false, true, false, false, false, false, false, false, false, false] rfl rfl (any_of HT_.out (by kernel_rfl)) (fun _ _ _ h => h) (Or.inr ⟨by rfl, rfl⟩) ?_ ?_
        rotate_left
        · simp only [Act.put, List.setIfInBounds_toArray, List.set_cons_zero, List.set_cons_succ, i64_w, i32_w]
          rfl
        refine pure_ (i := 5) (N := some 12) (v := undef) (a' := ?_) #[true, true, true, true, true, true, false, true, false, false, false, false, false, false, false, false] rfl rfl (any_of HT_.out (by kernel_rfl)) (fun _ _ _ h => h) (Or.inr ⟨by rfl, rfl⟩) ?_ ?_
        rotate_left
        · simp only [Act.put, List.setIfInBounds_toArray, List.set_cons_zero, List.set_cons_succ, i64_w, i32_w]
          rfl
        refine pure_ (i := 6) (N := some 13) (v := ?_) (a' := ?_) #[true, true, true, true, true, true, true, true, false, false, false, false, false, false, false, false] rfl rfl (any_of HT_.out (by kernel_rfl)) (fun _ _ _ h => h) (Or.inl ⟨by rfl, ?_⟩) ?_ ?_
        rotate_left
        · intro w'
          go_simp
          with_reducible rfl
        rotate_left
        · simp only [Act.put, List.setIfInBounds_toArray, List.set_cons_zero, List.set_cons_succ, i64_w, i32_w]
          rfl
        refine take_ (i := 8) (N := some 15) (v := ?_) (a' := ?_) #[true, true, true, true, true, true, true, true, true, false, false, false, false, false, false, false] rfl rfl (take_ofW HT_.out HW_.out (by kernel_rfl)) (fun _ _ _ h => h) (Or.inl ⟨by rfl, ?_⟩) hHeld ?_ ?_
        rotate_left
        · rintro w' ⟨s0, s1, s2, s3, s4, s5⟩
          go_simp
          with_reducible rfl
        rotate_left
        · simp only [Act.put, List.setIfInBounds_toArray, List.set_cons_zero, List.set_cons_succ, i64_w, i32_w]
          rfl
        refine pure_ (i := 9) (N := some 16) (v := ?_) (a' := ?_) #[true, true, true, true, true, true, true, true, true, true, false, false, false, false, false, false] rfl rfl (any_of HT_.out (by kernel_rfl)) (fun _ _ _ h => h) (Or.inl ⟨by rfl, ?_⟩) ?_ ?_
        rotate_left
        · intro w'
          go_simp
          with_reducible rfl
        rotate_left
        · simp only [Act.put, List.setIfInBounds_toArray, List.set_cons_zero, List.set_cons_succ, i64_w, i32_w]
          rfl
        refine take_ (i := 10) (N := some 17) (v := ?_) (a' := ?_) #[true, true, true, true, true, true, true, true, true, true, true, false, false, false, false, false] rfl rfl (take_ofW HT_.out HW_.out (by kernel_rfl)) (fun _ _ _ h => h) (Or.inl ⟨by rfl, ?_⟩) hHeld ?_ ?_
        rotate_left
        · rintro w' ⟨s0, s1, s2, s3, s4, s5⟩
          go_simp
          with_reducible rfl
        rotate_left
        · simp only [Act.put, List.setIfInBounds_toArray, List.set_cons_zero, List.set_cons_succ, i64_w, i32_w]
          rfl
        refine one_ (i := 11) (N := some 18) #[true, true, true, true, true, true, true, true, true, true, true, true, false, false, false, false] rfl rfl (one_of HT_.out (by kernel_rfl)) (by decide) (fun K hK => ?_)
        refine goes_ Tryz.func28 (by kernel_rfl) rfl #[.agg #[.bool true, .string a1_1, .int .i64 a1_2]] (by rfl) rfl rfl (by (try simp only [List.map_toArray, List.map_cons, List.map_nil]); first | done | rfl | (simp only [List.length_drop, List.length_take]; rfl)) ?_
        with_reducible refine (dec_Dec_Zero.calls true a1_1 a1_2 t137 _ A16.out).mono ?_
        rintro e w18 ⟨rfl, hb⟩
        refine ⟨_, rfl, ?_⟩
        have n0_ := Aside0.mk (blk_below (g := gb133) (o := .cells #[.bool false, .string a0_1, .int .i64 a0_2] 23 (0, 0)) (by (with_reducible repeat (first | refine blk_drewN ?_ _ | refine blk_drew ?_ | refine blk_alloc ?_ _)); exact BK133.out) hb)
        have n1_ := Aside0.mk (blk_below (g := gb134) (o := .cells #[.bool true, .string a1_1, .int .i64 a1_2] 23 (0, 0)) (by (with_reducible repeat (first | refine blk_drewN ?_ _ | refine blk_drew ?_ | refine blk_alloc ?_ _)); exact BK134.out) hb)
        have n2_ := Aside0.mk (below_step (by repeat (first | (with_reducible first | exact HB.out | apply below_alloc | apply pw_below_drewN | apply below_drew1 | refine below_set ?_ GE133.out | refine below_set ?_ GE134.out) | exact HB.out)) hb)
        clear BK133
        clear BK134
        clear HB
        have BK133 := n0_
        have BK134 := n1_
        have HB := n2_
        clear n0_ n1_ n2_
        (try clear hb)
        (try clear hb2)
        (try clear hk)
        (try clear hi)
        refine hK.out _ _ ⟨(blk_cell BK133.out 0).trans rfl, (blk_cell BK133.out 1).trans rfl, (blk_cell BK133.out 2).trans rfl, (blk_cell BK134.out 0).trans rfl, (blk_cell BK134.out 1).trans rfl, (blk_cell BK134.out 2).trans rfl⟩ (fun hHeld => ?_)
        clear hK K
        refine norm_ (a' := ?_) ?_ ?_
        rotate_left
        · show Act.put _ (some 18) _ = _
          simp only [Act.put, List.setIfInBounds_toArray, List.set_cons_zero, List.set_cons_succ, i64_w, i32_w]
          rfl
        refine pure_ (i := 12) (N := some 19) (v := ?_) (a' := ?_) #[true, true, true, true, true, true, true, true, true, true, true, true, true, false, false, false] rfl rfl (any_of HT_.out (by kernel_rfl)) (fun _ _ _ h => h) (Or.inl ⟨by rfl, ?_⟩) ?_ ?_
        rotate_left
        · intro w'
          go_simp
          with_reducible rfl
        rotate_left
        · simp only [Act.put, List.setIfInBounds_toArray, List.set_cons_zero, List.set_cons_succ, i64_w, i32_w]
          rfl
        refine pure_ (i := 13) (N := some 20) (v := ?_) (a' := ?_) #[true, true, true, true, true, true, true, true, true, true, true, true, true, true, false, false] rfl rfl (any_of HT_.out (by kernel_rfl)) (fun _ _ _ h => h) (Or.inl ⟨by rfl, ?_⟩) ?_ ?_
        rotate_left
        · intro w'
          go_simp
          with_reducible rfl
        rotate_left
        · simp only [Act.put, List.setIfInBounds_toArray, List.set_cons_zero, List.set_cons_succ, i64_w, i32_w]
          rfl
        refine pure_ (i := 14) (N := some 5) (v := ?_) (a' := ?_) #[true, true, true, true, true, true, true, true, true, true, true, true, true, true, true, false] rfl rfl (any_of HT_.out (by kernel_rfl)) (fun _ _ _ h => h) (Or.inl ⟨by rfl, ?_⟩) ?_ ?_
        rotate_left
        · intro w'
          go_simp
          with_reducible rfl
        rotate_left
        · simp only [Act.put, List.setIfInBounds_toArray, List.set_cons_zero, List.set_cons_succ, i64_w, i32_w]
          rfl
        refine pure_ (i := 15) (N := some 6) (v := ?_) (a' := ?_) #[true, true, true, true, true, true, true, true, true, true, true, true, true, true, true, true] rfl rfl (any_of HT_.out (by kernel_rfl)) (fun _ _ _ h => h) (Or.inl ⟨by rfl, ?_⟩) ?_ ?_
        rotate_left
        · intro w'
          go_simp
          with_reducible rfl
        rotate_left
        · simp only [Act.put, List.setIfInBounds_toArray, List.set_cons_zero, List.set_cons_succ, i64_w, i32_w]
          rfl
        refine done_ (done_of HT_.out (by kernel_rfl)) ?_
        try go_wp2
        go_meet
        case rel => exact ⟨_, (false), (!t137), (by first | rfl | (simp; done) | (simp [*]; done)), (by first | rfl | (simp; done) | (simp [*]; done)), H', ⟨by first | omega | exact Nat.le_refl _⟩, ⟨by (with_reducible repeat (first | refine blk_drewN ?_ _ | refine blk_drew ?_ | refine blk_alloc ?_ _)); exact BK133.out⟩, ⟨by (with_reducible repeat (first | refine blk_drewN ?_ _ | refine blk_drew ?_ | refine blk_alloc ?_ _)); exact BK134.out⟩, ⟨by repeat (first | (with_reducible first | exact HB.out | apply below_alloc | apply pw_below_drewN | apply below_drew1 | refine below_set ?_ GE133.out | refine below_set ?_ GE134.out) | exact HB.out)⟩⟩
      · replace c15 := Bool.eq_false_iff.mpr c15
        subst c15
        have H1 : (dec_Dec_Compare.j0 k false false false a0_1 a0_2 false a1_1 a1_2) = some r := by rw [if_neg (show ¬ (false = true) by decide)] at H; exact H
        clear H
        have H := H1
        clear H1
        have H' := Aside0.mk H
        clear H
        try go_wp2
        have n0_ := Aside0.mk (blk_drew BK133.out)
        have n1_ := Aside0.mk (blk_drew BK134.out)
        have n2_ := Aside0.mk (below_drew1 HB.out)
        clear BK133
        clear BK134
        clear HB
        have BK133 := n0_
        have BK134 := n1_
        have HB := n2_
        clear n0_ n1_ n2_
        refine start_ (n := 16) (S := fun w' => w'.cell? ⟨gb133, 0, none⟩ = some (.bool false) ∧ w'.cell? ⟨gb133, 1, none⟩ = some (.string a0_1) ∧ w'.cell? ⟨gb133, 2, none⟩ = some (.int .i64 a0_2) ∧ w'.cell? ⟨gb134, 0, none⟩ = some (.bool false) ∧ w'.cell? ⟨gb134, 1, none⟩ = some (.string a1_1) ∧ w'.cell? ⟨gb134, 2, none⟩ = some (.int .i64 a1_2)) (ds := []) #[false, false, false, false, false, false, false, false, false, false, false, false, false, false, false, false] (by kernel_rfl) rfl rfl ⟨(blk_cell BK133.out 0).trans rfl, (blk_cell BK133.out 1).trans rfl, (blk_cell BK133.out 2).trans rfl, (blk_cell BK134.out 0).trans rfl, (blk_cell BK134.out 1).trans rfl, (blk_cell BK134.out 2).trans rfl⟩ (fun hHeld => ?_); refine with_tabW dec_Dec_Compare.tab1 dec_Dec_Compare.bits1 (fun HT_ HW_ => ?_)
        generalize w5.drew = w19 at BK133 BK134 HB hHeld ⊢
        refine pure_ (i := 0) (N := some 7) (v := ?_) (a' := ?_) #[true, false, false, false, false, false, false, false, false, false, false, false, false, false, false, false] rfl rfl (any_of HT_.out (by kernel_rfl)) (fun _ _ _ h => h) (Or.inl ⟨by rfl, ?_⟩) ?_ ?_
        rotate_left
        · intro w'
          go_simp
          with_reducible rfl
        rotate_left
        · simp only [Act.put, List.setIfInBounds_toArray, List.set_cons_zero, List.set_cons_succ, i64_w, i32_w]
          rfl
        refine pure_ (i := 7) (N := some 14) (v := ?_) (a' := ?_) #[true, false, false, false, false, false, false, true, false, false, false, false, false, false, false, false] rfl rfl (any_of HT_.out (by kernel_rfl)) (fun _ _ _ h => h) (Or.inl ⟨by rfl, ?_⟩) ?_ ?_
        rotate_left
        · intro w'
          go_simp
          with_reducible rfl
        rotate_left
        · simp only [Act.put, List.setIfInBounds_toArray, List.set_cons_zero, List.set_cons_succ, i64_w, i32_w]
          rfl
        refine take_ (i := 1) (N := some 8) (v := ?_) (a' := ?_) #[true, true, false, false, false, false, false, true, false, false, false, false, false, false, false, false] rfl rfl (take_ofW HT_.out HW_.out (by kernel_rfl)) (fun _ _ _ h => h) (Or.inl ⟨by rfl, ?_⟩) hHeld ?_ ?_
        rotate_left
        · rintro w' ⟨s0, s1, s2, s3, s4, s5⟩
          go_simp
          with_reducible rfl
        rotate_left
        · simp only [Act.put, List.setIfInBounds_toArray, List.set_cons_zero, List.set_cons_succ, i64_w, i32_w]
          rfl
        refine pure_ (i := 2) (N := some 9) (v := ?_) (a' := ?_) #[true, true, true, false, false, false, false, true, false, false, false, false, false, false, false, false] rfl rfl (any_of HT_.out (by kernel_rfl)) (fun _ _ _ h => h) (Or.inl ⟨by rfl, ?_⟩) ?_ ?_
        rotate_left
        · intro w'
          go_simp
          with_reducible rfl
        rotate_left
        · simp only [Act.put, List.setIfInBounds_toArray, List.set_cons_zero, List.set_cons_succ, i64_w, i32_w]
          rfl
        refine pure_ (i := 3) (N := some 10) (v := undef) (a' := ?_) #[true, true, true, true, false, false, false, true, false, false, false, false, false, false, false, false] rfl rfl (any_of HT_.out (by kernel_rfl)) (fun _ _ _ h => h) (Or.inr ⟨by rfl, rfl⟩) ?_ ?_
        rotate_left
        · simp only [Act.put, List.setIfInBounds_toArray, List.set_cons_zero, List.set_cons_succ, i64_w, i32_w]
          rfl
        refine pure_ (i := 4) (N := some 11) (v := undef) (a' := ?_) #[true, true, true, true, true, false, false, true, false, false, false, false, false, false, false, false] rfl rfl (any_of HT_.out (by kernel_rfl)) (fun _ _ _ h => h) (Or.inr ⟨by rfl, rfl⟩) ?_ ?_
        rotate_left
        · simp only [Act.put, List.setIfInBounds_toArray, List.set_cons_zero, List.set_cons_succ, i64_w, i32_w]
          rfl
        refine pure_ (i := 5) (N := some 12) (v := undef) (a' := ?_) #[true, true, true, true, true, true, false, true, false, false, false, false, false, false, false, false] rfl rfl (any_of HT_.out (by kernel_rfl)) (fun _ _ _ h => h) (Or.inr ⟨by rfl, rfl⟩) ?_ ?_
        rotate_left
        · simp only [Act.put, List.setIfInBounds_toArray, List.set_cons_zero, List.set_cons_succ, i64_w, i32_w]
          rfl
        refine pure_ (i := 6) (N := some 13) (v := ?_) (a' := ?_) #[true, true, true, true, true, true, true, true, false, false, false, false, false, false, false, false] rfl rfl (any_of HT_.out (by kernel_rfl)) (fun _ _ _ h => h) (Or.inl ⟨by rfl, ?_⟩) ?_ ?_
        rotate_left
        · intro w'
          go_simp
          with_reducible rfl
        rotate_left
        · simp only [Act.put, List.setIfInBounds_toArray, List.set_cons_zero, List.set_cons_succ, i64_w, i32_w]
          rfl
        refine take_ (i := 8) (N := some 15) (v := ?_) (a' := ?_) #[true, true, true, true, true, true, true, true, true, false, false, false, false, false, false, false] rfl rfl (take_ofW HT_.out HW_.out (by kernel_rfl)) (fun _ _ _ h => h) (Or.inl ⟨by rfl, ?_⟩) hHeld ?_ ?_
        rotate_left
        · rintro w' ⟨s0, s1, s2, s3, s4, s5⟩
          go_simp
          with_reducible rfl
        rotate_left
        · simp only [Act.put, List.setIfInBounds_toArray, List.set_cons_zero, List.set_cons_succ, i64_w, i32_w]
          rfl
        refine pure_ (i := 9) (N := some 16) (v := ?_) (a' := ?_) #[true, true, true, true, true, true, true, true, true, true, false, false, false, false, false, false] rfl rfl (any_of HT_.out (by kernel_rfl)) (fun _ _ _ h => h) (Or.inl ⟨by rfl, ?_⟩) ?_ ?_
        rotate_left
        · intro w'
          go_simp
          with_reducible rfl
        rotate_left
        · simp only [Act.put, List.setIfInBounds_toArray, List.set_cons_zero, List.set_cons_succ, i64_w, i32_w]
          rfl
        refine pure_ (i := 10) (N := some 17) (v := undef) (a' := ?_) #[true, true, true, true, true, true, true, true, true, true, true, false, false, false, false, false] rfl rfl (any_of HT_.out (by kernel_rfl)) (fun _ _ _ h => h) (Or.inr ⟨by rfl, rfl⟩) ?_ ?_
        rotate_left
        · simp only [Act.put, List.setIfInBounds_toArray, List.set_cons_zero, List.set_cons_succ, i64_w, i32_w]
          rfl
        refine pure_ (i := 11) (N := some 18) (v := undef) (a' := ?_) #[true, true, true, true, true, true, true, true, true, true, true, true, false, false, false, false] rfl rfl (any_of HT_.out (by kernel_rfl)) (fun _ _ _ h => h) (Or.inr ⟨by rfl, rfl⟩) ?_ ?_
        rotate_left
        · simp only [Act.put, List.setIfInBounds_toArray, List.set_cons_zero, List.set_cons_succ, i64_w, i32_w]
          rfl
        refine pure_ (i := 12) (N := some 19) (v := undef) (a' := ?_) #[true, true, true, true, true, true, true, true, true, true, true, true, true, false, false, false] rfl rfl (any_of HT_.out (by kernel_rfl)) (fun _ _ _ h => h) (Or.inr ⟨by rfl, rfl⟩) ?_ ?_
        rotate_left
        · simp only [Act.put, List.setIfInBounds_toArray, List.set_cons_zero, List.set_cons_succ, i64_w, i32_w]
          rfl
        refine pure_ (i := 13) (N := some 20) (v := ?_) (a' := ?_) #[true, true, true, true, true, true, true, true, true, true, true, true, true, true, false, false] rfl rfl (any_of HT_.out (by kernel_rfl)) (fun _ _ _ h => h) (Or.inl ⟨by rfl, ?_⟩) ?_ ?_
        rotate_left
        · intro w'
          go_simp
          with_reducible rfl
        rotate_left
        · simp only [Act.put, List.setIfInBounds_toArray, List.set_cons_zero, List.set_cons_succ, i64_w, i32_w]
          rfl
        refine pure_ (i := 14) (N := some 5) (v := ?_) (a' := ?_) #[true, true, true, true, true, true, true, true, true, true, true, true, true, true, true, false] rfl rfl (any_of HT_.out (by kernel_rfl)) (fun _ _ _ h => h) (Or.inl ⟨by rfl, ?_⟩) ?_ ?_
        rotate_left
        · intro w'
          go_simp
          with_reducible rfl
        rotate_left
        · simp only [Act.put, List.setIfInBounds_toArray, List.set_cons_zero, List.set_cons_succ, i64_w, i32_w]
          rfl
        refine pure_ (i := 15) (N := some 6) (v := ?_) (a' := ?_) #[true, true, true, true, true, true, true, true, true, true, true, true, true, true, true, true] rfl rfl (any_of HT_.out (by kernel_rfl)) (fun _ _ _ h => h) (Or.inl ⟨by rfl, ?_⟩) ?_ ?_
        rotate_left
        · intro w'
          go_simp
          with_reducible rfl
        rotate_left
        · simp only [Act.put, List.setIfInBounds_toArray, List.set_cons_zero, List.set_cons_succ, i64_w, i32_w]
          rfl
        refine done_ (done_of HT_.out (by kernel_rfl)) ?_
        try go_wp2
        go_meet
        case rel => exact ⟨_, (false), (false), (by first | rfl | (simp; done) | (simp [*]; done)), (by first | rfl | (simp; done) | (simp [*]; done)), H', ⟨by first | omega | exact Nat.le_refl _⟩, ⟨by (with_reducible repeat (first | refine blk_drewN ?_ _ | refine blk_drew ?_ | refine blk_alloc ?_ _)); exact BK133.out⟩, ⟨by (with_reducible repeat (first | refine blk_drewN ?_ _ | refine blk_drew ?_ | refine blk_alloc ?_ _)); exact BK134.out⟩, ⟨by repeat (first | (with_reducible first | exact HB.out | apply below_alloc | apply pw_below_drewN | apply below_drew1 | refine below_set ?_ GE133.out | refine below_set ?_ GE134.out) | exact HB.out)⟩⟩
  case rest =>
    clear HC3
    try clear c1
    try clear c2
    try clear p2
    try clear c6
    try clear c8
    try clear c15
    obtain ⟨kq, x5_2, x6_2, rfl, rfl, HA, HJ2, BK133, BK134, HB⟩ := hcut
    cases kq with
    | zero => exact absurd HA.out (by simp [dec_Dec_Compare.j0])
    | succ kj2 =>
      have H := HA.out
      clear HA
      simp only [dec_Dec_Compare.j0] at H
      have HC20 := Aside0.mk H
      clear H
      go_upto_region 2 with (fail)
      go_cut [21] (fun v21 wc => ∃ (kq : Nat) (x21_19 : Bool), v21 = .bool x21_19 ∧ Aside0 (dec_Dec_Compare.j1 kq x5_2 x6_2 x21_19 a0_0 a0_1 a0_2 a1_0 a1_1 a1_2 = some r) ∧ Aside0 (kq ≤ kj2) ∧ Aside0 (wc.heap[gb133]? = some (.cells #[.bool a0_0, .string a0_1, .int .i64 a0_2] 23 (0, 0))) ∧ Aside0 (wc.heap[gb134]? = some (.cells #[.bool a1_0, .string a1_1, .int .i64 a1_2] 23 (0, 0))) ∧ Aside0 (Below w.heap.size w wc))
      case first =>
        have H := HC20.out
        clear HC20
        by_cases c21 : x5_2 = true
        · subst c21
          have H1 : (dec_Dec_Compare.j1 kj2 true x6_2 (!x6_2) a0_0 a0_1 a0_2 a1_0 a1_1 a1_2) = some r := by rw [if_pos rfl] at H; exact H
          clear H
          have H := H1
          clear H1
          have H' := Aside0.mk H
          clear H
          go_wp2
          go_meet
          case rel => exact ⟨_, (!x6_2), (by first | rfl | (simp; done) | (simp [*]; done)), H', ⟨by have := HJ2.out; first | omega | exact Nat.le_refl _⟩, ⟨by (with_reducible repeat (first | refine blk_drewN ?_ _ | refine blk_drew ?_ | refine blk_alloc ?_ _)); exact BK133.out⟩, ⟨by (with_reducible repeat (first | refine blk_drewN ?_ _ | refine blk_drew ?_ | refine blk_alloc ?_ _)); exact BK134.out⟩, ⟨by repeat (first | (with_reducible first | exact HB.out | apply below_alloc | apply pw_below_drewN | apply below_drew1 | refine below_set ?_ GE133.out | refine below_set ?_ GE134.out) | exact HB.out)⟩⟩
        · replace c21 := Bool.eq_false_iff.mpr c21
          subst c21
          have H1 : (dec_Dec_Compare.j1 kj2 false x6_2 false a0_0 a0_1 a0_2 a1_0 a1_1 a1_2) = some r := by rw [if_neg (show ¬ (false = true) by decide)] at H; exact H
          clear H
          have H := H1
          clear H1
          have H' := Aside0.mk H
          clear H
          go_wp2
          go_meet
          case rel => exact ⟨_, (false), (by first | rfl | (simp; done) | (simp [*]; done)), H', ⟨by have := HJ2.out; first | omega | exact Nat.le_refl _⟩, ⟨by (with_reducible repeat (first | refine blk_drewN ?_ _ | refine blk_drew ?_ | refine blk_alloc ?_ _)); exact BK133.out⟩, ⟨by (with_reducible repeat (first | refine blk_drewN ?_ _ | refine blk_drew ?_ | refine blk_alloc ?_ _)); exact BK134.out⟩, ⟨by repeat (first | (with_reducible first | exact HB.out | apply below_alloc | apply pw_below_drewN | apply below_drew1 | refine below_set ?_ GE133.out | refine below_set ?_ GE134.out) | exact HB.out)⟩⟩
      case rest =>
        clear HC20
        try clear c1
        try clear c2
        try clear p2
        try clear c6
        try clear c8
        try clear c15
        try clear c21
        try clear p2
        obtain ⟨kq, x21_19, rfl, HA, HJ19, BK133, BK134, HB⟩ := hcut
        cases kq with
        | zero => exact absurd HA.out (by simp [dec_Dec_Compare.j1])
        | succ kj19 =>
          have H := HA.out
          clear HA
          simp only [dec_Dec_Compare.j1] at H
          by_cases c22 : x21_19 = true
          · subst c22
            have H1 : (some (-1)) = some r := by rw [if_pos rfl] at H; exact H
            clear H
            have H := H1
            clear H1
            obtain rfl := Option.some.inj H
            go_wp2
            go_ret
            exact ⟨by first | rfl | (simp [errW_none, errW_some] <;> rfl) | (simp [*, errW_none, errW_some] <;> rfl), by repeat (first | (with_reducible first | exact HB.out | apply below_alloc | apply pw_below_drewN | apply below_drew1 | refine below_set ?_ GE133.out | refine below_set ?_ GE134.out) | exact HB.out)⟩
          · replace c22 := Bool.eq_false_iff.mpr c22
            subst c22
            have H1 : (if x6_2 = true then (dec_Dec_Compare.j2 kj19 x5_2 (!x5_2) a0_0 a0_1 a0_2 a1_0 a1_1 a1_2) else (dec_Dec_Compare.j2 kj19 x5_2 false a0_0 a0_1 a0_2 a1_0 a1_1 a1_2)) = some r := by rw [if_neg (show ¬ (false = true) by decide)] at H; exact H
            clear H
            have H := H1
            clear H1
            have HC23 := Aside0.mk H
            clear H
            go_upto_region 4 with (fail)
            go_cut [27] (fun v27 wc => ∃ (kq : Nat) (x27_22 : Bool), v27 = .bool x27_22 ∧ Aside0 (dec_Dec_Compare.j2 kq x5_2 x27_22 a0_0 a0_1 a0_2 a1_0 a1_1 a1_2 = some r) ∧ Aside0 (kq ≤ kj19) ∧ Aside0 (wc.heap[gb133]? = some (.cells #[.bool a0_0, .string a0_1, .int .i64 a0_2] 23 (0, 0))) ∧ Aside0 (wc.heap[gb134]? = some (.cells #[.bool a1_0, .string a1_1, .int .i64 a1_2] 23 (0, 0))) ∧ Aside0 (Below w.heap.size w wc))
            case first =>
              have H := HC23.out
              clear HC23
              by_cases c24 : x6_2 = true
              · subst c24
                have H1 : (dec_Dec_Compare.j2 kj19 x5_2 (!x5_2) a0_0 a0_1 a0_2 a1_0 a1_1 a1_2) = some r := by rw [if_pos rfl] at H; exact H
                clear H
                have H := H1
                clear H1
                have H' := Aside0.mk H
                clear H
                go_wp2
                go_meet
                case rel => exact ⟨_, (!x5_2), (by first | rfl | (simp; done) | (simp [*]; done)), H', ⟨by have := HJ2.out; have := HJ19.out; first | omega | exact Nat.le_refl _⟩, ⟨by (with_reducible repeat (first | refine blk_drewN ?_ _ | refine blk_drew ?_ | refine blk_alloc ?_ _)); exact BK133.out⟩, ⟨by (with_reducible repeat (first | refine blk_drewN ?_ _ | refine blk_drew ?_ | refine blk_alloc ?_ _)); exact BK134.out⟩, ⟨by repeat (first | (with_reducible first | exact HB.out | apply below_alloc | apply pw_below_drewN | apply below_drew1 | refine below_set ?_ GE133.out | refine below_set ?_ GE134.out) | exact HB.out)⟩⟩
              · replace c24 := Bool.eq_false_iff.mpr c24
                subst c24
                have H1 : (dec_Dec_Compare.j2 kj19 x5_2 false a0_0 a0_1 a0_2 a1_0 a1_1 a1_2) = some r := by rw [if_neg (show ¬ (false = true) by decide)] at H; exact H
                clear H
                have H := H1
                clear H1
                have H' := Aside0.mk H
                clear H
                go_wp2
                go_meet
                case rel => exact ⟨_, (false), (by first | rfl | (simp; done) | (simp [*]; done)), H', ⟨by have := HJ2.out; have := HJ19.out; first | omega | exact Nat.le_refl _⟩, ⟨by (with_reducible repeat (first | refine blk_drewN ?_ _ | refine blk_drew ?_ | refine blk_alloc ?_ _)); exact BK133.out⟩, ⟨by (with_reducible repeat (first | refine blk_drewN ?_ _ | refine blk_drew ?_ | refine blk_alloc ?_ _)); exact BK134.out⟩, ⟨by repeat (first | (with_reducible first | exact HB.out | apply below_alloc | apply pw_below_drewN | apply below_drew1 | refine below_set ?_ GE133.out | refine below_set ?_ GE134.out) | exact HB.out)⟩⟩
            case rest =>
              clear HC23
              try clear c1
              try clear c2
              try clear p2
              try clear c6
              try clear c8
              try clear c15
              try clear c21
              try clear c22
              try clear c24
              try clear p2
              obtain ⟨kq, x27_22, rfl, HA, HJ22, BK133, BK134, HB⟩ := hcut
              cases kq with
              | zero => exact absurd HA.out (by simp [dec_Dec_Compare.j2])
              | succ kj22 =>
                have H := HA.out
                clear HA
                simp only [dec_Dec_Compare.j2] at H
                by_cases c25 : x27_22 = true
                · subst c25
                  have H1 : (some 1) = some r := by rw [if_pos rfl] at H; exact H
                  clear H
                  have H := H1
                  clear H1
                  obtain rfl := Option.some.inj H
                  go_wp2
                  go_ret
                  exact ⟨by first | rfl | (simp [errW_none, errW_some] <;> rfl) | (simp [*, errW_none, errW_some] <;> rfl), by repeat (first | (with_reducible first | exact HB.out | apply below_alloc | apply pw_below_drewN | apply below_drew1 | refine below_set ?_ GE133.out | refine below_set ?_ GE134.out) | exact HB.out)⟩
                · replace c25 := Bool.eq_false_iff.mpr c25
                  subst c25
                  have H1 : (if x5_2 = true then ((dec_Dec_size.f kj22 a0_0 a0_1 a0_2 a1_0 a1_1 a1_2).bind fun t138 => (some (wrap64 (-t138)))) else ((dec_Dec_size.f kj22 a0_0 a0_1 a0_2 a1_0 a1_1 a1_2).bind fun t139 => (some t139))) = some r := by rw [if_neg (show ¬ (false = true) by decide)] at H; exact H
                  clear H
                  have H := H1
                  clear H1
                  by_cases c26 : x5_2 = true
                  · subst c26
                    have H1 : ((dec_Dec_size.f kj22 a0_0 a0_1 a0_2 a1_0 a1_1 a1_2).bind fun t138 => (some (wrap64 (-t138)))) = some r := by rw [if_pos rfl] at H; exact H
                    clear H
                    have H := H1
                    clear H1
                    replace H := Option.bind_eq_some_iff.mp H
                    obtain ⟨t138, A270, H⟩ := H
                    replace H : (some (wrap64 (-t138))) = some r := H
                    have A27 := Aside0.mk A270
                    clear A270
                    obtain rfl := Option.some.inj H
                    have hnb28 := NB133_134.out
                    have hnc28 := NB134_133.out
                    have hcz29_0 : wc.cell? ⟨gb133, 0, none⟩ = some (.bool a0_0) := (blk_cell BK133.out 0).trans rfl
                    have hcz29_1 : wc.cell? ⟨gb133, 1, none⟩ = some (.string a0_1) := (blk_cell BK133.out 1).trans rfl
                    have hcz29_2 : wc.cell? ⟨gb133, 2, none⟩ = some (.int .i64 a0_2) := (blk_cell BK133.out 2).trans rfl
                    have hfz29_0 := blk_frozen BK133.out 0
                    have hfz29_1 := blk_frozen BK133.out 1
                    have hfz29_2 := blk_frozen BK133.out 2
                    have hcz30_0 : wc.cell? ⟨gb134, 0, none⟩ = some (.bool a1_0) := (blk_cell BK134.out 0).trans rfl
                    have hcz30_1 : wc.cell? ⟨gb134, 1, none⟩ = some (.string a1_1) := (blk_cell BK134.out 1).trans rfl
                    have hcz30_2 : wc.cell? ⟨gb134, 2, none⟩ = some (.int .i64 a1_2) := (blk_cell BK134.out 2).trans rfl
                    have hfz30_0 := blk_frozen BK134.out 0
                    have hfz30_1 := blk_frozen BK134.out 1
                    have hfz30_2 := blk_frozen BK134.out 2
                    go_wp2_with (first | ((with_reducible refine gate_callee (f := 29) rfl ?_); refine goesL_ (some 37) rfl rfl Tryz.func29 (by kernel_rfl) rfl #[.agg #[.bool a0_0, .string a0_1, .int .i64 a0_2], .agg #[.bool a1_0, .string a1_1, .int .i64 a1_2]] rfl (by (try simp only [List.map_toArray, List.map_cons, List.map_nil]); first | done | rfl | (simp only [List.length_drop, List.length_take]; rfl)) ?_; (with_reducible refine (dec_Dec_size.calls kj22 a0_0 a0_1 a0_2 a1_0 a1_1 a1_2 t138 _ A27.out).mono ?_); rintro e w31 ⟨rfl, hb⟩; refine ⟨_, rfl, ?_⟩; have n0_ := Aside0.mk (blk_below (g := gb133) (o := .cells #[.bool a0_0, .string a0_1, .int .i64 a0_2] 23 (0, 0)) (by (with_reducible repeat (first | refine blk_drewN ?_ _ | refine blk_drew ?_ | refine blk_alloc ?_ _)); exact BK133.out) hb); have n1_ := Aside0.mk (blk_below (g := gb134) (o := .cells #[.bool a1_0, .string a1_1, .int .i64 a1_2] 23 (0, 0)) (by (with_reducible repeat (first | refine blk_drewN ?_ _ | refine blk_drew ?_ | refine blk_alloc ?_ _)); exact BK134.out) hb); have n2_ := Aside0.mk (below_step (by repeat (first | (with_reducible first | exact HB.out | apply below_alloc | apply pw_below_drewN | apply below_drew1 | refine below_set ?_ GE133.out | refine below_set ?_ GE134.out) | exact HB.out)) hb); clear BK133; clear BK134; clear HB; have BK133 := n0_; have BK134 := n1_; have HB := n2_; clear n0_ n1_ n2_; (try clear hb); (try clear hb2); (try clear hk); (try clear hi)))
                    go_ret
                    exact ⟨by first | rfl | (simp [errW_none, errW_some] <;> rfl) | (simp [*, errW_none, errW_some] <;> rfl), by repeat (first | (with_reducible first | exact HB.out | apply below_alloc | apply pw_below_drewN | apply below_drew1 | refine below_set ?_ GE133.out | refine below_set ?_ GE134.out) | exact HB.out)⟩
                  · replace c26 := Bool.eq_false_iff.mpr c26
                    subst c26
                    have H1 : ((dec_Dec_size.f kj22 a0_0 a0_1 a0_2 a1_0 a1_1 a1_2).bind fun t139 => (some t139)) = some r := by rw [if_neg (show ¬ (false = true) by decide)] at H; exact H
                    clear H
                    have H := H1
                    clear H1
                    replace H := Option.bind_eq_some_iff.mp H
                    obtain ⟨t139, A320, H⟩ := H
                    replace H : (some t139) = some r := H
                    have A32 := Aside0.mk A320
                    clear A320
                    obtain rfl := Option.some.inj H
                    have hnb33 := NB133_134.out
                    have hnc33 := NB134_133.out
                    have hcz34_0 : wc.cell? ⟨gb133, 0, none⟩ = some (.bool a0_0) := (blk_cell BK133.out 0).trans rfl
                    have hcz34_1 : wc.cell? ⟨gb133, 1, none⟩ = some (.string a0_1) := (blk_cell BK133.out 1).trans rfl
                    have hcz34_2 : wc.cell? ⟨gb133, 2, none⟩ = some (.int .i64 a0_2) := (blk_cell BK133.out 2).trans rfl
                    have hfz34_0 := blk_frozen BK133.out 0
                    have hfz34_1 := blk_frozen BK133.out 1
                    have hfz34_2 := blk_frozen BK133.out 2
                    have hcz35_0 : wc.cell? ⟨gb134, 0, none⟩ = some (.bool a1_0) := (blk_cell BK134.out 0).trans rfl
                    have hcz35_1 : wc.cell? ⟨gb134, 1, none⟩ = some (.string a1_1) := (blk_cell BK134.out 1).trans rfl
                    have hcz35_2 : wc.cell? ⟨gb134, 2, none⟩ = some (.int .i64 a1_2) := (blk_cell BK134.out 2).trans rfl
                    have hfz35_0 := blk_frozen BK134.out 0
                    have hfz35_1 := blk_frozen BK134.out 1
                    have hfz35_2 := blk_frozen BK134.out 2
                    go_wp2_with (first | ((with_reducible refine gate_callee (f := 29) rfl ?_); refine goesL_ (some 41) rfl rfl Tryz.func29 (by kernel_rfl) rfl #[.agg #[.bool a0_0, .string a0_1, .int .i64 a0_2], .agg #[.bool a1_0, .string a1_1, .int .i64 a1_2]] rfl (by (try simp only [List.map_toArray, List.map_cons, List.map_nil]); first | done | rfl | (simp only [List.length_drop, List.length_take]; rfl)) ?_; (with_reducible refine (dec_Dec_size.calls kj22 a0_0 a0_1 a0_2 a1_0 a1_1 a1_2 t139 _ A32.out).mono ?_); rintro e w36 ⟨rfl, hb⟩; refine ⟨_, rfl, ?_⟩; have n0_ := Aside0.mk (blk_below (g := gb133) (o := .cells #[.bool a0_0, .string a0_1, .int .i64 a0_2] 23 (0, 0)) (by (with_reducible repeat (first | refine blk_drewN ?_ _ | refine blk_drew ?_ | refine blk_alloc ?_ _)); exact BK133.out) hb); have n1_ := Aside0.mk (blk_below (g := gb134) (o := .cells #[.bool a1_0, .string a1_1, .int .i64 a1_2] 23 (0, 0)) (by (with_reducible repeat (first | refine blk_drewN ?_ _ | refine blk_drew ?_ | refine blk_alloc ?_ _)); exact BK134.out) hb); have n2_ := Aside0.mk (below_step (by repeat (first | (with_reducible first | exact HB.out | apply below_alloc | apply pw_below_drewN | apply below_drew1 | refine below_set ?_ GE133.out | refine below_set ?_ GE134.out) | exact HB.out)) hb); clear BK133; clear BK134; clear HB; have BK133 := n0_; have BK134 := n1_; have HB := n2_; clear n0_ n1_ n2_; (try clear hb); (try clear hb2); (try clear hk); (try clear hi)))
                    go_ret
                    exact ⟨by first | rfl | (simp [errW_none, errW_some] <;> rfl) | (simp [*, errW_none, errW_some] <;> rfl), by repeat (first | (with_reducible first | exact HB.out | apply below_alloc | apply pw_below_drewN | apply below_drew1 | refine below_set ?_ GE133.out | refine below_set ?_ GE134.out) | exact HB.out)⟩
end Go.Proofs.YtgjboghnnhcgiaaGreatDoor.R
namespace Go.Proofs.YtgjboghnnhcgiaaGreatDoor
open Go.RowKit Go.Proofs.YtgjboghnnhcgiaaGreatDoor.M
set_option linter.unusedVariables false
set_option linter.unusedSimpArgs false
theorem Own.grown {w W W1 : World} {L : List (Nat × Obj)} {b : Nat} (h : Own w L W) (hg : W.grownBy W1 (some b)) (hb : ∀ p ∈ L, p.1 ≠ b) (hw : w.heap.size ≤ b) : Own w L W1 :=
  ⟨fun p hp => (hg.block _ (Array.getElem?_eq_some_iff.1 (h.all p hp)).1 (fun e => hb p hp (Option.some.inj e))).trans (h.all p hp), h.nd, h.own, below_grown h.bel hg hw (Nat.le_refl _)⟩
theorem ret_bool {x y : Bool} (h : x = y) : (Ending.returned (.bool x)) = .returned (.bool y) := by rw [h]
theorem mks14_new (w : World) : Mks w.heap.size 0 (w.alloc (.cells (mkc 0 0 0 none none) 62)) := .inl ⟨⟨heap_alloc_new w _⟩, rfl⟩
set_option maxRecDepth 100000 in
set_option maxHeartbeats 4000000 in
theorem vstr_num (b : Nat) (cnt : Int) (h0 : 0 ≤ cnt) (h9 : cnt ≤ 1000) (lang tx : ByteArray) (mi mf xf se st : Int) (pl rk n : Bool) (D : ByteArray) (k : Int) (E : ByteArray) (K : Nat) (hK : K < E.size) (hE : E.size ≤ 900)
    (cS : ∀ W, Calls Tryz.prog 32 #[optV mi mf xf pl rk, decV n D k] W fun e w' => e = .returned (decV n E K) ∧ Below W.heap.size W w')
    (w : World) (hm : Mks b cnt w) (hb : b < w.heap.size) :
    Calls Tryz.prog 22 #[.agg (valC 1 tx n D k mi mf xf pl rk se st), .pointer (some ⟨b, 0, none⟩), .string lang] w fun e w' => e = .returned (.string (fmC lang pl n E K)) ∧ Mks b (cnt + 1) w' ∧ w.grownBy w' (some b) := by
  have hO := Own.one w (.cells (valC 1 tx n D k mi mf xf pl rk se st) 31)
  have cF := fun W hm hb => format_any b cnt h0 h9 lang mi mf xf pl rk n D k E K hK hE cS W hm hb
  have hm1 := hm.step ((Below.refl _ w).alloc (Nat.le_refl _) (.cells (valC 1 tx n D k mi mf xf pl rk se st) 31))
  generalize fmC lang pl n E K = F at *
  unfold valC decV optV at *
  go_enter Tryz.func22, Tryz.ntmps22
  go_upto_region 1 with (fail)
  generalize w.alloc _ = W0 at *
  have p0 := hO.c 0 0 rfl rfl
  have p2 := hO.c 0 2 rfl rfl
  have p3 := hO.c 0 3 rfl rfl
  have p4 := hO.c 0 4 rfl rfl
  have p5 := hO.c 0 5 rfl rfl
  have p6 := hO.c 0 6 rfl rfl
  have p7 := hO.c 0 7 rfl rfl
  have p8 := hO.c 0 8 rfl rfl
  have p9 := hO.c 0 9 rfl rfl
  have bel := hO.bel
  have hb0 : b < W0.heap.size := Nat.lt_of_lt_of_le hb bel.size
  go_wp2_with (go_at_call 18; refine (cF _ hm1 hb0).mono ?_; rintro e W1 ⟨rfl, m1, g1⟩)
  go_ret
  exact ⟨rfl, m1, (M.grown_below bel (Nat.le_refl _)).trans g1⟩
theorem shape_10 (W : World) : Calls Tryz.prog 32 #[optV 1 1 3 false false, decV false ⟨#[49, 48]⟩ 1] W fun e w' => e = .returned (decV false ⟨#[49, 48]⟩ (1 : Nat)) ∧ Below W.heap.size W w' := by
  have cR := fun W => G.round_same false ⟨#[49, 48]⟩ 1 3 3 W (by decide) (by decide)
  have h := shape_any 1 1 3 false false false ⟨#[49, 48]⟩ 1 ⟨#[49, 48]⟩ 1 cR (by decide) (by decide) (by decide) (by decide) W
  have e1 : shD 1 1 ⟨#[49, 48]⟩ 1 = ⟨#[49, 48]⟩ := by kernel_rfl
  have e2 : shK 1 ⟨#[49, 48]⟩ 1 = 1 := by kernel_rfl
  rw [e1, e2] at h
  exact h
set_option maxRecDepth 100000 in
set_option maxHeartbeats 4000000 in
theorem head14_any (w : World) (hT : G.Tab_ w) (hA : Asc w) : Calls Tryz.prog 6 #[] w fun e w' => e = .returned (.bool true) ∧ Below w.heap.size w w' := by
  have tP := fun W (h : Below w.heap.size w W) => hT.step h
  have cP1 := fun W h => R.dec_Parse.calls ⟨#[49, 46, 48]⟩ false ⟨#[49, 48]⟩ 1 true W (by kernel_rfl) (tP W h)
  have cW := written_num ⟨#[49, 46, 48]⟩ false ⟨#[49, 48]⟩ 1 1 3 w (by decide) (by decide) cP1
  have cS := vstr_num
  have isO : ∀ W, Below w.heap.size w W → Calls Tryz.prog 12 #[.agg (valC 1 ⟨#[]⟩ false ⟨#[49, 48]⟩ 1 1 1 3 false false 0 0), .string ⟨#[111, 116, 104, 101, 114]⟩, .string ⟨#[101, 110]⟩] W fun e w' => e = .returned (.bool true) ∧ Below W.heap.size W w' := fun W hW =>
    (is_word ⟨#[]⟩ false ⟨#[49, 48]⟩ 1 1 1 3 false false 0 0 ⟨#[111, 116, 104, 101, 114]⟩ ⟨#[101, 110]⟩ false ⟨#[]⟩ 0 0 1 ⟨#[49, 48]⟩ W
      (fun W2 h2 => R.dec_Parse.calls ⟨#[111, 116, 104, 101, 114]⟩ false ⟨#[]⟩ 0 false W2 (by kernel_rfl) (tP W2 (below_on hW h2 hW.size)))
      shape_10 (fun _ W2 h2 => Of_any ⟨#[101, 110]⟩ false ⟨#[49, 48]⟩ 1 ⟨by decide, by decide, by decide⟩ W2 (ascTab hA (below_on hW h2 hW.size))) (fun h => by cases h)).mono fun e w' ⟨he, hb⟩ => ⟨he.trans (ret_bool (by kernel_rfl)), hb⟩
  have isN : ∀ W, Below w.heap.size w W → Calls Tryz.prog 12 #[.agg (valC 1 ⟨#[]⟩ false ⟨#[49, 48]⟩ 1 1 1 3 false false 0 0), .string ⟨#[111, 110, 101]⟩, .string ⟨#[101, 110]⟩] W fun e w' => e = .returned (.bool false) ∧ Below W.heap.size W w' := fun W hW =>
    (is_word ⟨#[]⟩ false ⟨#[49, 48]⟩ 1 1 1 3 false false 0 0 ⟨#[111, 110, 101]⟩ ⟨#[101, 110]⟩ false ⟨#[]⟩ 0 0 1 ⟨#[49, 48]⟩ W
      (fun W2 h2 => R.dec_Parse.calls ⟨#[111, 110, 101]⟩ false ⟨#[]⟩ 0 false W2 (by kernel_rfl) (tP W2 (below_on hW h2 hW.size)))
      shape_10 (fun _ W2 h2 => Of_any ⟨#[101, 110]⟩ false ⟨#[49, 48]⟩ 1 ⟨by decide, by decide, by decide⟩ W2 (ascTab hA (below_on hW h2 hW.size))) (fun h => by cases h)).mono fun e w' ⟨he, hb⟩ => ⟨he.trans (ret_bool (by kernel_rfl)), hb⟩
  have is1 : ∀ W, Below w.heap.size w W → Calls Tryz.prog 12 #[.agg (valC 1 ⟨#[]⟩ false ⟨#[49, 48]⟩ 1 1 1 3 false false 0 0), .string ⟨#[49]⟩, .string ⟨#[101, 110]⟩] W fun e w' => e = .returned (.bool true) ∧ Below W.heap.size W w' := fun W hW =>
    (is_num ⟨#[]⟩ false ⟨#[49, 48]⟩ 1 1 1 3 false false 0 0 ⟨#[49]⟩ ⟨#[101, 110]⟩ false ⟨#[49]⟩ 0 0 W
      (fun W2 h2 => R.dec_Parse.calls ⟨#[49]⟩ false ⟨#[49]⟩ 0 true W2 (by kernel_rfl) (tP W2 (below_on hW h2 hW.size)))
      (fun W2 => R.dec_Dec_Compare.calls 10 false ⟨#[49]⟩ 0 false ⟨#[49, 48]⟩ 1 0 W2 (by kernel_rfl))).mono fun e w' ⟨he, hb⟩ => ⟨he.trans (ret_bool (by kernel_rfl)), hb⟩
  have hF : fmC ⟨#[101, 110]⟩ false false ⟨#[49, 48]⟩ 1 = ⟨#[49, 46, 48]⟩ := by kernel_rfl
  have cV := fun b W hm hb => vstr_num b 0 (by decide) (by decide) ⟨#[101, 110]⟩ ⟨#[]⟩ 1 1 3 0 0 false false false ⟨#[49, 48]⟩ 1 ⟨#[49, 48]⟩ 1 (by decide) (by decide) shape_10 W hm hb
  rw [hF] at cV
  clear hF cP1 tP cS
  unfold valC at *
  go_enter Tryz.func6, Tryz.ntmps6
  go_upto_region 2 with (go_at_call 9; refine cW.mono ?_; rintro e W1 ⟨rfl, b1⟩; have h1 := (Own.nil w).step b1)
  have h2 := h1.alloc (.cells #[.int .i64 1, .string ⟨#[]⟩, .bool false, .string ⟨#[49, 48]⟩, .int .i64 1, .int .i64 1, .int .i64 1, .int .i64 3, .bool false, .bool false, .int .i64 0, .int .i64 0] 31)
  clear h1 b1 cW
  generalize W1.alloc _ = W2 at *
  generalize W1.heap.size = g at *
  have p0 := h2.c 0 0 rfl rfl
  have p1 := h2.c 0 1 rfl rfl
  have p2 := h2.c 0 2 rfl rfl
  have p3 := h2.c 0 3 rfl rfl
  have p4 := h2.c 0 4 rfl rfl
  have p5 := h2.c 0 5 rfl rfl
  have p6 := h2.c 0 6 rfl rfl
  have p7 := h2.c 0 7 rfl rfl
  have p8 := h2.c 0 8 rfl rfl
  have p9 := h2.c 0 9 rfl rfl
  have p10 := h2.c 0 10 rfl rfl
  have p11 := h2.c 0 11 rfl rfl
  have hg : g < W2.heap.size := h2.lt 0 rfl
  unfold mkc at *
  have mn := mks14_new W2
  unfold mkc at mn
  have hz : (W2.alloc (.cells #[.int .u32 0, .int .i32 0, .int .u32 0, .int .i64 0, .map none, .map none] 62)).heap.size = W2.heap.size + 1 := by simp
  have cV2 := cV W2.heap.size _ mn (by rw [hz]; omega)
  have h2a := h2.step ((Below.refl _ W2).alloc (Nat.le_refl _) (.cells #[.int .u32 0, .int .i32 0, .int .u32 0, .int .i64 0, .map none, .map none] 62))
  have hgr := fun W3 (g3 : World.grownBy _ W3 (some W2.heap.size)) => h2a.grown g3 (by intro p hp; rcases List.mem_singleton.1 hp with rfl; show g ≠ _; omega) h2.bel.size
  clear cV mn hz h2a
  go_wp2_with (first | (go_at_call 22; refine cV2.mono ?_; rintro e W3 ⟨rfl, m3, g3⟩; have h3 := hgr _ g3; clear p0 p1 p2 p3 p4 p5 p6 p7 p8 p9 p10 p11; have p0 := h3.c 0 0 rfl rfl; have p1 := h3.c 0 1 rfl rfl; have p2 := h3.c 0 2 rfl rfl; have p3 := h3.c 0 3 rfl rfl; have p4 := h3.c 0 4 rfl rfl; have p5 := h3.c 0 5 rfl rfl; have p6 := h3.c 0 6 rfl rfl; have p7 := h3.c 0 7 rfl rfl; have p8 := h3.c 0 8 rfl rfl; have p9 := h3.c 0 9 rfl rfl; have p10 := h3.c 0 10 rfl rfl; have p11 := h3.c 0 11 rfl rfl) | (go_at_call 12; (with_reducible refine (isO _ h3.bel).mono ?_); rintro e W4 ⟨rfl, b4⟩; have h4 := h3.step b4; clear p0 p1 p2 p3 p4 p5 p6 p7 p8 p9 p10 p11; have p0 := h4.c 0 0 rfl rfl; have p1 := h4.c 0 1 rfl rfl; have p2 := h4.c 0 2 rfl rfl; have p3 := h4.c 0 3 rfl rfl; have p4 := h4.c 0 4 rfl rfl; have p5 := h4.c 0 5 rfl rfl; have p6 := h4.c 0 6 rfl rfl; have p7 := h4.c 0 7 rfl rfl; have p8 := h4.c 0 8 rfl rfl; have p9 := h4.c 0 9 rfl rfl; have p10 := h4.c 0 10 rfl rfl; have p11 := h4.c 0 11 rfl rfl) | (go_at_call 12; (with_reducible refine (is1 _ h4.bel).mono ?_); rintro e W5 ⟨rfl, b5⟩; have h5 := h4.step b5; clear p0 p1 p2 p3 p4 p5 p6 p7 p8 p9 p10 p11; have p0 := h5.c 0 0 rfl rfl; have p1 := h5.c 0 1 rfl rfl; have p2 := h5.c 0 2 rfl rfl; have p3 := h5.c 0 3 rfl rfl; have p4 := h5.c 0 4 rfl rfl; have p5 := h5.c 0 5 rfl rfl; have p6 := h5.c 0 6 rfl rfl; have p7 := h5.c 0 7 rfl rfl; have p8 := h5.c 0 8 rfl rfl; have p9 := h5.c 0 9 rfl rfl; have p10 := h5.c 0 10 rfl rfl; have p11 := h5.c 0 11 rfl rfl) | (go_at_call 12; (with_reducible refine (isN _ h5.bel).mono ?_); rintro e W6 ⟨rfl, b6⟩; have h6 := h5.step b6))
  go_ret
  exact ⟨rfl, h6.bel⟩
end Go.Proofs.YtgjboghnnhcgiaaGreatDoor
namespace Go.Proofs.YtgjboghnnhcgiaaGreatDoor
open Go.RowKit Go.Proofs.YtgjboghnnhcgiaaGreatDoorW.PrintWords Go.Proofs.YtgjboghnnhcgiaaGreatDoorW.PrintLast
set_option linter.unusedVariables false
set_option linter.unusedSimpArgs false
set_option maxRecDepth 100000 in
set_option maxHeartbeats 4000000 in
theorem vs_not (n1 : Bool) (A : ByteArray) (k1 : Int) (n2 : Bool) (B : ByteArray) (k2 : Int) (lang : ByteArray) (ra rb : Bool) (hr : ra = false ∨ rb = false ∨ 30 < A.size ∨ 30 < B.size)
    (c1 : ∀ W, Calls Tryz.prog 7 #[decV n1 A k1] W fun e w' => e = .returned (.bool ra) ∧ Below W.heap.size W w')
    (c2 : ∀ W, Calls Tryz.prog 7 #[decV n2 B k2] W fun e w' => e = .returned (.bool rb) ∧ Below W.heap.size W w') (w : World) (hT : G.Tab_ w) (hA : Asc w) :
    Calls Tryz.prog 3 #[decV n1 A k1, decV n2 B k2, .string lang] w fun e w' => e = .returned (.bool true) ∧ Below w.heap.size w w' := by
  have h0 := Own.two w (.cells #[.bool n1, .string A, .int .i64 k1] 23) (.cells #[.bool n2, .string B, .int .i64 k2] 23)
  have cH := head14_any _ (hT.step h0.bel) (ascTab hA h0.bel)
  unfold decV at *
  rcases ra with _ | _
  · go_enter Tryz.func3, Tryz.ntmps3
    go_upto_region 1 with (fail)
    generalize World.alloc (World.alloc w _) _ = W0 at *
    go_wp2_with (first
      | (go_at_call 6; refine cH.mono ?_; rintro e W1 ⟨rfl, b1⟩; have h1 := h0.step b1; have p0 := h1.c 1 0 rfl rfl; have p1 := h1.c 1 1 rfl rfl; have p2 := h1.c 1 2 rfl rfl)
      | (go_at_call 7; (with_reducible refine (c1 _).mono ?_); rintro e W2 ⟨rfl, b2⟩; have h2 := h1.step b2))
    go_ret
    exact ⟨rfl, h2.bel⟩
  rcases rb with _ | _
  · go_enter Tryz.func3, Tryz.ntmps3
    go_upto_region 1 with (fail)
    generalize World.alloc (World.alloc w _) _ = W0 at *
    go_wp2_with (first
      | (go_at_call 6; refine cH.mono ?_; rintro e W1 ⟨rfl, b1⟩; have h1 := h0.step b1; have p0 := h1.c 1 0 rfl rfl; have p1 := h1.c 1 1 rfl rfl; have p2 := h1.c 1 2 rfl rfl)
      | (go_at_call 7; (with_reducible refine (c1 _).mono ?_); rintro e W2 ⟨rfl, b2⟩; have h2 := h1.step b2; have q0 := h2.c 0 0 rfl rfl; have q1 := h2.c 0 1 rfl rfl; have q2 := h2.c 0 2 rfl rfl)
      | (go_at_call 7; (with_reducible refine (c2 _).mono ?_); rintro e W3 ⟨rfl, b3⟩; have h3 := h2.step b3))
    go_ret
    exact ⟨rfl, h3.bel⟩
  by_cases hz : 30 < A.size
  · have g1 : decide ((A.size : Int) > 30) = true := decide_eq_true (by omega)
    have g2 : decide ((30 : Int) < (A.size : Int)) = true := decide_eq_true (by omega)
    go_enter Tryz.func3, Tryz.ntmps3
    go_upto_region 1 with (fail)
    generalize World.alloc (World.alloc w _) _ = W0 at *
    go_wp2_with (first
      | (go_at_call 6; refine cH.mono ?_; rintro e W1 ⟨rfl, b1⟩; have h1 := h0.step b1; have p0 := h1.c 1 0 rfl rfl; have p1 := h1.c 1 1 rfl rfl; have p2 := h1.c 1 2 rfl rfl)
      | (go_at_call 7; (with_reducible refine (c1 _).mono ?_); rintro e W2 ⟨rfl, b2⟩; have h2 := h1.step b2; have q0 := h2.c 0 0 rfl rfl; have q1 := h2.c 0 1 rfl rfl; have q2 := h2.c 0 2 rfl rfl)
      | (go_at_call 7; (with_reducible refine (c2 _).mono ?_); rintro e W3 ⟨rfl, b3⟩; have h3 := h2.step b3; have p11 := h3.c 1 1 rfl rfl))
    go_ret
    exact ⟨rfl, h3.bel⟩
  · have hy : 30 < B.size := by rcases hr with h | h | h | h; cases h; cases h; exact absurd h hz; exact h
    have g1 : decide ((A.size : Int) > 30) = false := decide_eq_false (by omega)
    have g2 : decide ((30 : Int) < (A.size : Int)) = false := decide_eq_false (by omega)
    have g3 : decide ((B.size : Int) > 30) = true := decide_eq_true (by omega)
    have g4 : decide ((30 : Int) < (B.size : Int)) = true := decide_eq_true (by omega)
    go_enter Tryz.func3, Tryz.ntmps3
    go_upto_region 1 with (fail)
    generalize World.alloc (World.alloc w _) _ = W0 at *
    go_wp2_with (first
      | (go_at_call 6; refine cH.mono ?_; rintro e W1 ⟨rfl, b1⟩; have h1 := h0.step b1; have p0 := h1.c 1 0 rfl rfl; have p1 := h1.c 1 1 rfl rfl; have p2 := h1.c 1 2 rfl rfl)
      | (go_at_call 7; (with_reducible refine (c1 _).mono ?_); rintro e W2 ⟨rfl, b2⟩; have h2 := h1.step b2; have q0 := h2.c 0 0 rfl rfl; have q1 := h2.c 0 1 rfl rfl; have q2 := h2.c 0 2 rfl rfl)
      | (go_at_call 7; (with_reducible refine (c2 _).mono ?_); rintro e W3 ⟨rfl, b3⟩; have h3 := h2.step b3; have p11 := h3.c 1 1 rfl rfl; have q11 := h3.c 0 1 rfl rfl))
    go_ret
    exact ⟨rfl, h3.bel⟩
set_option maxRecDepth 100000 in
set_option maxHeartbeats 4000000 in
theorem vs_yes (n1 : Bool) (A A2 : ByteArray) (k1 : Int) (n2 : Bool) (B : ByteArray) (k2 : Int) (lang : ByteArray) (mf xf c : Int) (SA SB SP PA : ByteArray) (hA : A.size ≤ 30) (hB : B.size ≤ 30) (hk : 0 ≤ k1 ∧ k1 ≤ 100)
    (c1 : ∀ W, Calls Tryz.prog 7 #[decV n1 A k1] W fun e w' => e = .returned (.bool true) ∧ Below W.heap.size W w')
    (c2 : ∀ W, Calls Tryz.prog 7 #[decV n2 B k2] W fun e w' => e = .returned (.bool true) ∧ Below W.heap.size W w')
    (cC : ∀ W, Calls Tryz.prog 11 #[decV n1 A k1, decV n2 B k2] W fun e w' => e = .returned (.int .i64 c) ∧ Below W.heap.size W w')
    (cSa : ∀ W, Calls Tryz.prog 10 #[decV n1 A k1] W fun e w' => e = .returned (.string SA) ∧ Below W.heap.size W w')
    (cSb : ∀ W, Calls Tryz.prog 10 #[decV n2 B k2] W fun e w' => e = .returned (.string SB) ∧ Below W.heap.size W w')
    (cSp : ∀ W, Calls Tryz.prog 10 #[decV n1 PA (k1 + 3)] W fun e w' => e = .returned (.string SP) ∧ Below W.heap.size W w')
    (cPad : ∀ W, Calls Tryz.prog 13 #[decV n1 A k1, .int .i64 (k1 + 3)] W fun e w' => e = .returned (decV n1 PA (k1 + 3)) ∧ Below W.heap.size W w')
    (w : World) (hT : G.Tab_ w) (hAs : Asc w)
    (cW : ∀ W, Below w.heap.size w W → Calls Tryz.prog 9 #[.string SA] W fun e w' => e = .returned (.agg (valC 1 ⟨#[]⟩ n1 A2 k1 1 mf xf false false 0 0)) ∧ Below W.heap.size W w')
    (cI1 : ∀ W, Below w.heap.size w W → Calls Tryz.prog 12 #[.agg (valC 1 ⟨#[]⟩ n1 A k1 1 0 3 false false 0 0), .string SB, .string lang] W fun e w' => e = .returned (.bool (c == 0)) ∧ Below W.heap.size W w')
    (cI2 : ∀ W, Below w.heap.size w W → Calls Tryz.prog 12 #[.agg (valC 1 ⟨#[]⟩ n1 A2 k1 1 mf xf false false 0 0), .string SB, .string lang] W fun e w' => e = .returned (.bool (c == 0)) ∧ Below W.heap.size W w')
    (cI3 : ∀ W, Below w.heap.size w W → Calls Tryz.prog 12 #[.agg (valC 1 ⟨#[]⟩ n1 A k1 1 0 3 false false 0 0), .string SP, .string lang] W fun e w' => e = .returned (.bool true) ∧ Below W.heap.size W w') :
    Calls Tryz.prog 3 #[decV n1 A k1, decV n2 B k2, .string lang] w fun e w' => e = .returned (.bool true) ∧ Below w.heap.size w w' := by
  have h0 := Own.two w (.cells #[.bool n1, .string A, .int .i64 k1] 23) (.cells #[.bool n2, .string B, .int .i64 k2] 23)
  have cH := head14_any _ (hT.step h0.bel) (ascTab hAs h0.bel)
  have cN := num14_any n1 A k1
  have cI4 : ∀ W, Below w.heap.size w W → Calls Tryz.prog 12 #[.agg (valC 0 SA false ⟨#[]⟩ 0 0 0 0 false false 0 0), .string SA, .string lang] W fun e w' => e = .returned (.bool true) ∧ Below W.heap.size W w' := fun W _ => (is_text SA false ⟨#[]⟩ 0 0 0 0 false false 0 0 SA lang W).mono fun e w' ⟨he, hb⟩ => ⟨he.trans (ret_bool (by simp)), hb⟩
  have cI5 : ∀ W, Below w.heap.size w W → Calls Tryz.prog 12 #[.agg (valC 2 ⟨#[]⟩ false ⟨#[]⟩ 0 0 0 0 false false 1 0), .string ⟨#[49]⟩, .string lang] W fun e w' => e = .returned (.bool false) ∧ Below W.heap.size W w' := fun W _ => is_none ⟨#[]⟩ false ⟨#[]⟩ 0 0 0 0 false false 1 0 ⟨#[49]⟩ lang 2 (by decide) (by decide) W
  have g1 : decide ((A.size : Int) > 30) = false := decide_eq_false (by omega)
  have g2 : decide ((30 : Int) < (A.size : Int)) = false := decide_eq_false (by omega)
  have g3 : decide ((B.size : Int) > 30) = false := decide_eq_false (by omega)
  have g4 : decide ((30 : Int) < (B.size : Int)) = false := decide_eq_false (by omega)
  have g5 : decide ((A.size : Int) ≤ 30) = true := decide_eq_true (by omega)
  have g6 : decide ((B.size : Int) ≤ 30) = true := decide_eq_true (by omega)
  have hE := fun gv gw => same_end w gv gw n1 A A2 k1 n2 B k2 mf xf SA SB SP PA lang (c == 0) (by omega)
  unfold decV valC at *
  have hE := fun gv gw => hE gv gw cSa cSb cSp cPad cI1 cI2 cI3 cI4 cI5 (str14_any SA) (at14_any 1)
  clear cSb cSp cPad cI1 cI2 cI3 cI4 cI5
  go_enter Tryz.func3, Tryz.ntmps3
  go_upto_region 1 with (fail)
  generalize World.alloc (World.alloc w _) _ = W0 at *
  go_upto_region 5 with (first
      | (go_at_call 6; refine cH.mono ?_; rintro e W1 ⟨rfl, b1⟩; have h1 := h0.step b1; have p0 := h1.c 1 0 rfl rfl; have p1 := h1.c 1 1 rfl rfl; have p2 := h1.c 1 2 rfl rfl)
      | (go_at_call 7; (with_reducible refine (c1 _).mono ?_); rintro e W2 ⟨rfl, b2⟩; have h2 := h1.step b2; have q0 := h2.c 0 0 rfl rfl; have q1 := h2.c 0 1 rfl rfl; have q2 := h2.c 0 2 rfl rfl)
      | (go_at_call 7; (with_reducible refine (c2 _).mono ?_); rintro e W3 ⟨rfl, b3⟩; have h3 := h2.step b3; have p11 := h3.c 1 1 rfl rfl; have q11 := h3.c 0 1 rfl rfl))
  clear q0 q1 q2 p11 q11 c1 c2 cH h0 h1 h2 b1 b2 b3
  have r0 := h3.c 1 0 rfl rfl
  have r1 := h3.c 1 1 rfl rfl
  have r2 := h3.c 1 2 rfl rfl
  go_upto_region 6 with (go_at_call 8; refine (cN _).mono ?_; rintro e W4 ⟨rfl, b4⟩; have h4 := h3.step b4)
  have h5 := h4.alloc (.cells #[.int .i64 (1), .string ⟨#[]⟩, .bool n1, .string A, .int .i64 k1, .int .i64 (1), .int .i64 (0), .int .i64 (3), .bool false, .bool false, .int .i64 (0), .int .i64 (0)] 31)
  clear h3 h4 b4 cN r0 r1 r2 p0 p1 p2
  generalize W4.alloc _ = W5 at *
  generalize W4.heap.size = gv at *
  have r0 := h5.c 2 0 rfl rfl
  have r1 := h5.c 2 1 rfl rfl
  have r2 := h5.c 2 2 rfl rfl
  go_upto_region 7 with (first
      | (go_at_call 10; refine (cSa _).mono ?_; rintro e W6 ⟨rfl, b6⟩; have h6 := h5.step b6)
      | (go_at_call 9; refine (cW _ h6.bel).mono ?_; rintro e W7 ⟨rfl, b7⟩; have h7 := h6.step b7))
  have h8 := h7.alloc (.cells #[.int .i64 (1), .string ⟨#[]⟩, .bool n1, .string A2, .int .i64 k1, .int .i64 (1), .int .i64 mf, .int .i64 xf, .bool false, .bool false, .int .i64 (0), .int .i64 (0)] 31)
  clear h5 h6 h7 b6 b7 cSa cW r0 r1 r2
  generalize W7.alloc _ = W8 at *
  generalize W7.heap.size = gw at *
  have r0 := h8.c 3 0 rfl rfl
  have r1 := h8.c 3 1 rfl rfl
  have r2 := h8.c 3 2 rfl rfl
  have t0 := h8.c 2 0 rfl rfl
  have t1 := h8.c 2 1 rfl rfl
  have t2 := h8.c 2 2 rfl rfl
  go_upto_region 8 with (go_at_call 11; refine (cC _).mono ?_; rintro e W9 ⟨rfl, b9⟩; have h9 := h8.step b9)
  refine hE gv gw _ rfl rfl rfl rfl rfl rfl rfl _ (VsI.drew h9) _ ?_
  intro a9 w9 h10 ha9 hd9 e6
  have bel := h10.bel
  clear ha9 hE h8 h9 h10
  go_wp2
  exact bodyPost_ret (results_tmp rfl _ _ _) hd9 ⟨by rw [Array.getD_eq_getD_getElem?, e6]; rfl, bel⟩
end Go.Proofs.YtgjboghnnhcgiaaGreatDoor
namespace Go.Proofs.YtgjboghnnhcgiaaGreatDoor.R
open Go.RowKit Go.Proofs.YtgjboghnnhcgiaaGreatDoor.G Go.Proofs.YtgjboghnnhcgiaaGreatDoor.U Go.Proofs.YtgjboghnnhcgiaaGreatDoorW.PrintWords Go.Proofs.YtgjboghnnhcgiaaGreatDoorW.PrintLast Go.Proofs.YtgjboghnnhcgiaaGreatDoorW.PrintMore
attribute [local go_sem] max2_int min2_int max_two min_two max_three min_three max_four min_four
set_option linter.unusedVariables false
set_option linter.unusedSimpArgs false
def dec_Dec_Whole.f (a0_0 : Bool) (a0_1 : ByteArray) (a0_2 : Int) : Option (ByteArray) := if 0 ≤ (wrap64 ((a0_1.size : Int) - a0_2)) then (if (wrap64 ((a0_1.size : Int) - a0_2)) ≤ (a0_1.size : Int) then (some (a0_1.extract 0 ((wrap64 ((a0_1.size : Int) - a0_2)) : Int).toNat)) else (none)) else (none)
set_option maxHeartbeats 8000000 in
set_option maxRecDepth 100000 in
theorem dec_Dec_Whole.calls (a0_0 : Bool) (a0_1 : ByteArray) (a0_2 : Int) (r : ByteArray) (w : World) (h : dec_Dec_Whole.f a0_0 a0_1 a0_2 = some r) :
    Calls Tryz.prog 26 #[.agg #[.bool a0_0, .string a0_1, .int .i64 a0_2]] w fun e w' => e = .returned (.string r) ∧ Below w.heap.size w w' := by
  have hu23 := Tryz.underlying23
  have HB := Aside0.mk (Below.refl w.heap.size w)
  have H : (if 0 ≤ (wrap64 ((a0_1.size : Int) - a0_2)) then (if (wrap64 ((a0_1.size : Int) - a0_2)) ≤ (a0_1.size : Int) then (some (a0_1.extract 0 ((wrap64 ((a0_1.size : Int) - a0_2)) : Int).toNat)) else (none)) else (none)) = some r := h
  clear h
  obtain ⟨ji2, hji2⟩ : ∃ j_ : Int, (wrap64 ((a0_1.size : Int) - a0_2)) = j_ := ⟨_, rfl⟩
  replace H : (if 0 ≤ (ji2) then (if (ji2) ≤ (a0_1.size : Int) then (some (a0_1.extract 0 ((ji2) : Int).toNat)) else (none)) else (none)) = some r := by first | (rw [hji2] at H; exact H) | (simp only [hji2] at H ⊢; exact H)
  have hji2w : (IntKind.i64.wrap ((a0_1.size : Int) - a0_2)) = ji2 := (i64_w _).trans hji2
  by_cases c3 : 0 ≤ (ji2)
  · rw [if_pos c3] at H
    have c3b0 := eq_true c3
    have c3b1 : decide (0 ≤ (ji2)) = true := decide_eq_true c3
    clear c3
    by_cases c4 : (ji2) ≤ (a0_1.size : Int)
    · rw [if_pos c4] at H
      have c4b0 := eq_true c4
      have c4b1 : decide ((ji2) ≤ (a0_1.size : Int)) = true := decide_eq_true c4
      clear c4
      obtain rfl := Option.some.inj H
      go_enter Tryz.func26, Tryz.ntmps26
      go_wp2_with (first | ((with_reducible refine gate_dst (N := 1) rfl ?_); refine box_event ?hg (N := 1) ?hd (cs := #[.bool a0_0, .string a0_1, .int .i64 a0_2]) (t := 23) ?hr ?_; (case hd => rfl); (case hg => rfl); (case hr => first | (go_simp; done) | (go_simp; rfl)); intro gb140 hg w5 hbox hb; have n0_ := Aside0.mk (below_step (by repeat (first | (with_reducible first | exact HB.out | apply below_alloc | apply pw_below_drewN | apply below_drew1) | exact HB.out)) hb); have n1_ := Aside0.mk (hbox); have n2_ := Aside0.mk ((by rw [hg]; exact (below_size (by repeat (first | (with_reducible first | exact HB.out | apply below_alloc | apply pw_below_drewN | apply below_drew1) | exact HB.out))) : w.heap.size ≤ gb140)); have n3_ := Aside0.mk ((by rw [hg]; exact (below_size (by repeat (first | (with_reducible first | exact HB.out | apply below_alloc | apply pw_below_drewN | apply below_drew1) | exact HB.out))) : w.heap.size ≤ gb140)); clear HB; have HB := n0_; have BK140 := n1_; have GW140 := n2_; have GE140 := n3_; clear n0_ n1_ n2_ n3_; clear hb hbox hg; have hcz6_0 : w5.cell? ⟨gb140, 0, none⟩ = some (.bool a0_0) := (blk_cell BK140.out 0).trans rfl; have hcz6_1 : w5.cell? ⟨gb140, 1, none⟩ = some (.string a0_1) := (blk_cell BK140.out 1).trans rfl; have hcz6_2 : w5.cell? ⟨gb140, 2, none⟩ = some (.int .i64 a0_2) := (blk_cell BK140.out 2).trans rfl; have hfz6_0 := blk_frozen BK140.out 0; have hfz6_1 := blk_frozen BK140.out 1; have hfz6_2 := blk_frozen BK140.out 2))
      go_ret
      exact ⟨by first | rfl | (simp [errW_none, errW_some] <;> rfl) | (simp only [← hji2]; first | rfl | (simp [errW_none, errW_some] <;> rfl)) | (simp [*, errW_none, errW_some] <;> rfl), by repeat (first | (with_reducible first | exact HB.out | apply below_alloc | apply pw_below_drewN | apply below_drew1 | refine below_set ?_ GE140.out) | exact HB.out)⟩
    · rw [if_neg c4] at H
      exact absurd H (by simp)
  · rw [if_neg c3] at H
    exact absurd H (by simp)
def dec_Dec_Part.f (a0_0 : Bool) (a0_1 : ByteArray) (a0_2 : Int) : Option (ByteArray) := if 0 ≤ (wrap64 ((a0_1.size : Int) - a0_2)) then (if (wrap64 ((a0_1.size : Int) - a0_2)) ≤ (a0_1.size : Int) then (some (a0_1.extract ((wrap64 ((a0_1.size : Int) - a0_2)) : Int).toNat a0_1.size)) else (none)) else (none)
set_option maxHeartbeats 8000000 in
set_option maxRecDepth 100000 in
theorem dec_Dec_Part.calls (a0_0 : Bool) (a0_1 : ByteArray) (a0_2 : Int) (r : ByteArray) (w : World) (h : dec_Dec_Part.f a0_0 a0_1 a0_2 = some r) :
    Calls Tryz.prog 27 #[.agg #[.bool a0_0, .string a0_1, .int .i64 a0_2]] w fun e w' => e = .returned (.string r) ∧ Below w.heap.size w w' := by
  have hu23 := Tryz.underlying23
  have HB := Aside0.mk (Below.refl w.heap.size w)
  have H : (if 0 ≤ (wrap64 ((a0_1.size : Int) - a0_2)) then (if (wrap64 ((a0_1.size : Int) - a0_2)) ≤ (a0_1.size : Int) then (some (a0_1.extract ((wrap64 ((a0_1.size : Int) - a0_2)) : Int).toNat a0_1.size)) else (none)) else (none)) = some r := h
  clear h
  obtain ⟨ji2, hji2⟩ : ∃ j_ : Int, (wrap64 ((a0_1.size : Int) - a0_2)) = j_ := ⟨_, rfl⟩
  replace H : (if 0 ≤ (ji2) then (if (ji2) ≤ (a0_1.size : Int) then (some (a0_1.extract ((ji2) : Int).toNat a0_1.size)) else (none)) else (none)) = some r := by first | (rw [hji2] at H; exact H) | (simp only [hji2] at H ⊢; exact H)
  have hji2w : (IntKind.i64.wrap ((a0_1.size : Int) - a0_2)) = ji2 := (i64_w _).trans hji2
  by_cases c3 : 0 ≤ (ji2)
  · rw [if_pos c3] at H
    have c3b0 := eq_true c3
    have c3b1 : decide (0 ≤ (ji2)) = true := decide_eq_true c3
    clear c3
    by_cases c4 : (ji2) ≤ (a0_1.size : Int)
    · rw [if_pos c4] at H
      have c4b0 := eq_true c4
      have c4b1 : decide ((ji2) ≤ (a0_1.size : Int)) = true := decide_eq_true c4
      clear c4
      obtain rfl := Option.some.inj H
      go_enter Tryz.func27, Tryz.ntmps27
      go_wp2_with (first | ((with_reducible refine gate_dst (N := 1) rfl ?_); refine box_event ?hg (N := 1) ?hd (cs := #[.bool a0_0, .string a0_1, .int .i64 a0_2]) (t := 23) ?hr ?_; (case hd => rfl); (case hg => rfl); (case hr => first | (go_simp; done) | (go_simp; rfl)); intro gb141 hg w5 hbox hb; have n0_ := Aside0.mk (below_step (by repeat (first | (with_reducible first | exact HB.out | apply below_alloc | apply pw_below_drewN | apply below_drew1) | exact HB.out)) hb); have n1_ := Aside0.mk (hbox); have n2_ := Aside0.mk ((by rw [hg]; exact (below_size (by repeat (first | (with_reducible first | exact HB.out | apply below_alloc | apply pw_below_drewN | apply below_drew1) | exact HB.out))) : w.heap.size ≤ gb141)); have n3_ := Aside0.mk ((by rw [hg]; exact (below_size (by repeat (first | (with_reducible first | exact HB.out | apply below_alloc | apply pw_below_drewN | apply below_drew1) | exact HB.out))) : w.heap.size ≤ gb141)); clear HB; have HB := n0_; have BK141 := n1_; have GW141 := n2_; have GE141 := n3_; clear n0_ n1_ n2_ n3_; clear hb hbox hg; have hcz6_0 : w5.cell? ⟨gb141, 0, none⟩ = some (.bool a0_0) := (blk_cell BK141.out 0).trans rfl; have hcz6_1 : w5.cell? ⟨gb141, 1, none⟩ = some (.string a0_1) := (blk_cell BK141.out 1).trans rfl; have hcz6_2 : w5.cell? ⟨gb141, 2, none⟩ = some (.int .i64 a0_2) := (blk_cell BK141.out 2).trans rfl; have hfz6_0 := blk_frozen BK141.out 0; have hfz6_1 := blk_frozen BK141.out 1; have hfz6_2 := blk_frozen BK141.out 2))
      go_ret
      exact ⟨by first | rfl | (simp [errW_none, errW_some] <;> rfl) | (simp only [← hji2]; first | rfl | (simp [errW_none, errW_some] <;> rfl)) | (simp [*, errW_none, errW_some] <;> rfl), by repeat (first | (with_reducible first | exact HB.out | apply below_alloc | apply pw_below_drewN | apply below_drew1 | refine below_set ?_ GE141.out) | exact HB.out)⟩
    · rw [if_neg c4] at H
      exact absurd H (by simp)
  · rw [if_neg c3] at H
    exact absurd H (by simp)
def dec_Dec_String.f (a0_0 : Bool) (a0_1 : ByteArray) (a0_2 : Int) : Option (ByteArray) := (dec_Dec_Whole.f a0_0 a0_1 a0_2).bind fun t143 => (if a0_2 > 0 then ((dec_Dec_Part.f a0_0 a0_1 a0_2).bind fun t144 => (if 1 + t144.size ≤ 9223372036854775807 then (if t143.size + ((⟨#[46]⟩ : ByteArray) ++ t144).size ≤ 9223372036854775807 then (if a0_0 = true then (if 1 + (t143 ++ ((⟨#[46]⟩ : ByteArray) ++ t144)).size ≤ 9223372036854775807 then (some ((⟨#[45]⟩ : ByteArray) ++ (t143 ++ ((⟨#[46]⟩ : ByteArray) ++ t144)))) else (none)) else (some (t143 ++ ((⟨#[46]⟩ : ByteArray) ++ t144)))) else (none)) else (none))) else (if a0_0 = true then (if 1 + t143.size ≤ 9223372036854775807 then (some ((⟨#[45]⟩ : ByteArray) ++ t143)) else (none)) else (some t143)))
set_option maxHeartbeats 8000000 in
set_option maxRecDepth 100000 in
theorem dec_Dec_String.calls (a0_0 : Bool) (a0_1 : ByteArray) (a0_2 : Int) (r : ByteArray) (w : World) (h : dec_Dec_String.f a0_0 a0_1 a0_2 = some r) :
    Calls Tryz.prog 10 #[.agg #[.bool a0_0, .string a0_1, .int .i64 a0_2]] w fun e w' => e = .returned (.string r) ∧ Below w.heap.size w w' := by
  have hu23 := Tryz.underlying23
  have HB := Aside0.mk (Below.refl w.heap.size w)
  have H : ((dec_Dec_Whole.f a0_0 a0_1 a0_2).bind fun t143 => (if a0_2 > 0 then ((dec_Dec_Part.f a0_0 a0_1 a0_2).bind fun t144 => (if 1 + t144.size ≤ 9223372036854775807 then (if t143.size + ((⟨#[46]⟩ : ByteArray) ++ t144).size ≤ 9223372036854775807 then (if a0_0 = true then (if 1 + (t143 ++ ((⟨#[46]⟩ : ByteArray) ++ t144)).size ≤ 9223372036854775807 then (some ((⟨#[45]⟩ : ByteArray) ++ (t143 ++ ((⟨#[46]⟩ : ByteArray) ++ t144)))) else (none)) else (some (t143 ++ ((⟨#[46]⟩ : ByteArray) ++ t144)))) else (none)) else (none))) else (if a0_0 = true then (if 1 + t143.size ≤ 9223372036854775807 then (some ((⟨#[45]⟩ : ByteArray) ++ t143)) else (none)) else (some t143)))) = some r := h
  clear h
  replace H := Option.bind_eq_some_iff.mp H
  obtain ⟨t143, A20, H⟩ := H
  replace H : (if a0_2 > 0 then ((dec_Dec_Part.f a0_0 a0_1 a0_2).bind fun t144 => (if 1 + t144.size ≤ 9223372036854775807 then (if t143.size + ((⟨#[46]⟩ : ByteArray) ++ t144).size ≤ 9223372036854775807 then (if a0_0 = true then (if 1 + (t143 ++ ((⟨#[46]⟩ : ByteArray) ++ t144)).size ≤ 9223372036854775807 then (some ((⟨#[45]⟩ : ByteArray) ++ (t143 ++ ((⟨#[46]⟩ : ByteArray) ++ t144)))) else (none)) else (some (t143 ++ ((⟨#[46]⟩ : ByteArray) ++ t144)))) else (none)) else (none))) else (if a0_0 = true then (if 1 + t143.size ≤ 9223372036854775807 then (some ((⟨#[45]⟩ : ByteArray) ++ t143)) else (none)) else (some t143))) = some r := H
  have A2 := Aside0.mk A20
  clear A20
  by_cases c3 : a0_2 > 0
  · rw [if_pos c3] at H
    have c3b0 : decide (0 < a0_2) = true := decide_eq_true c3
    clear c3
    replace H := Option.bind_eq_some_iff.mp H
    obtain ⟨t144, A40, H⟩ := H
    replace H : (if 1 + t144.size ≤ 9223372036854775807 then (if t143.size + ((⟨#[46]⟩ : ByteArray) ++ t144).size ≤ 9223372036854775807 then (if a0_0 = true then (if 1 + (t143 ++ ((⟨#[46]⟩ : ByteArray) ++ t144)).size ≤ 9223372036854775807 then (some ((⟨#[45]⟩ : ByteArray) ++ (t143 ++ ((⟨#[46]⟩ : ByteArray) ++ t144)))) else (none)) else (some (t143 ++ ((⟨#[46]⟩ : ByteArray) ++ t144)))) else (none)) else (none)) = some r := H
    have A4 := Aside0.mk A40
    clear A40
    by_cases c5 : 1 + t144.size ≤ 9223372036854775807
    · rw [if_pos c5] at H
      have c5b0 := eq_true c5
      have c5b1 : decide (1 + t144.size ≤ 9223372036854775807) = true := decide_eq_true c5
      try have c5b2 : (9223372036854775807 < 1 + t144.size) = False := eq_false (Nat.not_lt.2 c5)
      by_cases c6 : t143.size + ((⟨#[46]⟩ : ByteArray) ++ t144).size ≤ 9223372036854775807
      · rw [if_pos c6] at H
        have c6b0 := eq_true c6
        try have c6n := c6
        try simp only [ByteArray.size_append, show (⟨#[46]⟩ : ByteArray).size = 1 from rfl] at c6n
        try have c6m := eq_false (Nat.not_lt.2 c6n)
        try have c6k := eq_true c6n
        have c6b1 : decide (t143.size + ((⟨#[46]⟩ : ByteArray) ++ t144).size ≤ 9223372036854775807) = true := decide_eq_true c6
        try have c6b2 : (9223372036854775807 < t143.size + ((⟨#[46]⟩ : ByteArray) ++ t144).size) = False := eq_false (Nat.not_lt.2 c6)
        by_cases c7 : a0_0 = true
        · subst c7
          have H1 : (if 1 + (t143 ++ ((⟨#[46]⟩ : ByteArray) ++ t144)).size ≤ 9223372036854775807 then (some ((⟨#[45]⟩ : ByteArray) ++ (t143 ++ ((⟨#[46]⟩ : ByteArray) ++ t144)))) else (none)) = some r := by rw [if_pos rfl] at H; exact H
          clear H
          have H := H1
          clear H1
          by_cases c8 : 1 + (t143 ++ ((⟨#[46]⟩ : ByteArray) ++ t144)).size ≤ 9223372036854775807
          · rw [if_pos c8] at H
            have c8b0 := eq_true c8
            try have c8n := c8
            try simp only [ByteArray.size_append, show (⟨#[46]⟩ : ByteArray).size = 1 from rfl] at c8n
            try have c8m := eq_false (Nat.not_lt.2 c8n)
            try have c8k := eq_true c8n
            have c8b1 : decide (1 + (t143 ++ ((⟨#[46]⟩ : ByteArray) ++ t144)).size ≤ 9223372036854775807) = true := decide_eq_true c8
            try have c8b2 : (9223372036854775807 < 1 + (t143 ++ ((⟨#[46]⟩ : ByteArray) ++ t144)).size) = False := eq_false (Nat.not_lt.2 c8)
            obtain rfl := Option.some.inj H
            go_enter Tryz.func10, Tryz.ntmps10
            go_wp2_with (first | ((with_reducible refine gate_dst (N := 1) rfl ?_); refine box_event ?hg (N := 1) ?hd (cs := #[.bool true, .string a0_1, .int .i64 a0_2]) (t := 23) ?hr ?_; (case hd => rfl); (case hg => rfl); (case hr => first | (go_simp; done) | (go_simp; rfl)); intro gb142 hg w9 hbox hb; have n0_ := Aside0.mk (below_step (by repeat (first | (with_reducible first | exact HB.out | apply below_alloc | apply pw_below_drewN | apply below_drew1) | exact HB.out)) hb); have n1_ := Aside0.mk (hbox); have n2_ := Aside0.mk ((by rw [hg]; exact (below_size (by repeat (first | (with_reducible first | exact HB.out | apply below_alloc | apply pw_below_drewN | apply below_drew1) | exact HB.out))) : w.heap.size ≤ gb142)); have n3_ := Aside0.mk ((by rw [hg]; exact (below_size (by repeat (first | (with_reducible first | exact HB.out | apply below_alloc | apply pw_below_drewN | apply below_drew1) | exact HB.out))) : w.heap.size ≤ gb142)); clear HB; have HB := n0_; have BK142 := n1_; have GW142 := n2_; have GE142 := n3_; clear n0_ n1_ n2_ n3_; clear hb hbox hg; have hcz10_0 : w9.cell? ⟨gb142, 0, none⟩ = some (.bool true) := (blk_cell BK142.out 0).trans rfl; have hcz10_1 : w9.cell? ⟨gb142, 1, none⟩ = some (.string a0_1) := (blk_cell BK142.out 1).trans rfl; have hcz10_2 : w9.cell? ⟨gb142, 2, none⟩ = some (.int .i64 a0_2) := (blk_cell BK142.out 2).trans rfl; have hfz10_0 := blk_frozen BK142.out 0; have hfz10_1 := blk_frozen BK142.out 1; have hfz10_2 := blk_frozen BK142.out 2) | ((with_reducible refine gate_callee (f := 26) rfl ?_); refine goesL_ (some 5) rfl rfl Tryz.func26 (by kernel_rfl) rfl #[.agg #[.bool true, .string a0_1, .int .i64 a0_2]] rfl (by (try simp only [List.map_toArray, List.map_cons, List.map_nil]); first | done | rfl | (simp only [List.length_drop, List.length_take]; rfl)) ?_; (with_reducible refine (dec_Dec_Whole.calls true a0_1 a0_2 t143 _ A2.out).mono ?_); rintro e w11 ⟨rfl, hb⟩; refine ⟨_, rfl, ?_⟩; have n0_ := Aside0.mk (blk_below (g := gb142) (o := .cells #[.bool true, .string a0_1, .int .i64 a0_2] 23 (0, 0)) (by (with_reducible repeat (first | refine blk_drewN ?_ _ | refine blk_drew ?_ | refine blk_alloc ?_ _)); exact BK142.out) hb); have n1_ := Aside0.mk (below_step (by repeat (first | (with_reducible first | exact HB.out | apply below_alloc | apply pw_below_drewN | apply below_drew1 | refine below_set ?_ GE142.out) | exact HB.out)) hb); clear BK142; clear HB; have BK142 := n0_; have HB := n1_; clear n0_ n1_; (try clear hb); (try clear hb2); (try clear hk); (try clear hi); have hcz12_0 : w11.cell? ⟨gb142, 0, none⟩ = some (.bool true) := (blk_cell BK142.out 0).trans rfl; have hcz12_1 : w11.cell? ⟨gb142, 1, none⟩ = some (.string a0_1) := (blk_cell BK142.out 1).trans rfl; have hcz12_2 : w11.cell? ⟨gb142, 2, none⟩ = some (.int .i64 a0_2) := (blk_cell BK142.out 2).trans rfl; have hfz12_0 := blk_frozen BK142.out 0; have hfz12_1 := blk_frozen BK142.out 1; have hfz12_2 := blk_frozen BK142.out 2) | ((with_reducible refine gate_callee (f := 27) rfl ?_); refine goesL_ (some 11) rfl rfl Tryz.func27 (by kernel_rfl) rfl #[.agg #[.bool true, .string a0_1, .int .i64 a0_2]] rfl (by (try simp only [List.map_toArray, List.map_cons, List.map_nil]); first | done | rfl | (simp only [List.length_drop, List.length_take]; rfl)) ?_; (with_reducible refine (dec_Dec_Part.calls true a0_1 a0_2 t144 _ A4.out).mono ?_); rintro e w13 ⟨rfl, hb⟩; refine ⟨_, rfl, ?_⟩; have n0_ := Aside0.mk (blk_below (g := gb142) (o := .cells #[.bool true, .string a0_1, .int .i64 a0_2] 23 (0, 0)) (by (with_reducible repeat (first | refine blk_drewN ?_ _ | refine blk_drew ?_ | refine blk_alloc ?_ _)); exact BK142.out) hb); have n1_ := Aside0.mk (below_step (by repeat (first | (with_reducible first | exact HB.out | apply below_alloc | apply pw_below_drewN | apply below_drew1 | refine below_set ?_ GE142.out) | exact HB.out)) hb); clear BK142; clear HB; have BK142 := n0_; have HB := n1_; clear n0_ n1_; (try clear hb); (try clear hb2); (try clear hk); (try clear hi); have hcz14_0 : w13.cell? ⟨gb142, 0, none⟩ = some (.bool true) := (blk_cell BK142.out 0).trans rfl; have hcz14_1 : w13.cell? ⟨gb142, 1, none⟩ = some (.string a0_1) := (blk_cell BK142.out 1).trans rfl; have hcz14_2 : w13.cell? ⟨gb142, 2, none⟩ = some (.int .i64 a0_2) := (blk_cell BK142.out 2).trans rfl; have hfz14_0 := blk_frozen BK142.out 0; have hfz14_1 := blk_frozen BK142.out 1; have hfz14_2 := blk_frozen BK142.out 2))
            go_ret
            exact ⟨by first | rfl | (simp [errW_none, errW_some] <;> rfl) | (simp [*, errW_none, errW_some] <;> rfl), by repeat (first | (with_reducible first | exact HB.out | apply below_alloc | apply pw_below_drewN | apply below_drew1 | refine below_set ?_ GE142.out) | exact HB.out)⟩
          · rw [if_neg c8] at H
            exact absurd H (by simp)
        · replace c7 := Bool.eq_false_iff.mpr c7
          subst c7
          have H1 : (some (t143 ++ ((⟨#[46]⟩ : ByteArray) ++ t144))) = some r := by rw [if_neg (show ¬ (false = true) by decide)] at H; exact H
          clear H
          have H := H1
          clear H1
          obtain rfl := Option.some.inj H
          go_enter Tryz.func10, Tryz.ntmps10
          go_wp2_with (first | ((with_reducible refine gate_dst (N := 1) rfl ?_); refine box_event ?hg (N := 1) ?hd (cs := #[.bool false, .string a0_1, .int .i64 a0_2]) (t := 23) ?hr ?_; (case hd => rfl); (case hg => rfl); (case hr => first | (go_simp; done) | (go_simp; rfl)); intro gb142 hg w15 hbox hb; have n0_ := Aside0.mk (below_step (by repeat (first | (with_reducible first | exact HB.out | apply below_alloc | apply pw_below_drewN | apply below_drew1) | exact HB.out)) hb); have n1_ := Aside0.mk (hbox); have n2_ := Aside0.mk ((by rw [hg]; exact (below_size (by repeat (first | (with_reducible first | exact HB.out | apply below_alloc | apply pw_below_drewN | apply below_drew1) | exact HB.out))) : w.heap.size ≤ gb142)); have n3_ := Aside0.mk ((by rw [hg]; exact (below_size (by repeat (first | (with_reducible first | exact HB.out | apply below_alloc | apply pw_below_drewN | apply below_drew1) | exact HB.out))) : w.heap.size ≤ gb142)); clear HB; have HB := n0_; have BK142 := n1_; have GW142 := n2_; have GE142 := n3_; clear n0_ n1_ n2_ n3_; clear hb hbox hg; have hcz16_0 : w15.cell? ⟨gb142, 0, none⟩ = some (.bool false) := (blk_cell BK142.out 0).trans rfl; have hcz16_1 : w15.cell? ⟨gb142, 1, none⟩ = some (.string a0_1) := (blk_cell BK142.out 1).trans rfl; have hcz16_2 : w15.cell? ⟨gb142, 2, none⟩ = some (.int .i64 a0_2) := (blk_cell BK142.out 2).trans rfl; have hfz16_0 := blk_frozen BK142.out 0; have hfz16_1 := blk_frozen BK142.out 1; have hfz16_2 := blk_frozen BK142.out 2) | ((with_reducible refine gate_callee (f := 26) rfl ?_); refine goesL_ (some 5) rfl rfl Tryz.func26 (by kernel_rfl) rfl #[.agg #[.bool false, .string a0_1, .int .i64 a0_2]] rfl (by (try simp only [List.map_toArray, List.map_cons, List.map_nil]); first | done | rfl | (simp only [List.length_drop, List.length_take]; rfl)) ?_; (with_reducible refine (dec_Dec_Whole.calls false a0_1 a0_2 t143 _ A2.out).mono ?_); rintro e w17 ⟨rfl, hb⟩; refine ⟨_, rfl, ?_⟩; have n0_ := Aside0.mk (blk_below (g := gb142) (o := .cells #[.bool false, .string a0_1, .int .i64 a0_2] 23 (0, 0)) (by (with_reducible repeat (first | refine blk_drewN ?_ _ | refine blk_drew ?_ | refine blk_alloc ?_ _)); exact BK142.out) hb); have n1_ := Aside0.mk (below_step (by repeat (first | (with_reducible first | exact HB.out | apply below_alloc | apply pw_below_drewN | apply below_drew1 | refine below_set ?_ GE142.out) | exact HB.out)) hb); clear BK142; clear HB; have BK142 := n0_; have HB := n1_; clear n0_ n1_; (try clear hb); (try clear hb2); (try clear hk); (try clear hi); have hcz18_0 : w17.cell? ⟨gb142, 0, none⟩ = some (.bool false) := (blk_cell BK142.out 0).trans rfl; have hcz18_1 : w17.cell? ⟨gb142, 1, none⟩ = some (.string a0_1) := (blk_cell BK142.out 1).trans rfl; have hcz18_2 : w17.cell? ⟨gb142, 2, none⟩ = some (.int .i64 a0_2) := (blk_cell BK142.out 2).trans rfl; have hfz18_0 := blk_frozen BK142.out 0; have hfz18_1 := blk_frozen BK142.out 1; have hfz18_2 := blk_frozen BK142.out 2) | ((with_reducible refine gate_callee (f := 27) rfl ?_); refine goesL_ (some 11) rfl rfl Tryz.func27 (by kernel_rfl) rfl #[.agg #[.bool false, .string a0_1, .int .i64 a0_2]] rfl (by (try simp only [List.map_toArray, List.map_cons, List.map_nil]); first | done | rfl | (simp only [List.length_drop, List.length_take]; rfl)) ?_; (with_reducible refine (dec_Dec_Part.calls false a0_1 a0_2 t144 _ A4.out).mono ?_); rintro e w19 ⟨rfl, hb⟩; refine ⟨_, rfl, ?_⟩; have n0_ := Aside0.mk (blk_below (g := gb142) (o := .cells #[.bool false, .string a0_1, .int .i64 a0_2] 23 (0, 0)) (by (with_reducible repeat (first | refine blk_drewN ?_ _ | refine blk_drew ?_ | refine blk_alloc ?_ _)); exact BK142.out) hb); have n1_ := Aside0.mk (below_step (by repeat (first | (with_reducible first | exact HB.out | apply below_alloc | apply pw_below_drewN | apply below_drew1 | refine below_set ?_ GE142.out) | exact HB.out)) hb); clear BK142; clear HB; have BK142 := n0_; have HB := n1_; clear n0_ n1_; (try clear hb); (try clear hb2); (try clear hk); (try clear hi); have hcz20_0 : w19.cell? ⟨gb142, 0, none⟩ = some (.bool false) := (blk_cell BK142.out 0).trans rfl; have hcz20_1 : w19.cell? ⟨gb142, 1, none⟩ = some (.string a0_1) := (blk_cell BK142.out 1).trans rfl; have hcz20_2 : w19.cell? ⟨gb142, 2, none⟩ = some (.int .i64 a0_2) := (blk_cell BK142.out 2).trans rfl; have hfz20_0 := blk_frozen BK142.out 0; have hfz20_1 := blk_frozen BK142.out 1; have hfz20_2 := blk_frozen BK142.out 2))
          go_ret
          exact ⟨by first | rfl | (simp [errW_none, errW_some] <;> rfl) | (simp [*, errW_none, errW_some] <;> rfl), by repeat (first | (with_reducible first | exact HB.out | apply below_alloc | apply pw_below_drewN | apply below_drew1 | refine below_set ?_ GE142.out) | exact HB.out)⟩
      · rw [if_neg c6] at H
        exact absurd H (by simp)
    · rw [if_neg c5] at H
      exact absurd H (by simp)
  · rw [if_neg c3] at H
    have c3b0 : decide (0 < a0_2) = false := decide_eq_false c3
    clear c3
    by_cases c21 : a0_0 = true
    · subst c21
      have H1 : (if 1 + t143.size ≤ 9223372036854775807 then (some ((⟨#[45]⟩ : ByteArray) ++ t143)) else (none)) = some r := by rw [if_pos rfl] at H; exact H
      clear H
      have H := H1
      clear H1
      by_cases c22 : 1 + t143.size ≤ 9223372036854775807
      · rw [if_pos c22] at H
        have c22b0 := eq_true c22
        have c22b1 : decide (1 + t143.size ≤ 9223372036854775807) = true := decide_eq_true c22
        try have c22b2 : (9223372036854775807 < 1 + t143.size) = False := eq_false (Nat.not_lt.2 c22)
        obtain rfl := Option.some.inj H
        go_enter Tryz.func10, Tryz.ntmps10
        go_wp2_with (first | ((with_reducible refine gate_dst (N := 1) rfl ?_); refine box_event ?hg (N := 1) ?hd (cs := #[.bool true, .string a0_1, .int .i64 a0_2]) (t := 23) ?hr ?_; (case hd => rfl); (case hg => rfl); (case hr => first | (go_simp; done) | (go_simp; rfl)); intro gb142 hg w23 hbox hb; have n0_ := Aside0.mk (below_step (by repeat (first | (with_reducible first | exact HB.out | apply below_alloc | apply pw_below_drewN | apply below_drew1) | exact HB.out)) hb); have n1_ := Aside0.mk (hbox); have n2_ := Aside0.mk ((by rw [hg]; exact (below_size (by repeat (first | (with_reducible first | exact HB.out | apply below_alloc | apply pw_below_drewN | apply below_drew1) | exact HB.out))) : w.heap.size ≤ gb142)); have n3_ := Aside0.mk ((by rw [hg]; exact (below_size (by repeat (first | (with_reducible first | exact HB.out | apply below_alloc | apply pw_below_drewN | apply below_drew1) | exact HB.out))) : w.heap.size ≤ gb142)); clear HB; have HB := n0_; have BK142 := n1_; have GW142 := n2_; have GE142 := n3_; clear n0_ n1_ n2_ n3_; clear hb hbox hg; have hcz24_0 : w23.cell? ⟨gb142, 0, none⟩ = some (.bool true) := (blk_cell BK142.out 0).trans rfl; have hcz24_1 : w23.cell? ⟨gb142, 1, none⟩ = some (.string a0_1) := (blk_cell BK142.out 1).trans rfl; have hcz24_2 : w23.cell? ⟨gb142, 2, none⟩ = some (.int .i64 a0_2) := (blk_cell BK142.out 2).trans rfl; have hfz24_0 := blk_frozen BK142.out 0; have hfz24_1 := blk_frozen BK142.out 1; have hfz24_2 := blk_frozen BK142.out 2) | ((with_reducible refine gate_callee (f := 26) rfl ?_); refine goesL_ (some 5) rfl rfl Tryz.func26 (by kernel_rfl) rfl #[.agg #[.bool true, .string a0_1, .int .i64 a0_2]] rfl (by (try simp only [List.map_toArray, List.map_cons, List.map_nil]); first | done | rfl | (simp only [List.length_drop, List.length_take]; rfl)) ?_; (with_reducible refine (dec_Dec_Whole.calls true a0_1 a0_2 t143 _ A2.out).mono ?_); rintro e w25 ⟨rfl, hb⟩; refine ⟨_, rfl, ?_⟩; have n0_ := Aside0.mk (blk_below (g := gb142) (o := .cells #[.bool true, .string a0_1, .int .i64 a0_2] 23 (0, 0)) (by (with_reducible repeat (first | refine blk_drewN ?_ _ | refine blk_drew ?_ | refine blk_alloc ?_ _)); exact BK142.out) hb); have n1_ := Aside0.mk (below_step (by repeat (first | (with_reducible first | exact HB.out | apply below_alloc | apply pw_below_drewN | apply below_drew1 | refine below_set ?_ GE142.out) | exact HB.out)) hb); clear BK142; clear HB; have BK142 := n0_; have HB := n1_; clear n0_ n1_; (try clear hb); (try clear hb2); (try clear hk); (try clear hi); have hcz26_0 : w25.cell? ⟨gb142, 0, none⟩ = some (.bool true) := (blk_cell BK142.out 0).trans rfl; have hcz26_1 : w25.cell? ⟨gb142, 1, none⟩ = some (.string a0_1) := (blk_cell BK142.out 1).trans rfl; have hcz26_2 : w25.cell? ⟨gb142, 2, none⟩ = some (.int .i64 a0_2) := (blk_cell BK142.out 2).trans rfl; have hfz26_0 := blk_frozen BK142.out 0; have hfz26_1 := blk_frozen BK142.out 1; have hfz26_2 := blk_frozen BK142.out 2))
        go_ret
        exact ⟨by first | rfl | (simp [errW_none, errW_some] <;> rfl) | (simp [*, errW_none, errW_some] <;> rfl), by repeat (first | (with_reducible first | exact HB.out | apply below_alloc | apply pw_below_drewN | apply below_drew1 | refine below_set ?_ GE142.out) | exact HB.out)⟩
      · rw [if_neg c22] at H
        exact absurd H (by simp)
    · replace c21 := Bool.eq_false_iff.mpr c21
      subst c21
      have H1 : (some t143) = some r := by rw [if_neg (show ¬ (false = true) by decide)] at H; exact H
      clear H
      have H := H1
      clear H1
      obtain rfl := Option.some.inj H
      go_enter Tryz.func10, Tryz.ntmps10
      go_wp2_with (first | ((with_reducible refine gate_dst (N := 1) rfl ?_); refine box_event ?hg (N := 1) ?hd (cs := #[.bool false, .string a0_1, .int .i64 a0_2]) (t := 23) ?hr ?_; (case hd => rfl); (case hg => rfl); (case hr => first | (go_simp; done) | (go_simp; rfl)); intro gb142 hg w27 hbox hb; have n0_ := Aside0.mk (below_step (by repeat (first | (with_reducible first | exact HB.out | apply below_alloc | apply pw_below_drewN | apply below_drew1) | exact HB.out)) hb); have n1_ := Aside0.mk (hbox); have n2_ := Aside0.mk ((by rw [hg]; exact (below_size (by repeat (first | (with_reducible first | exact HB.out | apply below_alloc | apply pw_below_drewN | apply below_drew1) | exact HB.out))) : w.heap.size ≤ gb142)); have n3_ := Aside0.mk ((by rw [hg]; exact (below_size (by repeat (first | (with_reducible first | exact HB.out | apply below_alloc | apply pw_below_drewN | apply below_drew1) | exact HB.out))) : w.heap.size ≤ gb142)); clear HB; have HB := n0_; have BK142 := n1_; have GW142 := n2_; have GE142 := n3_; clear n0_ n1_ n2_ n3_; clear hb hbox hg; have hcz28_0 : w27.cell? ⟨gb142, 0, none⟩ = some (.bool false) := (blk_cell BK142.out 0).trans rfl; have hcz28_1 : w27.cell? ⟨gb142, 1, none⟩ = some (.string a0_1) := (blk_cell BK142.out 1).trans rfl; have hcz28_2 : w27.cell? ⟨gb142, 2, none⟩ = some (.int .i64 a0_2) := (blk_cell BK142.out 2).trans rfl; have hfz28_0 := blk_frozen BK142.out 0; have hfz28_1 := blk_frozen BK142.out 1; have hfz28_2 := blk_frozen BK142.out 2) | ((with_reducible refine gate_callee (f := 26) rfl ?_); refine goesL_ (some 5) rfl rfl Tryz.func26 (by kernel_rfl) rfl #[.agg #[.bool false, .string a0_1, .int .i64 a0_2]] rfl (by (try simp only [List.map_toArray, List.map_cons, List.map_nil]); first | done | rfl | (simp only [List.length_drop, List.length_take]; rfl)) ?_; (with_reducible refine (dec_Dec_Whole.calls false a0_1 a0_2 t143 _ A2.out).mono ?_); rintro e w29 ⟨rfl, hb⟩; refine ⟨_, rfl, ?_⟩; have n0_ := Aside0.mk (blk_below (g := gb142) (o := .cells #[.bool false, .string a0_1, .int .i64 a0_2] 23 (0, 0)) (by (with_reducible repeat (first | refine blk_drewN ?_ _ | refine blk_drew ?_ | refine blk_alloc ?_ _)); exact BK142.out) hb); have n1_ := Aside0.mk (below_step (by repeat (first | (with_reducible first | exact HB.out | apply below_alloc | apply pw_below_drewN | apply below_drew1 | refine below_set ?_ GE142.out) | exact HB.out)) hb); clear BK142; clear HB; have BK142 := n0_; have HB := n1_; clear n0_ n1_; (try clear hb); (try clear hb2); (try clear hk); (try clear hi); have hcz30_0 : w29.cell? ⟨gb142, 0, none⟩ = some (.bool false) := (blk_cell BK142.out 0).trans rfl; have hcz30_1 : w29.cell? ⟨gb142, 1, none⟩ = some (.string a0_1) := (blk_cell BK142.out 1).trans rfl; have hcz30_2 : w29.cell? ⟨gb142, 2, none⟩ = some (.int .i64 a0_2) := (blk_cell BK142.out 2).trans rfl; have hfz30_0 := blk_frozen BK142.out 0; have hfz30_1 := blk_frozen BK142.out 1; have hfz30_2 := blk_frozen BK142.out 2))
      go_ret
      exact ⟨by first | rfl | (simp [errW_none, errW_some] <;> rfl) | (simp [*, errW_none, errW_some] <;> rfl), by repeat (first | (with_reducible first | exact HB.out | apply below_alloc | apply pw_below_drewN | apply below_drew1 | refine below_set ?_ GE142.out) | exact HB.out)⟩
end Go.Proofs.YtgjboghnnhcgiaaGreatDoor.R

namespace Go.Proofs.YtgjboghnnhcgiaaGreatDoor.PU
open Go.RowKit Go.Proofs.YtgjboghnnhcgiaaGreatDoor Go.Proofs.YtgjboghnnhcgiaaGreatDoor.G Go.Proofs.YtgjboghnnhcgiaaGreatDoor.U Go.Proofs.YtgjboghnnhcgiaaGreatDoor.R Go.Proofs.YtgjboghnnhcgiaaGreatDoorW.PrintWords
set_option linter.unusedVariables false
set_option linter.unusedSimpArgs false
abbrev bl (s : ByteArray) : List UInt8 := s.data.toList
theorem tl (s : ByteArray) : s.toList = bl s := Lib.toList_data s
theorem sz (s : ByteArray) : s.size = (bl s).length := Lib.size_eq s
theorem ba_ext {a b : ByteArray} (h : bl a = bl b) : a = b := by
  cases a; cases b; congr 1; exact Array.ext' h
theorem bl_app (a b : ByteArray) : bl (a ++ b) = bl a ++ bl b := by show (a ++ b).data.toList = _; rw [ByteArray.data_append, Array.toList_append]
theorem bl_ext (s : ByteArray) (a b : Nat) : bl (s.extract a b) = ((bl s).drop a).take (b - a) := Lib.extract_data s a b
theorem bl_mk (l : List UInt8) : bl ⟨l.toArray⟩ = l := rfl
theorem mk_bl (s : ByteArray) : (⟨(bl s).toArray⟩ : ByteArray) = s := ba_ext rfl
theorem sz_app (a b : ByteArray) : (a ++ b).size = a.size + b.size := ByteArray.size_append
theorem w64 (x : Int) (h0 : -9223372036854775808 ≤ x) (h1 : x ≤ 9223372036854775807) : wrap64 x = x := by unfold wrap64; omega
theorem bt_nat (s : ByteArray) (i : Nat) (c : UInt8) (h : (bl s)[i]? = some c) : bt s (i : Int) = c.toNat := by
  obtain ⟨hl, e⟩ := List.getElem?_eq_some_iff.1 h
  have hl' : i < s.size := by rw [sz]; exact hl
  unfold bt
  rw [Int.toNat_natCast, dif_pos hl']
  rw [← e]
  rfl
def isDig (c : UInt8) : Bool := decide (48 ≤ c.toNat) && decide (c.toNat ≤ 57)
theorem digit_f (c : UInt8) : polyglotlaw02_digit.f (c.toNat : Int) = some (isDig c) := by
  unfold polyglotlaw02_digit.f isDig
  by_cases h : 48 ≤ c.toNat
  · rw [if_pos (by omega)]
    simp [h]
    omega
  · rw [if_neg (by omega)]
    simp [h]
end Go.Proofs.YtgjboghnnhcgiaaGreatDoor.PU
namespace Go.Proofs.YtgjboghnnhcgiaaGreatDoor.S
open Go.RowKit Go.Proofs.YtgjboghnnhcgiaaGreatDoor Go.Proofs.YtgjboghnnhcgiaaGreatDoor.G Go.Proofs.YtgjboghnnhcgiaaGreatDoor.U Go.Proofs.YtgjboghnnhcgiaaGreatDoor.R Go.Proofs.YtgjboghnnhcgiaaGreatDoor.PU Go.Proofs.YtgjboghnnhcgiaaGreatDoorW.PrintWords
set_option linter.unusedVariables false
set_option linter.unusedSimpArgs false
theorem dw_nil {p : UInt8 → Bool} : ∀ {l : List UInt8}, l.dropWhile p = [] ↔ ∀ x ∈ l, p x = true
  | [] => by simp
  | a :: l => by
    rw [List.dropWhile_cons]
    by_cases h : p a = true
    · rw [if_pos h, dw_nil]
      simp [h]
    · rw [if_neg h]
      simp [h]
theorem isDigits_ok (s : ByteArray) (hs : s.size ≤ 1000) : dec_isDigits.f s = some (!(bl s).isEmpty && (bl s).all isDig) := by
  unfold dec_isDigits.f
  rw [tl]
  by_cases h0 : bl s = []
  · rw [if_pos h0, h0]; rfl
  · rw [if_neg h0]
    have hT : strings_Trim.f s ⟨#[48, 49, 50, 51, 52, 53, 54, 55, 56, 57]⟩ = some ⟨(Lib.trimS (bl s) [48, 49, 50, 51, 52, 53, 54, 55, 56, 57]).toArray⟩ := by
      unfold strings_Trim.f
      rw [if_pos ⟨by omega, by decide, by decide⟩]
    rw [hT, Option.bind_some, tl, bl_mk]
    congr 1
    have hc : ∀ c : UInt8, ([48, 49, 50, 51, 52, 53, 54, 55, 56, 57] : List UInt8).contains c = isDig c := fun c => by
      have h : ∀ n : Nat, n < 256 → ([48, 49, 50, 51, 52, 53, 54, 55, 56, 57] : List UInt8).contains (UInt8.ofNat n) = isDig (UInt8.ofNat n) := by decide +kernel
      have := h c.toNat c.toNat_lt
      rwa [show UInt8.ofNat c.toNat = c by simp] at this
    have h1 : (bl s).isEmpty = false := by simpa using h0
    rw [h1, Bool.not_false, Bool.true_and]
    unfold Lib.trimS Lib.trimLeftS Lib.trimRightS
    rw [show (fun x => ([48, 49, 50, 51, 52, 53, 54, 55, 56, 57] : List UInt8).contains x) = isDig from funext hc]
    by_cases ha : (bl s).all isDig = true
    · rw [ha]
      have e : (bl s).reverse.dropWhile isDig = [] := by
        rw [dw_nil]
        intro x hx
        exact List.all_eq_true.1 ha x (List.mem_reverse.1 hx)
      rw [e]; rfl
    · have ha' : (bl s).all isDig = false := by simpa using ha
      rw [ha', beq_eq_false_iff_ne]
      intro e
      apply ha
      rw [List.all_eq_true]
      intro x hx
      have e2 := dw_nil.1 e
      by_cases hxd : isDig x = true
      · exact hxd
      · exfalso
        have hm : x ∈ ((bl s).reverse.dropWhile isDig).reverse := by
          rw [List.mem_reverse]
          have hsp := List.takeWhile_append_dropWhile (p := isDig) (l := (bl s).reverse)
          have hx2 : x ∈ (bl s).reverse := List.mem_reverse.2 hx
          rw [← hsp] at hx2
          rcases List.mem_append.1 hx2 with h | h
          · exact absurd (List.all_eq_true.1 (List.all_takeWhile) x h) hxd
          · exact h
        exact hxd (e2 x hm)
end Go.Proofs.YtgjboghnnhcgiaaGreatDoor.S
namespace Go.Proofs.YtgjboghnnhcgiaaGreatDoor.S
open Go.RowKit Go.Proofs.YtgjboghnnhcgiaaGreatDoor Go.Proofs.YtgjboghnnhcgiaaGreatDoor.G Go.Proofs.YtgjboghnnhcgiaaGreatDoor.U Go.Proofs.YtgjboghnnhcgiaaGreatDoor.R Go.Proofs.YtgjboghnnhcgiaaGreatDoor.PU Go.Proofs.YtgjboghnnhcgiaaGreatDoorW.PrintWords
set_option linter.unusedVariables false
set_option linter.unusedSimpArgs false
abbrev digs (l : List UInt8) : Bool := l.all isDig
def stripTo (m : Nat) : List UInt8 → List UInt8
  | [] => []
  | c :: t => if m < t.length + 1 ∧ c = 48 then stripTo m t else c :: t
theorem stripTo_len (m : Nat) : ∀ L, (stripTo m L).length ≤ L.length ∧ (m ≤ L.length → m ≤ (stripTo m L).length)
  | [] => ⟨Nat.le_refl _, fun h => h⟩
  | c :: t => by
    have ih := stripTo_len m t
    unfold stripTo
    split
    · rw [List.length_cons]; exact ⟨by omega, fun h => ih.2 (by omega)⟩
    · exact ⟨Nat.le_refl _, fun h => h⟩
theorem stripTo_digs (m : Nat) : ∀ L, digs L = true → digs (stripTo m L) = true
  | [], h => h
  | c :: t, h => by
    unfold stripTo
    split
    · exact stripTo_digs m t (by simp [digs] at h ⊢; exact h.2)
    · exact h
theorem dw48 (l : List UInt8) : l = List.replicate (l.length - (Lib.trimLeftS l [48]).length) 48 ++ Lib.trimLeftS l [48] := by
  induction l with
  | nil => rfl
  | cons c t ih =>
    unfold Lib.trimLeftS at ih ⊢
    rw [List.dropWhile_cons]
    by_cases h : ([48] : List UInt8).contains c = true
    · rw [if_pos h]
      have hc : c = 48 := by simpa using h
      have hl : (t.dropWhile fun x => ([48] : List UInt8).contains x).length ≤ t.length := (List.dropWhile_suffix _).length_le
      rw [List.length_cons, show t.length + 1 - (t.dropWhile fun x => ([48] : List UInt8).contains x).length = (t.length - (t.dropWhile fun x => ([48] : List UInt8).contains x).length) + 1 by omega, List.replicate_succ, List.cons_append, ← ih, hc]
    · rw [if_neg h]
      simp
theorem strip_eq (m : Nat) : ∀ L : List UInt8, m ≤ L.length → 1 ≤ m → (if (Lib.trimLeftS L [48]).length < m then List.replicate (m - (Lib.trimLeftS L [48]).length) 48 ++ Lib.trimLeftS L [48] else Lib.trimLeftS L [48]) = stripTo m L
  | [], h, h1 => by simp at h; omega
  | c :: t, h, h1 => by
    rw [List.length_cons] at h
    by_cases hc : c = 48
    · have e : Lib.trimLeftS (c :: t) [48] = Lib.trimLeftS t [48] := by
        unfold Lib.trimLeftS
        rw [List.dropWhile_cons, if_pos (by simpa using hc)]
      rw [e]
      unfold stripTo
      by_cases hm : m < t.length + 1
      · rw [if_pos (⟨hm, hc⟩ : m < t.length + 1 ∧ c = 48)]
        exact strip_eq m t (by omega) h1
      · rw [if_neg (fun h => hm h.1 : ¬ (m < t.length + 1 ∧ c = 48))]
        have hd := dw48 (c :: t)
        rw [e, List.length_cons] at hd
        have hl : (Lib.trimLeftS t [48]).length ≤ t.length := (List.dropWhile_suffix _).length_le
        rw [if_pos (by omega), show m - (Lib.trimLeftS t [48]).length = t.length + 1 - (Lib.trimLeftS t [48]).length by omega]
        exact hd.symm
    · have e : Lib.trimLeftS (c :: t) [48] = c :: t := by
        unfold Lib.trimLeftS
        rw [List.dropWhile_cons, if_neg (by simpa using hc)]
      rw [e, if_neg (by rw [List.length_cons]; omega)]
      unfold stripTo
      rw [if_neg (fun h => hc h.2 : ¬ (m < t.length + 1 ∧ c = 48))]
theorem make0_ok (n : Bool) (D : ByteArray) (sc : Nat) (h : sc + 1 ≤ (bl D).length) (hl : (bl D).length ≤ 1000) : dec_make0.f n D sc = some (n, ⟨(stripTo (sc + 1) (bl D)).toArray⟩, (sc : Int)) := by
  have hT : strings_TrimLeft.f D ⟨#[48]⟩ = some ⟨(Lib.trimLeftS (bl D) [48]).toArray⟩ := by
    unfold strings_TrimLeft.f
    rw [if_pos ⟨by decide, by decide⟩]
  have hlt : (Lib.trimLeftS (bl D) [48]).length ≤ (bl D).length := (List.dropWhile_suffix _).length_le
  have hst := strip_eq (sc + 1) (bl D) h (by omega)
  unfold dec_make0.f
  rw [hT, Option.bind_some, sz, bl_mk, w64 ((sc : Int) + 1) (by omega) (by omega), w64 _ (by omega) (by omega)]
  by_cases hc : (Lib.trimLeftS (bl D) [48]).length < sc + 1
  · rw [if_pos hc] at hst
    rw [if_pos (by omega)]
    have hR : strings_Repeat.f ⟨#[48]⟩ ((sc : Int) + 1 - ((Lib.trimLeftS (bl D) [48]).length : Int)) = some ⟨(List.replicate (sc + 1 - (Lib.trimLeftS (bl D) [48]).length) 48).toArray⟩ := by
      unfold strings_Repeat.f
      have e : ((sc : Int) + 1 - ((Lib.trimLeftS (bl D) [48]).length : Int)).toNat = sc + 1 - (Lib.trimLeftS (bl D) [48]).length := by omega
      rw [if_pos ⟨by omega, by omega, by rw [e]; show 1 * _ ≤ _; omega⟩, e]
      rw [show (⟨#[48]⟩ : ByteArray).data.toList = [48] from rfl, repeatL_one]
    rw [hR, Option.bind_some, if_pos (by rw [sz, bl_mk, List.length_replicate]; omega), ← hst]
    congr 3
  · rw [if_neg hc] at hst
    rw [if_neg (by omega), ← hst]
end Go.Proofs.YtgjboghnnhcgiaaGreatDoor.S
namespace Go.Proofs.YtgjboghnnhcgiaaGreatDoor.S
open Go.RowKit Go.Proofs.YtgjboghnnhcgiaaGreatDoor Go.Proofs.YtgjboghnnhcgiaaGreatDoor.G Go.Proofs.YtgjboghnnhcgiaaGreatDoor.U Go.Proofs.YtgjboghnnhcgiaaGreatDoor.R Go.Proofs.YtgjboghnnhcgiaaGreatDoor.PU Go.Proofs.YtgjboghnnhcgiaaGreatDoorW.PrintWords
set_option linter.unusedVariables false
set_option linter.unusedSimpArgs false
def ahead (R : List UInt8) : List UInt8 := R.takeWhile (· != 46)
def behind (R : List UInt8) : List UInt8 := R.dropWhile (· != 46)
theorem dig_ne {c : UInt8} (h : isDig c = true) : (c != 46) = true := by
  rw [bne_iff_ne]
  rintro rfl
  exact absurd h (by decide)
def parseL (R : List UInt8) : Option (List UInt8 × Nat) := match behind R with
  | [] => if R ≠ [] ∧ digs R = true ∧ R.length ≤ 40 then some (R, 0) else none
  | _ :: P => if digs (ahead R) = true ∧ ahead R ≠ [] ∧ P ≠ [] ∧ digs P = true ∧ (ahead R ++ P).length ≤ 40 then some (ahead R ++ P, P.length) else none
def parseV (neg : Bool) (R : List UInt8) : Bool × ByteArray × Int × Bool := match parseL R with
  | none => (false, ⟨#[]⟩, 0, false)
  | some (D, sc) => (neg, ⟨(stripTo (sc + 1) D).toArray⟩, (sc : Int), true)
theorem ahead_behind (R : List UInt8) : R = ahead R ++ behind R := (List.takeWhile_append_dropWhile).symm
theorem behind_head {R P : List UInt8} {z : UInt8} (h : behind R = z :: P) : z = 46 := by
  have := List.head?_dropWhile_not (fun x : UInt8 => x != 46) R
  rw [show R.dropWhile (fun x => x != 46) = z :: P from h] at this
  simpa using this
theorem ahead_not (R : List UInt8) : ∀ c ∈ ahead R, c ≠ 46 := fun c hc => by
  have := List.all_eq_true.1 (List.all_takeWhile (p := fun x : UInt8 => x != 46) (l := R)) c hc
  simpa using this
def negOf (s : ByteArray) : Bool := Lib.hasPrefix (bl s) [45]
def restOf (s : ByteArray) : List UInt8 := Lib.trimPrefix (bl s) [45]
end Go.Proofs.YtgjboghnnhcgiaaGreatDoor.S
namespace Go.Proofs.YtgjboghnnhcgiaaGreatDoor.S
open Go.RowKit Go.Proofs.YtgjboghnnhcgiaaGreatDoor Go.Proofs.YtgjboghnnhcgiaaGreatDoor.G Go.Proofs.YtgjboghnnhcgiaaGreatDoor.U Go.Proofs.YtgjboghnnhcgiaaGreatDoor.R Go.Proofs.YtgjboghnnhcgiaaGreatDoor.PU Go.Proofs.YtgjboghnnhcgiaaGreatDoorW.PrintWords
set_option linter.unusedVariables false
set_option linter.unusedSimpArgs false
theorem occ46 (R : List UInt8) (j : Nat) : Lib.occAt R [46] j = (R[j]? == some 46) := by
  unfold Lib.occAt
  have h : R[j]? = (R.drop j).head? := by rw [List.head?_drop]
  rw [h]
  cases R.drop j with
  | nil => rfl
  | cons c t =>
    show ((46 == c) && List.isPrefixOf [] t) = ((some c : Option UInt8) == some 46)
    by_cases e : c = 46
    · subst e; rfl
    · rw [show ((46 : UInt8) == c) = false by rw [beq_eq_false_iff_ne]; exact fun h => e h.symm]
      rw [show ((some c : Option UInt8) == some 46) = false by rw [beq_eq_false_iff_ne]; exact fun h => e (Option.some.inj h)]
      rfl
theorem cut46 (R : List UInt8) : Lib.cut R [46] = match behind R with | [] => (R, [], false) | _ :: P => (ahead R, P, true) := by
  have hsp := ahead_behind R
  cases hb : behind R with
  | nil =>
    rw [hb, List.append_nil] at hsp
    have hn : Lib.index R [46] = -1 := Lib.index_none fun j hj => by
      rw [occ46, beq_eq_false_iff_ne]
      intro h
      have hm := List.mem_of_getElem? h
      rw [hsp] at hm
      exact ahead_not R 46 hm rfl
    unfold Lib.cut
    rw [hn]
    rfl
  | cons z P =>
    have hz := behind_head hb
    subst hz
    rw [hb] at hsp
    have hne := ahead_not R
    obtain ⟨W, hW⟩ : ∃ W, ahead R = W := ⟨_, rfl⟩
    rw [hW] at hne hsp ⊢
    subst hsp
    have hi : Lib.index (W ++ 46 :: P) [46] = (W.length : Nat) := Lib.index_hit (fun j hj => by
      rw [occ46, beq_eq_false_iff_ne]
      intro h
      rw [List.getElem?_append_left hj] at h
      exact hne 46 (List.mem_of_getElem? h) rfl) (by rw [List.length_append]; omega) (by
      rw [occ46, List.getElem?_append_right (Nat.le_refl _), Nat.sub_self]
      rfl)
    unfold Lib.cut
    rw [hi, if_pos (by omega), Int.toNat_natCast]
    have h2 : (W ++ 46 :: P).drop (W.length + 1) = P := by
      rw [← List.drop_drop, List.drop_left]; rfl
    rw [List.take_left]
    show (W, (W ++ 46 :: P).drop (W.length + 1), true) = (W, P, true)
    rw [h2]
theorem parse_ok (s : ByteArray) (hs : s.size ≤ 200) : dec_Parse.f s = some (parseV (negOf s) (restOf s)) := by
  have hC : strings_CutPrefix.f s ⟨#[45]⟩ = some (⟨(restOf s).toArray⟩, negOf s) := rfl
  have hrl : (restOf s).length ≤ 200 := by
    unfold restOf Lib.trimPrefix
    split
    · rw [List.length_drop, ← sz]; omega
    · rw [← sz]; exact hs
  obtain ⟨R, hR⟩ : ∃ R, restOf s = R := ⟨_, rfl⟩
  obtain ⟨neg, hneg⟩ : ∃ n, negOf s = n := ⟨_, rfl⟩
  rw [hR] at hC hrl ⊢
  rw [hneg] at hC ⊢
  have hcut := cut46 R
  have hsp := ahead_behind R
  have hD : ∀ l : List UInt8, l.length ≤ 200 → dec_isDigits.f ⟨l.toArray⟩ = some (!l.isEmpty && digs l) := fun l hl => isDigits_ok ⟨l.toArray⟩ (by rw [sz]; exact Nat.le_trans hl (by omega))
  unfold dec_Parse.f
  rw [hC, Option.bind_some]
  have hK : strings_Cut.f ⟨R.toArray⟩ ⟨#[46]⟩ = some (⟨(Lib.cut R [46]).1.toArray⟩, ⟨(Lib.cut R [46]).2.1.toArray⟩, (Lib.cut R [46]).2.2) := by
    unfold strings_Cut.f
    rw [if_pos (by rw [sz]; show R.length < _; omega)]
  rw [hK, Option.bind_some, hcut]
  unfold parseV parseL
  cases hb : behind R with
  | nil =>
    dsimp only
    rw [hD R (by omega), Option.bind_some]
    by_cases hq : (!R.isEmpty && digs R) = true
    · have hq2 : R ≠ [] ∧ digs R = true := by simpa using hq
      have hl0 := List.length_pos_iff.2 hq2.1
      have z1 : (⟨R.toArray⟩ : ByteArray).size = R.length := sz _
      have z2 : (⟨([] : List UInt8).toArray⟩ : ByteArray).size = 0 := rfl
      rw [if_pos hq, if_neg (by decide), z1, z2, w64 _ (by omega) (by omega)]
      by_cases h40 : R.length ≤ 40
      · rw [if_neg (by omega), if_pos (by omega), if_pos (show R ≠ [] ∧ digs R = true ∧ R.length ≤ 40 from ⟨hq2.1, hq2.2, h40⟩)]
        have e : (⟨R.toArray⟩ : ByteArray) ++ ⟨([] : List UInt8).toArray⟩ = ⟨R.toArray⟩ := ba_ext (by rw [bl_app]; simp)
        have hm := make0_ok neg ⟨R.toArray⟩ 0 (by show 0 + 1 ≤ R.length; omega) (by show R.length ≤ _; omega)
        rw [e, show ((0 : Nat) : Int) = (0 : Nat) from rfl, hm, Option.bind_some]
      · rw [if_pos (by omega), if_neg (fun h => h40 h.2.2)]
    · rw [if_neg hq, if_neg (fun h => hq (by simp [h.1, h.2.1]))]
  | cons z P =>
    dsimp only
    have hz := behind_head hb
    subst hz
    rw [hb] at hsp
    have hlen : R.length = (ahead R).length + 1 + P.length := by
      have := congrArg List.length hsp
      rw [List.length_append, List.length_cons] at this
      omega
    obtain ⟨W, hW⟩ : ∃ W, ahead R = W := ⟨_, rfl⟩
    rw [hW] at hlen ⊢
    rw [hD W (by omega), Option.bind_some]
    by_cases hq : (!W.isEmpty && digs W) = true
    · have hq2 : W ≠ [] ∧ digs W = true := by simpa using hq
      have hl0 := List.length_pos_iff.2 hq2.1
      rw [if_pos hq, if_pos rfl, hD P (by omega), Option.bind_some]
      by_cases hp : (!P.isEmpty && digs P) = true
      · have hp2 : P ≠ [] ∧ digs P = true := by simpa using hp
        have hp0 := List.length_pos_iff.2 hp2.1
        have z1 : (⟨W.toArray⟩ : ByteArray).size = W.length := sz _
        have z2 : (⟨P.toArray⟩ : ByteArray).size = P.length := sz _
        rw [if_pos hp, z1, z2, w64 _ (by omega) (by omega)]
        by_cases h40 : (W ++ P).length ≤ 40
        · have h41 := h40
          rw [List.length_append] at h41
          rw [if_neg (by omega), if_pos (by omega), if_pos (show digs W = true ∧ W ≠ [] ∧ P ≠ [] ∧ digs P = true ∧ (W ++ P).length ≤ 40 from ⟨hq2.2, hq2.1, hp2.1, hp2.2, h40⟩)]
          have e : (⟨W.toArray⟩ : ByteArray) ++ ⟨P.toArray⟩ = ⟨(W ++ P).toArray⟩ := ba_ext (by rw [bl_app])
          have hm := make0_ok neg ⟨(W ++ P).toArray⟩ P.length (by show _ ≤ (W ++ P).length; rw [List.length_append]; omega) (by show (W ++ P).length ≤ _; omega)
          rw [e, hm, Option.bind_some]
        · have h41 := h40
          rw [List.length_append] at h41
          rw [if_pos (by omega), if_neg (fun h => h40 h.2.2.2.2)]
      · rw [if_neg hp, if_neg (fun h => hp (by simp [h.2.2.1, h.2.2.2.1]))]
    · rw [if_neg hq, if_neg (fun h => hq (by simp [h.1, h.2.1]))]
structure NumOk (N : List UInt8) (sc : Nat) : Prop where
  dig : digs N = true
  len : sc + 1 ≤ N.length
  max : N.length ≤ 100
  norm : N.length = sc + 1 ∨ N.head? ≠ some 48
theorem whole_ok (neg : Bool) (N : List UInt8) (sc : Nat) (h : sc + 1 ≤ N.length) (hm : N.length ≤ 1000) : dec_Dec_Whole.f neg ⟨N.toArray⟩ sc = some ⟨(N.take (N.length - sc)).toArray⟩ := by
  unfold dec_Dec_Whole.f
  have hz : (⟨N.toArray⟩ : ByteArray).size = N.length := sz _
  rw [hz, w64 _ (by omega) (by omega), if_pos (by omega), if_pos (by omega)]
  refine congrArg some (ba_ext ?_)
  rw [bl_ext, show ((N.length : Int) - (sc : Int)).toNat = N.length - sc by omega]
  rfl
theorem part_ok (neg : Bool) (N : List UInt8) (sc : Nat) (h : sc + 1 ≤ N.length) (hm : N.length ≤ 1000) : dec_Dec_Part.f neg ⟨N.toArray⟩ sc = some ⟨(N.drop (N.length - sc)).toArray⟩ := by
  unfold dec_Dec_Part.f
  have hz : (⟨N.toArray⟩ : ByteArray).size = N.length := sz _
  rw [hz, w64 _ (by omega) (by omega), if_pos (by omega), if_pos (by omega)]
  refine congrArg some (ba_ext ?_)
  rw [bl_ext, show ((N.length : Int) - (sc : Int)).toNat = N.length - sc by omega, bl_mk, bl_mk, List.take_of_length_le (by rw [List.length_drop]; omega)]
theorem string_ok (neg : Bool) (N : List UInt8) (sc : Nat) (h : sc + 1 ≤ N.length) (hm : N.length ≤ 1000) :
    dec_Dec_String.f neg ⟨N.toArray⟩ sc = some ⟨((if neg = true then [45] else []) ++ (N.take (N.length - sc) ++ if 0 < sc then 46 :: N.drop (N.length - sc) else [])).toArray⟩ := by
  unfold dec_Dec_String.f
  rw [whole_ok neg N sc h hm, Option.bind_some]
  have z1 : (⟨(N.take (N.length - sc)).toArray⟩ : ByteArray).size ≤ 1000 := by rw [sz, bl_mk, List.length_take]; omega
  have z2 : (⟨(N.drop (N.length - sc)).toArray⟩ : ByteArray).size ≤ 1000 := by rw [sz, bl_mk, List.length_drop]; omega
  have z3 : (⟨#[46]⟩ : ByteArray).size = 1 := rfl
  by_cases h0 : 0 < sc
  · rw [if_pos (by omega), part_ok neg N sc h hm, Option.bind_some, if_pos (by omega), if_pos (by rw [sz_app, z3]; omega), if_pos h0]
    cases neg with
    | true =>
      rw [if_pos rfl, if_pos (by rw [sz_app, sz_app, z3]; omega), if_pos rfl]
      refine congrArg some (ba_ext ?_)
      rw [bl_app, bl_app, bl_app]
      rfl
    | false =>
      rw [if_neg (by decide), if_neg (by decide)]
      refine congrArg some (ba_ext ?_)
      rw [bl_app, bl_app]
      rfl
  · rw [if_neg (by omega), if_neg h0]
    cases neg with
    | true =>
      rw [if_pos rfl, if_pos (by omega), if_pos rfl]
      refine congrArg some (ba_ext ?_)
      rw [bl_app, bl_mk, bl_mk, List.append_nil]
      try rfl
    | false =>
      rw [if_neg (by decide), if_neg (by decide)]
      refine congrArg some (ba_ext ?_)
      rw [bl_mk, bl_mk, List.append_nil]
      try rfl
end Go.Proofs.YtgjboghnnhcgiaaGreatDoor.S
namespace Go.Proofs.YtgjboghnnhcgiaaGreatDoor.S
open Go.RowKit Go.Proofs.YtgjboghnnhcgiaaGreatDoor Go.Proofs.YtgjboghnnhcgiaaGreatDoor.G Go.Proofs.YtgjboghnnhcgiaaGreatDoor.U Go.Proofs.YtgjboghnnhcgiaaGreatDoor.R Go.Proofs.YtgjboghnnhcgiaaGreatDoor.PU Go.Proofs.YtgjboghnnhcgiaaGreatDoorW.PrintWords Go.Proofs.YtgjboghnnhcgiaaGreatDoorW.PrintMore
set_option linter.unusedVariables false
set_option linter.unusedSimpArgs false
def dv (c : UInt8) : Nat := c.toNat - 48
def val (l : List UInt8) : Nat := l.foldl (fun n c => n * 10 + dv c) 0
theorem val_fold : ∀ (l : List UInt8) (n : Nat), l.foldl (fun n c => n * 10 + dv c) n = n * 10 ^ l.length + val l
  | [], n => by simp [val]
  | c :: t, n => by
    show t.foldl (fun n c => n * 10 + dv c) (n * 10 + dv c) = n * 10 ^ (t.length + 1) + t.foldl (fun n c => n * 10 + dv c) (0 * 10 + dv c)
    rw [val_fold t, val_fold t (0 * 10 + dv c), Nat.pow_succ, Nat.add_mul, Nat.add_mul, Nat.mul_assoc, Nat.mul_comm 10, Nat.zero_mul, Nat.zero_add, Nat.add_assoc]
theorem val_cons (c : UInt8) (t : List UInt8) : val (c :: t) = dv c * 10 ^ t.length + val t := by
  show t.foldl (fun n c => n * 10 + dv c) (0 * 10 + dv c) = _
  rw [val_fold, Nat.zero_mul, Nat.zero_add]
theorem val_app (a b : List UInt8) : val (a ++ b) = val a * 10 ^ b.length + val b := by
  show (a ++ b).foldl _ 0 = _
  rw [List.foldl_append, val_fold]
  rfl
theorem dig_le {c : UInt8} (h : isDig c = true) : 48 ≤ c.toNat ∧ c.toNat ≤ 57 := by simpa [isDig] using h
theorem digs_cons {c : UInt8} {t : List UInt8} (h : digs (c :: t) = true) : isDig c = true ∧ digs t = true := by simpa [digs] using h
theorem digs_app {a b : List UInt8} : digs (a ++ b) = (digs a && digs b) := List.all_append
theorem digs_of {a : List UInt8} (h : ∀ c ∈ a, isDig c = true) : digs a = true := List.all_eq_true.2 h
theorem digs_at {a : List UInt8} (h : digs a = true) : ∀ c ∈ a, isDig c = true := List.all_eq_true.1 h
theorem digs_rep (n : Nat) : digs (List.replicate n 48) = true := digs_of fun c hc => by rw [List.eq_of_mem_replicate hc]; rfl
theorem val_lt : ∀ {l : List UInt8}, digs l = true → val l < 10 ^ l.length
  | [], _ => by simp [val]
  | c :: t, h => by
    obtain ⟨hc, ht⟩ := digs_cons h
    have ih := val_lt ht
    have hd := dig_le hc
    have h9 : dv c * 10 ^ t.length ≤ 9 * 10 ^ t.length := Nat.mul_le_mul_right _ (by unfold dv; omega)
    rw [val_cons, List.length_cons, Nat.pow_succ]
    omega
theorem val_rep : ∀ n, val (List.replicate n 48) = 0
  | 0 => rfl
  | n + 1 => by rw [List.replicate_succ, val_cons, val_rep n, show dv 48 = 0 from rfl, Nat.zero_mul]
theorem two (P a b x y : Nat) (hx : x < P) (hy : y < P) : (a * P + x < b * P + y ↔ a < b ∨ a = b ∧ x < y) ∧ (a * P + x = b * P + y ↔ a = b ∧ x = y) := by
  rcases Nat.lt_trichotomy a b with h | h | h
  · have := Nat.mul_le_mul_right P (show a + 1 ≤ b from h)
    rw [Nat.add_mul] at this
    omega
  · subst h; omega
  · have := Nat.mul_le_mul_right P (show b + 1 ≤ a from h)
    rw [Nat.add_mul] at this
    omega
def sgn (a b : Nat) : Int := if a < b then -1 else if a = b then 0 else 1
theorem less_val : ∀ {x y : List UInt8}, digs x = true → digs y = true → x.length = y.length → (Op.bytesLess x y = true ↔ val x < val y) ∧ (x = y ↔ val x = val y)
  | [], [], _, _, _ => by simp [Op.bytesLess]
  | [], _ :: _, _, _, h => by simp at h
  | _ :: _, [], _, _, h => by simp at h
  | a :: x, b :: y, hx, hy, hl => by
    obtain ⟨ha, hx⟩ := digs_cons hx
    obtain ⟨hb, hy⟩ := digs_cons hy
    have hl : x.length = y.length := by simpa using hl
    obtain ⟨ih1, ih2⟩ := less_val hx hy hl
    have hxl := val_lt hx
    have hyl := val_lt hy
    rw [← hl] at hyl
    have h2 := two (10 ^ x.length) (dv a) (dv b) (val x) (val y) hxl hyl
    have hda := dig_le ha
    have hdb := dig_le hb
    have he : a = b ↔ dv a = dv b := by
      rw [← UInt8.toNat_inj]; unfold dv; omega
    have hlt : a < b ↔ dv a < dv b := by
      rw [UInt8.lt_iff_toNat_lt]; unfold dv; omega
    rw [val_cons, val_cons, ← hl, h2.1, h2.2]
    constructor
    · show (decide (a < b) || (a == b && Op.bytesLess x y)) = true ↔ _
      rw [Bool.or_eq_true, Bool.and_eq_true, decide_eq_true_iff, beq_iff_eq, hlt, he, ih1]
    · rw [List.cons.injEq, he, ih2]
theorem cmpS_val {x y : List UInt8} (hx : digs x = true) (hy : digs y = true) (hl : x.length = y.length) : cmpS x y = sgn (val x) (val y) := by
  obtain ⟨h1, h2⟩ := less_val hx hy hl
  unfold cmpS sgn
  by_cases h : val x < val y
  · rw [if_pos (h1.2 h), if_pos h]
  · rw [if_neg (fun hh => h (h1.1 hh)), if_neg h]
    by_cases e : val x = val y
    · rw [if_pos (by rw [beq_iff_eq]; exact h2.2 e), if_pos e]
    · rw [if_neg (by rw [beq_iff_eq]; exact fun hh => e (h2.1 hh)), if_neg e]
theorem dwn {p : UInt8 → Bool} : ∀ {l : List UInt8}, l.dropWhile p = [] ↔ ∀ c ∈ l, p c = true
  | [] => by simp
  | c :: t => by
    rw [List.dropWhile_cons]
    by_cases h : p c = true
    · rw [if_pos h, dwn]; simp [h]
    · rw [if_neg h]; simp [h]
theorem dw_head {p : UInt8 → Bool} : ∀ {l : List UInt8} {c : UInt8} {t : List UInt8}, l.dropWhile p = c :: t → p c = false
  | [], _, _, h => by simp at h
  | a :: l, c, t, h => by
    rw [List.dropWhile_cons] at h
    by_cases hp : p a = true
    · rw [if_pos hp] at h; exact dw_head h
    · rw [if_neg hp] at h
      obtain ⟨rfl, _⟩ := List.cons.inj h
      simpa using hp
theorem trim_val (l : List UInt8) : val (Lib.trimLeftS l [48]) = val l := by
  have h := dw48 l
  have : val l = val (List.replicate (l.length - (Lib.trimLeftS l [48]).length) 48 ++ Lib.trimLeftS l [48]) := congrArg val h
  rw [this, val_app, val_rep, Nat.zero_mul, Nat.zero_add]
theorem trim_digs {l : List UInt8} (h : digs l = true) : digs (Lib.trimLeftS l [48]) = true :=
  digs_of fun c hc => digs_at h c ((List.dropWhile_suffix _).subset hc)
theorem trim_low {l : List UInt8} (h : digs l = true) (h0 : 0 < (Lib.trimLeftS l [48]).length) : 10 ^ ((Lib.trimLeftS l [48]).length - 1) ≤ val (Lib.trimLeftS l [48]) := by
  cases hT : Lib.trimLeftS l [48] with
  | nil => rw [hT] at h0; simp at h0
  | cons c t =>
    have hd := trim_digs h
    rw [hT] at hd
    have hc := dig_le (digs_cons hd).1
    have hne := dw_head hT
    have hn : c ≠ 48 := by intro e; rw [e] at hne; exact absurd hne (by decide)
    have hn2 : c.toNat ≠ 48 := fun e => hn (UInt8.toNat_inj.1 e)
    have h1 : 1 * 10 ^ t.length ≤ dv c * 10 ^ t.length := Nat.mul_le_mul_right _ (by unfold dv; omega)
    rw [val_cons, List.length_cons, Nat.add_sub_cancel]
    omega
theorem strip_cmp {x y : List UInt8} (hx : digs x = true) (hy : digs y = true) :
    (if Lib.compareInt ((Lib.trimLeftS x [48]).length : Int) ((Lib.trimLeftS y [48]).length : Int) = 0 then cmpS (Lib.trimLeftS x [48]) (Lib.trimLeftS y [48]) else Lib.compareInt ((Lib.trimLeftS x [48]).length : Int) ((Lib.trimLeftS y [48]).length : Int)) = sgn (val x) (val y) := by
  have dx := trim_digs hx
  have dy := trim_digs hy
  have lx := trim_low hx
  have ly := trim_low hy
  rw [← trim_val x, ← trim_val y]
  generalize Lib.trimLeftS x [48] = X at *
  generalize Lib.trimLeftS y [48] = Y at *
  have ux := val_lt dx
  have uy := val_lt dy
  rcases Nat.lt_trichotomy X.length Y.length with h | h | h
  · have hc : Lib.compareInt (X.length : Int) (Y.length : Int) = -1 := by unfold Lib.compareInt; rw [if_pos (by omega)]
    rw [hc, if_neg (by decide)]
    have h2 := Nat.pow_le_pow_right (show 0 < 10 by decide) (show X.length ≤ Y.length - 1 by omega)
    have h3 := ly (by omega)
    unfold sgn
    rw [if_pos (by omega)]
  · have hc : Lib.compareInt (X.length : Int) (Y.length : Int) = 0 := by unfold Lib.compareInt; rw [if_neg (by omega), if_neg (by omega)]
    rw [hc, if_pos rfl]
    exact cmpS_val dx dy h
  · have hc : Lib.compareInt (X.length : Int) (Y.length : Int) = 1 := by unfold Lib.compareInt; rw [if_neg (by omega), if_pos (by omega)]
    rw [hc, if_neg (by decide)]
    have h2 := Nat.pow_le_pow_right (show 0 < 10 by decide) (show Y.length ≤ X.length - 1 by omega)
    have h3 := lx (by omega)
    unfold sgn
    rw [if_neg (by omega), if_neg (by omega)]
theorem or2 (k : Nat) (a b : Int) : cmp_Or_int.f (k + 3) [a, b] = some (if a = 0 then b else a) := by
  unfold cmp_Or_int.f
  show cmp_Or_int.l0 (k + 3) 0 [a, b] 2 0 = _
  rw [cmp_Or_int.l0, if_pos (by decide), if_pos (by decide), if_pos (by show (0 : Int) < 2; decide), show rd [a, b] 0 = a from rfl]
  by_cases ha : a = 0
  · rw [if_pos ha, if_pos ha, show wrap64 (0 + 1) = 1 from w64 _ (by decide) (by decide), cmp_Or_int.l0, if_pos (by decide), if_pos (by decide), if_pos (by show (1 : Int) < 2; decide), show rd [a, b] 1 = b from rfl]
    by_cases hb : b = 0
    · rw [if_pos hb, show wrap64 (1 + 1) = 2 from w64 _ (by decide) (by decide), cmp_Or_int.l0, if_neg (by decide), hb]
    · rw [if_neg hb]
  · rw [if_neg ha, if_neg ha]
structure Num (D : List UInt8) (sc : Nat) : Prop where
  dig : digs D = true
  lt : sc < D.length
  max : D.length ≤ 150
def V (D : List UInt8) (sc : Nat) : Nat := val D * 10 ^ (200 - sc)
theorem sgn_mul (a b c : Nat) (hc : 0 < c) : sgn (a * c) (b * c) = sgn a b := by
  unfold sgn
  rcases Nat.lt_trichotomy a b with h | h | h
  · have := Nat.mul_lt_mul_of_pos_right h hc
    rw [if_pos this, if_pos h]
  · subst h; rw [if_neg (by omega), if_pos rfl, if_neg (by omega), if_pos rfl]
  · have := Nat.mul_lt_mul_of_pos_right h hc
    rw [if_neg (by omega), if_neg (by omega), if_neg (by omega), if_neg (by omega)]
theorem rep_ok (m : Nat) (h : m ≤ 1000) : strings_Repeat.f ⟨#[48]⟩ (m : Int) = some ⟨(List.replicate m 48).toArray⟩ := by
  unfold strings_Repeat.f
  rw [if_pos ⟨by omega, by omega, by rw [Int.toNat_natCast]; show 1 * _ ≤ _; omega⟩, Int.toNat_natCast]
  rw [show (⟨#[48]⟩ : ByteArray).data.toList = [48] from rfl, repeatL_one]
theorem tl_ok (s : ByteArray) : strings_TrimLeft.f s ⟨#[48]⟩ = some ⟨(Lib.trimLeftS (bl s) [48]).toArray⟩ := by
  unfold strings_TrimLeft.f
  rw [if_pos ⟨by decide, by decide⟩]
theorem size_ok (k : Nat) (na nb : Bool) {A B : List UInt8} {sa sb : Nat} (ha : Num A sa) (hb : Num B sb) :
    dec_Dec_size.f (k + 3) na ⟨A.toArray⟩ (sa : Int) nb ⟨B.toArray⟩ (sb : Int) = some (sgn (V A sa) (V B sb)) := by
  obtain ⟨n, hn⟩ : ∃ n : Nat, mx (sa : Int) (sb : Int) = (n : Int) ∧ sa ≤ n ∧ sb ≤ n ∧ n ≤ 150 := by
    have h1 := ha.lt; have h2 := ha.max; have h3 := hb.lt; have h4 := hb.max
    unfold mx
    by_cases h : sa < sb
    · exact ⟨sb, by rw [if_pos (by omega)], by omega, by omega, by omega⟩
    · exact ⟨sa, by rw [if_neg (by omega)], by omega, by omega, by omega⟩
  have h2 := ha.max
  have h4 := hb.max
  have hza : (⟨A.toArray⟩ : ByteArray).size = A.length := sz _
  have hzb : (⟨B.toArray⟩ : ByteArray).size = B.length := sz _
  have zr : ∀ m, (⟨(List.replicate m 48).toArray⟩ : ByteArray).size = m := fun m => by rw [sz, bl_mk, List.length_replicate]
  unfold dec_Dec_size.f
  rw [hn.1, w64 _ (by omega) (by omega), w64 _ (by omega) (by omega), show (n : Int) - (sa : Int) = ((n - sa : Nat) : Int) by omega, show (n : Int) - (sb : Int) = ((n - sb : Nat) : Int) by omega]
  rw [rep_ok _ (by omega), Option.bind_some, if_pos (by rw [hza, zr]; omega), rep_ok _ (by omega), Option.bind_some, if_pos (by rw [hzb, zr]; omega), tl_ok, Option.bind_some, tl_ok, Option.bind_some]
  unfold cmp_Compare_int.f cmp_Compare_string.f
  rw [Option.bind_some, Option.bind_some, or2, Option.bind_some]
  simp only [sz, tl, bl_app, bl_mk]
  have da : digs (A ++ List.replicate (n - sa) 48) = true := by rw [digs_app, ha.dig, digs_rep]; rfl
  have db : digs (B ++ List.replicate (n - sb) 48) = true := by rw [digs_app, hb.dig, digs_rep]; rfl
  rw [strip_cmp da db, val_app, val_app, val_rep, val_rep, List.length_replicate, List.length_replicate, Nat.add_zero, Nat.add_zero, ← sgn_mul _ _ (10 ^ (200 - n)) (Nat.pow_pos (by decide)), Nat.mul_assoc, Nat.mul_assoc, ← Nat.pow_add, ← Nat.pow_add, show n - sa + (200 - n) = 200 - sa by omega, show n - sb + (200 - n) = 200 - sb by omega]
  rfl
theorem val_zero : ∀ {l : List UInt8}, digs l = true → (val l = 0 ↔ ∀ c ∈ l, c = 48)
  | [], _ => by simp [val]
  | c :: t, h => by
    obtain ⟨hc, ht⟩ := digs_cons h
    have ih := val_zero ht
    have hp : 0 < 10 ^ t.length := Nat.pow_pos (by decide)
    have hd := dig_le hc
    have he : c = 48 ↔ dv c = 0 := by
      rw [← UInt8.toNat_inj]; unfold dv; show c.toNat = 48 ↔ _; omega
    rw [val_cons, Nat.add_eq_zero_iff, Nat.mul_eq_zero, ih, List.forall_mem_cons, he]
    constructor
    · rintro ⟨h1 | h1, h2⟩
      · exact ⟨h1, h2⟩
      · omega
    · rintro ⟨h1, h2⟩; exact ⟨Or.inl h1, h2⟩
theorem trimS_nil (l : List UInt8) : Lib.trimS l [48] = [] ↔ ∀ c ∈ l, c = 48 := by
  have hc : ∀ c : UInt8, ([48] : List UInt8).contains c = true ↔ c = 48 := fun c => by simp
  unfold Lib.trimS Lib.trimLeftS Lib.trimRightS
  rw [dwn]
  constructor
  · intro h
    cases hR : l.reverse.dropWhile fun x => ([48] : List UInt8).contains x with
    | nil =>
      intro c hcm
      exact (hc c).1 (dwn.1 hR c (List.mem_reverse.2 hcm))
    | cons a t =>
      have h1 := dw_head hR
      rw [hR] at h
      have h2 := h a (by simp)
      rw [h1] at h2
      cases h2
  · intro h c hcm
    have hcm2 := (List.dropWhile_suffix _).subset (List.mem_reverse.1 hcm)
    exact (hc c).2 (h c (List.mem_reverse.1 hcm2))
theorem zero_ok (n : Bool) {A : List UInt8} {sa : Nat} (ha : Num A sa) (s : Int) : dec_Dec_Zero.f n ⟨A.toArray⟩ s = some (decide (V A sa = 0)) := by
  have hza : (⟨A.toArray⟩ : ByteArray).size = A.length := sz _
  have h2 := ha.max
  have hp : 0 < 10 ^ (200 - sa) := Nat.pow_pos (by decide)
  unfold dec_Dec_Zero.f strings_Trim.f
  rw [if_pos ⟨by omega, by decide, by decide⟩, Option.bind_some, tl]
  refine congrArg some ?_
  show (Lib.trimS A [48] == []) = _
  rw [Bool.eq_iff_iff, beq_iff_eq, trimS_nil, ← val_zero ha.dig, decide_eq_true_iff]
  unfold V
  rw [Nat.mul_eq_zero]
  constructor
  · exact Or.inl
  · rintro (h | h)
    · exact h
    · omega
def S (neg : Bool) (v : Nat) : Int := if neg = true then -(v : Int) else v
def isg (x y : Int) : Int := if x < y then -1 else if x = y then 0 else 1
theorem sgn_or (a b : Nat) : sgn a b = -1 ∨ sgn a b = 0 ∨ sgn a b = 1 := by
  unfold sgn
  split
  · exact Or.inl rfl
  · split
    · exact Or.inr (Or.inl rfl)
    · exact Or.inr (Or.inr rfl)
theorem j0_ok (k : Nat) (x y na nb : Bool) {A B : List UInt8} {sa sb : Nat} (ha : Num A sa) (hb : Num B sb) :
    dec_Dec_Compare.j0 (k + 6) x y na ⟨A.toArray⟩ (sa : Int) nb ⟨B.toArray⟩ (sb : Int) = some (if x = true ∧ y = false then -1 else if y = true ∧ x = false then 1 else if x = true then -sgn (V A sa) (V B sb) else sgn (V A sa) (V B sb)) := by
  have hS := size_ok k na nb ha hb
  have hw : wrap64 (-sgn (V A sa) (V B sb)) = -sgn (V A sa) (V B sb) := w64 _ (by rcases sgn_or (V A sa) (V B sb) with h | h | h <;> rw [h] <;> decide) (by rcases sgn_or (V A sa) (V B sb) with h | h | h <;> rw [h] <;> decide)
  rw [dec_Dec_Compare.j0]
  cases x <;> cases y <;> simp only [dec_Dec_Compare.j1, dec_Dec_Compare.j2, hS, hw, Bool.not_true, Bool.not_false, Bool.false_eq_true, if_true, if_false, and_self, and_true, and_false, true_and, false_and, reduceCtorEq, Option.bind_some]
theorem compare_ok (k : Nat) (na nb : Bool) {A B : List UInt8} {sa sb : Nat} (ha : Num A sa) (hb : Num B sb) :
    dec_Dec_Compare.f (k + 6) na ⟨A.toArray⟩ (sa : Int) nb ⟨B.toArray⟩ (sb : Int) = some (isg (S na (V A sa)) (S nb (V B sb))) := by
  have za := zero_ok na ha (sa : Int)
  have zb := zero_ok nb hb (sb : Int)
  have hj := fun x y => j0_ok k x y na nb ha hb
  unfold dec_Dec_Compare.f
  rw [za, zb]
  simp only [Option.bind_some, hj]
  generalize V A sa = a
  generalize V B sb = b
  unfold isg S sgn
  cases na <;> cases nb <;> by_cases h1 : a = 0 <;> by_cases h2 : b = 0 <;> simp [h1, h2] <;> (try split) <;> (try split) <;> (try split) <;> (try split) <;> (try omega)
theorem right_loop (n : Bool) (A : List UInt8) (sc : Int) (hA : A.length ≤ 60) (h0 : 0 < A.length) : ∀ (d i : Nat), A.length - i ≤ d → i ≤ A.length → (∀ c ∈ A.take i, isDig c = true) →
    ∃ b, polyglotlaw02_Right.l0 (d + 1) (i : Int) n ⟨A.toArray⟩ sc = some b ∧ (b = true → digs A = true) := by
  have hz : (⟨A.toArray⟩ : ByteArray).size = A.length := sz _
  have fin : ∀ (i k : Nat), A.length ≤ i → i ≤ A.length → (∀ c ∈ A.take i, isDig c = true) → ∃ b, polyglotlaw02_Right.l0 (k + 1) (i : Int) n ⟨A.toArray⟩ sc = some b ∧ (b = true → digs A = true) := by
    intro i k h1 h2 h3
    have hd : digs A = true := digs_of (by rw [List.take_of_length_le h1] at h3; exact h3)
    rw [polyglotlaw02_Right.l0, hz, if_neg (by omega), if_pos (by omega)]
    split
    · exact ⟨_, rfl, fun _ => hd⟩
    · exact ⟨_, rfl, fun _ => hd⟩
  intro d
  induction d with
  | zero => intro i h1 h2 h3; exact fin i 0 (by omega) h2 h3
  | succ d ih =>
    intro i h1 h2 h3
    by_cases hi : i < A.length
    · have hc : (bl ⟨A.toArray⟩)[i]? = some A[i] := List.getElem?_eq_getElem hi
      rw [polyglotlaw02_Right.l0, hz, if_pos (by omega), if_pos (by omega), bt_nat _ i _ hc, digit_f, Option.bind_some]
      by_cases hg : isDig A[i] = true
      · rw [if_pos hg, w64 _ (by omega) (by omega), show (i : Int) + 1 = ((i + 1 : Nat) : Int) by omega]
        refine ih (i + 1) (by omega) (by omega) ?_
        intro c hcm
        rw [List.take_add_one, List.mem_append] at hcm
        rcases hcm with h | h
        · exact h3 c h
        · rw [List.getElem?_eq_getElem hi] at h
          have : c = A[i] := by simpa using h
          rw [this]; exact hg
      · rw [if_neg hg]
        exact ⟨false, rfl, fun h => by cases h⟩
    · exact fin i (d + 1) (by omega) h2 h3
theorem right_any (n : Bool) (A : List UInt8) (sc : Int) (k : Nat) (hk : 100 ≤ k) : ∃ b, polyglotlaw02_Right.f k n ⟨A.toArray⟩ sc = some b ∧ (b = true → ∃ s : Nat, sc = s ∧ Num A s ∧ A.length ≤ 60) := by
  have hz : (⟨A.toArray⟩ : ByteArray).size = A.length := sz _
  obtain ⟨j, rfl⟩ : ∃ j, k = j + 61 + 1 := ⟨k - 62, by omega⟩
  have hj : ∀ x, polyglotlaw02_Right.j0 (j + 61 + 1) true n ⟨A.toArray⟩ x = some false := fun x => by rw [polyglotlaw02_Right.j0, if_pos rfl]
  unfold polyglotlaw02_Right.f
  rw [hz]
  by_cases h1 : sc < 0
  · rw [if_pos h1, hj]; exact ⟨false, rfl, fun h => by cases h⟩
  rw [if_neg h1]
  by_cases h2 : sc ≥ A.length
  · rw [if_pos h2, hj]; exact ⟨false, rfl, fun h => by cases h⟩
  rw [if_neg h2]
  by_cases h3 : A.length > 60
  · rw [show decide ((A.length : Int) > 60) = true from decide_eq_true (by omega), hj]; exact ⟨false, rfl, fun h => by cases h⟩
  rw [show decide ((A.length : Int) > 60) = false from decide_eq_false (by omega), polyglotlaw02_Right.j0, if_neg (by decide)]
  obtain ⟨b, hb, hd⟩ := right_loop n A sc (by omega) (by omega) (j + 60) 0 (by omega) (by omega) (by simp)
  exact ⟨b, hb, fun h => ⟨sc.toNat, by omega, ⟨hd h, by omega, by omega⟩, by omega⟩⟩
theorem strip_val (m : Nat) : ∀ L, val (stripTo m L) = val L
  | [] => rfl
  | c :: t => by
    unfold stripTo
    split
    · rename_i h
      rw [strip_val m t, val_cons, h.2, show dv 48 = 0 from rfl, Nat.zero_mul, Nat.zero_add]
    · rfl
def q (v u : Nat) : Nat := if u < 2 * (v % u) ∨ 2 * (v % u) = u ∧ v / u % 2 = 1 then v / u + 1 else v / u
end Go.Proofs.YtgjboghnnhcgiaaGreatDoor.S
namespace Go.Proofs.YtgjboghnnhcgiaaGreatDoor.S
open Go.RowKit Go.Proofs.YtgjboghnnhcgiaaGreatDoor Go.Proofs.YtgjboghnnhcgiaaGreatDoor.G Go.Proofs.YtgjboghnnhcgiaaGreatDoor.U Go.Proofs.YtgjboghnnhcgiaaGreatDoor.R Go.Proofs.YtgjboghnnhcgiaaGreatDoor.PU Go.Proofs.YtgjboghnnhcgiaaGreatDoorW.PrintWords
set_option linter.unusedVariables false
set_option linter.unusedSimpArgs false
theorem parseL_num {N : List UInt8} {sc : Nat} (h : Num N sc) (h40 : N.length ≤ 40) : parseL (N.take (N.length - sc) ++ if 0 < sc then 46 :: N.drop (N.length - sc) else []) = some (N, sc) := by
  have hl := h.lt
  have hall : ∀ c ∈ N, isDig c = true := List.all_eq_true.1 h.dig
  have hW : digs (N.take (N.length - sc)) = true := List.all_eq_true.2 fun c hc => hall c (List.mem_of_mem_take hc)
  have hP : digs (N.drop (N.length - sc)) = true := List.all_eq_true.2 fun c hc => hall c (List.mem_of_mem_drop hc)
  have hWne : ∀ c ∈ N.take (N.length - sc), (c != 46) = true := fun c hc => dig_ne (hall c (List.mem_of_mem_take hc))
  have hW0 : N.take (N.length - sc) ≠ [] := by
    intro he
    have := congrArg List.length he
    rw [List.length_take] at this
    simp at this
    omega
  by_cases h0 : 0 < sc
  · rw [if_pos h0]
    have hbh : behind (N.take (N.length - sc) ++ 46 :: N.drop (N.length - sc)) = 46 :: N.drop (N.length - sc) := by
      unfold behind
      rw [List.dropWhile_append_of_pos hWne, List.dropWhile_cons, if_neg (by decide)]
    have hah : ahead (N.take (N.length - sc) ++ 46 :: N.drop (N.length - sc)) = N.take (N.length - sc) := by
      unfold ahead
      rw [List.takeWhile_append_of_pos hWne, List.takeWhile_cons, if_neg (by decide), List.append_nil]
    have hP0 : N.drop (N.length - sc) ≠ [] := by
      intro he
      have := congrArg List.length he
      rw [List.length_drop] at this
      simp at this
      omega
    unfold parseL
    rw [hbh, hah]
    dsimp only
    rw [List.take_append_drop, if_pos ⟨hW, hW0, hP0, hP, h40⟩, List.length_drop]
    congr 2
    omega
  · obtain rfl : sc = 0 := by omega
    rw [if_neg h0, List.append_nil, Nat.sub_zero, List.take_length]
    have hbh : behind N = [] := by
      unfold behind
      exact dw_nil.2 fun c hc => dig_ne (hall c hc)
    unfold parseL
    rw [hbh]
    dsimp only
    rw [if_pos ⟨by intro he; rw [he] at hl; simp at hl, h.dig, h40⟩]
def telL (neg : Bool) (N : List UInt8) (sc : Nat) : List UInt8 := (if neg = true then [45] else []) ++ (N.take (N.length - sc) ++ if 0 < sc then 46 :: N.drop (N.length - sc) else [])
theorem tel_parse (neg : Bool) (N : List UInt8) (sc : Nat) (h : Num N sc) (h40 : N.length ≤ 40) : dec_Parse.f ⟨(telL neg N sc).toArray⟩ = some (neg, ⟨(stripTo (sc + 1) N).toArray⟩, (sc : Int), true) := by
  have hlen := h.lt
  have hXp := parseL_num h h40
  obtain ⟨X, hX⟩ : ∃ X : List UInt8, (N.take (N.length - sc) ++ if 0 < sc then 46 :: N.drop (N.length - sc) else []) = X := ⟨_, rfl⟩
  rw [hX] at hXp
  have hXl : X.length ≤ 50 := by
    rw [← hX, List.length_append, List.length_take]
    split
    · rw [List.length_cons, List.length_drop]; omega
    · simp; omega
  have hX0 : ∃ c t, X = c :: t ∧ isDig c = true := by
    cases hNc : N with
    | nil => rw [hNc] at hlen; simp at hlen
    | cons c t =>
      rw [hNc, List.length_cons] at hX hlen
      rw [show t.length + 1 - sc = (t.length - sc) + 1 by omega, List.take_succ_cons, List.cons_append] at hX
      exact ⟨c, _, hX.symm, List.all_eq_true.1 h.dig c (by rw [hNc]; simp)⟩
  have hT : negOf ⟨((if neg = true then [45] else []) ++ X).toArray⟩ = neg ∧ restOf ⟨((if neg = true then [45] else []) ++ X).toArray⟩ = X := by
    unfold negOf restOf Lib.trimPrefix
    obtain ⟨c, t, rfl, hc⟩ := hX0
    rw [bl_mk]
    cases neg with
    | true => exact ⟨by simp [Lib.hasPrefix], by simp [Lib.hasPrefix]⟩
    | false =>
      have hne : c ≠ 45 := by rintro rfl; revert hc; decide
      have hn2 : ¬ 45 = c := fun e => hne e.symm
      exact ⟨by simp [Lib.hasPrefix, List.isPrefixOf, hn2], by simp [Lib.hasPrefix, hn2]⟩
  have e : telL neg N sc = (if neg = true then [45] else []) ++ X := by unfold telL; rw [hX]
  rw [e, parse_ok _ (by
    rw [sz, bl_mk, List.length_append]
    cases neg <;> simp <;> omega), hT.1, hT.2]
  unfold parseV
  rw [hXp]
theorem num_strip {N : List UInt8} {sc : Nat} (h : Num N sc) : Num (stripTo (sc + 1) N) sc ∧ V (stripTo (sc + 1) N) sc = V N sc := by
  have hl := stripTo_len (sc + 1) N
  have h1 := h.lt
  have h2 := h.max
  exact ⟨⟨stripTo_digs _ _ h.dig, by have := hl.2 (by omega); omega, by omega⟩, by unfold V; rw [strip_val]⟩
theorem isg_zero (x y : Int) : (isg x y == 0) = decide (x = y) := by
  unfold isg
  by_cases h : x < y
  · rw [if_pos h, show decide (x = y) = false from decide_eq_false (by omega)]; rfl
  · rw [if_neg h]
    by_cases h2 : x = y
    · rw [if_pos h2, show decide (x = y) = true from decide_eq_true h2]; rfl
    · rw [if_neg h2, show decide (x = y) = false from decide_eq_false h2]; rfl
theorem isg_swap (x y : Int) : (isg x y == 0) = (isg y x == 0) := by
  rw [isg_zero, isg_zero]
  by_cases h : x = y
  · rw [h]
  · rw [decide_eq_false h, decide_eq_false (fun e => h e.symm)]
theorem pad_num {N : List UInt8} {sc : Nat} (h : Num N sc) (h30 : N.length ≤ 30) : Num (N ++ [48, 48, 48]) (sc + 3) ∧ V (N ++ [48, 48, 48]) (sc + 3) = V N sc := by
  have h1 := h.lt
  refine ⟨⟨?_, by rw [List.length_append]; simp; omega, by rw [List.length_append]; simp; omega⟩, ?_⟩
  · rw [digs_app, h.dig]; rfl
  · unfold V
    rw [val_app, show val [48, 48, 48] = 0 from rfl, Nat.add_zero, show ([48, 48, 48] : List UInt8).length = 3 from rfl, Nat.mul_assoc, ← Nat.pow_add, show 3 + (200 - (sc + 3)) = 200 - sc by omega]
set_option maxRecDepth 100000 in
set_option maxHeartbeats 4000000 in
theorem same_walk (n1 : Bool) (A : ByteArray) (k1 : Int) (n2 : Bool) (B : ByteArray) (k2 : Int) (lang : ByteArray) (w : World) (hT : G.Tab_ w) (hAs : Asc w) :
    Calls Tryz.prog 3 #[.agg #[.bool n1, .string A, .int .i64 k1], .agg #[.bool n2, .string B, .int .i64 k2], .string lang] w fun e w' => e = .returned (.bool true) ∧ Below w.heap.size w w' := by
  obtain ⟨A, rfl⟩ : ∃ l : List UInt8, A = ⟨l.toArray⟩ := ⟨bl A, (mk_bl A).symm⟩
  obtain ⟨B, rfl⟩ : ∃ l : List UInt8, B = ⟨l.toArray⟩ := ⟨bl B, (mk_bl B).symm⟩
  obtain ⟨ba, ea, fa⟩ := right_any n1 A k1 200 (by decide)
  obtain ⟨bb, eb, fb⟩ := right_any n2 B k2 200 (by decide)
  have c1 := fun W => polyglotlaw02_Right.calls 200 n1 ⟨A.toArray⟩ k1 ba W ea
  have c2 := fun W => polyglotlaw02_Right.calls 200 n2 ⟨B.toArray⟩ k2 bb W eb
  have za : (⟨A.toArray⟩ : ByteArray).size = A.length := sz _
  have zb : (⟨B.toArray⟩ : ByteArray).size = B.length := sz _
  by_cases hr : ba = false ∨ bb = false ∨ 30 < (⟨A.toArray⟩ : ByteArray).size ∨ 30 < (⟨B.toArray⟩ : ByteArray).size
  · exact vs_not n1 _ k1 n2 _ k2 lang ba bb hr c1 c2 w hT hAs
  obtain rfl : ba = true := by cases ba; exact absurd (Or.inl rfl) hr; rfl
  obtain rfl : bb = true := by cases bb; exact absurd (Or.inr (Or.inl rfl)) hr; rfl
  have h1 : A.length ≤ 30 := by omega
  have h2 : B.length ≤ 30 := by omega
  obtain ⟨a, rfl, hA, _⟩ := fa rfl
  obtain ⟨b, rfl, hB, _⟩ := fb rfl
  have la := hA.lt
  have lb := hB.lt
  obtain ⟨sA, vA⟩ := num_strip hA
  obtain ⟨sB, vB⟩ := num_strip hB
  obtain ⟨pA, wA⟩ := pad_num hA h1
  obtain ⟨qA, xA⟩ := num_strip pA
  have e3 : ((a + 3 : Nat) : Int) = (a : Int) + 3 := by omega
  have ePad : (⟨A.toArray⟩ : ByteArray) ++ zs (a + 3 - a) = ⟨(A ++ [48, 48, 48]).toArray⟩ := by
    rw [show a + 3 - a = 3 by omega]
    exact ba_ext (by rw [bl_app]; rfl)
  have cPad := fun W => pad_any n1 ⟨A.toArray⟩ a (a + 3) W (by omega) (by omega) (by omega)
  rw [ePad, e3, show ((a : Int) + ((a + 3 - a : Nat) : Int)) = (a : Int) + 3 by omega] at cPad
  have tP := fun W (h : Below w.heap.size w W) => hT.step h
  have cS := fun (n : Bool) (N : List UInt8) (sc : Nat) (h : Num N sc) (hm : N.length ≤ 40) W => dec_Dec_String.calls n ⟨N.toArray⟩ (sc : Int) ⟨(telL n N sc).toArray⟩ W (string_ok n N sc h.lt (by omega))
  have cPr := fun (n : Bool) (N : List UInt8) (sc : Nat) (h : Num N sc) (hm : N.length ≤ 40) W (hW : Below w.heap.size w W) => dec_Parse.calls ⟨(telL n N sc).toArray⟩ n _ _ true W (tel_parse n N sc h hm) (tP W hW)
  have lp : (A ++ [48, 48, 48]).length ≤ 40 := by rw [List.length_append]; simp; omega
  have cSp := cS n1 _ (a + 3) pA lp
  rw [e3] at cSp
  have cPp := cPr n1 _ (a + 3) pA lp
  rw [e3] at cPp
  have cmp := fun (n m : Bool) (N M : List UInt8) (s t : Nat) (h : Num N s) (h' : Num M t) W => dec_Dec_Compare.calls 10 n ⟨N.toArray⟩ (s : Int) m ⟨M.toArray⟩ (t : Int) _ W (compare_ok 4 n m h h')
  have cC3 := cmp n1 n1 _ _ (a + 3) a qA hA
  rw [e3] at cC3
  have hy := vs_yes n1 ⟨A.toArray⟩ ⟨(stripTo (a + 1) A).toArray⟩ a n2 ⟨B.toArray⟩ b lang (if 20 < (a : Int) then 20 else a) (if 3 < (if 20 < (a : Int) then 20 else (a : Int)) then (if 20 < (a : Int) then 20 else (a : Int)) else 3) (isg (S n1 (V A a)) (S n2 (V B b)))
  have hy := hy ⟨(telL n1 A a).toArray⟩ ⟨(telL n2 B b).toArray⟩ ⟨(telL n1 (A ++ [48, 48, 48]) (a + 3)).toArray⟩ ⟨(A ++ [48, 48, 48]).toArray⟩ (by omega) (by omega) ⟨by omega, by omega⟩ c1 c2 (cmp n1 n2 A B a b hA hB)
  have hy := hy (cS n1 A a hA (by omega)) (cS n2 B b hB (by omega)) cSp cPad w hT hAs
  unfold decV at hy
  refine hy ?_ ?_ ?_ ?_
  · intro W hW
    exact written_num _ n1 _ a _ _ W rfl rfl (fun W2 h2 => cPr n1 A a hA (by omega) W2 (below_on hW h2 hW.size))
  · intro W hW
    refine (is_num ⟨#[]⟩ n1 _ a 1 0 3 false false 0 0 _ lang n2 _ b _ W (fun W2 h2 => cPr n2 B b hB (by omega) W2 (below_on hW h2 hW.size)) (fun W2 => cmp n2 n1 _ A b a sB hA W2)).mono fun e w' ⟨he, hb⟩ => ⟨he.trans (ret_bool ?_), hb⟩
    rw [vB]
    exact isg_swap _ _
  · intro W hW
    refine (is_num ⟨#[]⟩ n1 _ a 1 _ _ false false 0 0 _ lang n2 _ b _ W (fun W2 h2 => cPr n2 B b hB (by omega) W2 (below_on hW h2 hW.size)) (fun W2 => cmp n2 n1 _ _ b a sB sA W2)).mono fun e w' ⟨he, hb⟩ => ⟨he.trans (ret_bool ?_), hb⟩
    rw [vB, vA]
    exact isg_swap _ _
  · intro W hW
    refine (is_num ⟨#[]⟩ n1 _ a 1 0 3 false false 0 0 _ lang n1 _ _ _ W (fun W2 h2 => cPp W2 (below_on hW h2 hW.size)) (fun W2 => cC3 W2)).mono fun e w' ⟨he, hb⟩ => ⟨he.trans (ret_bool ?_), hb⟩
    rw [xA, wA, isg_zero]
    exact decide_eq_true rfl
end Go.Proofs.YtgjboghnnhcgiaaGreatDoor.S
namespace Go.Proofs.YtgjboghnnhcgiaaGreatDoor.E
open Go.Proofs.YtgjboghnnhcgiaaGreatDoor Go.ChangeShapes Go.WideShapes Go.ChangeAt Go.RowKit Go.Joins Go.Deep Go.Proofs.YtgjboghnnhcgiaaGreatDoorW.PrintWords
set_option linter.unusedVariables false
theorem own : ownKnob Tryz.prog.godebug = none := by kernel_rfl
theorem laidOut : laidOutB Tryz.prog = true := by kernel_rfl
theorem args_below {P : Program} (hl : laidOutB P = true) {H : Type} {enc : TypeId × Value → H} {W W' : World} (hb : Below W.heap.size W W') : ∀ (ts : List TypeId) (vs : List Value) (ds : List (DataW H)) (ps : List MemPlace),
    (∀ t ∈ ts, P.readableRec t = true ∧ t < P.types.size) → DataW.TrodAll enc P W 0 (fun _ => true) true ts vs ds ps → (∀ x ∈ ps, x.block < W.heap.size) →
    DataW.TrodAll enc P W' 0 (fun b => decide (b < W.heap.size)) true ts vs ds ps
  | [], [], [], ps, _, h, _ => h
  | t :: ts, v :: vs, d :: ds, ps, hr, h, hlt => by
    obtain ⟨p, q, h0, h1, rfl⟩ := h
    exact ⟨p, q, Below.trod hl (hr t (.head _)).1 (hr t (.head _)).2 h0 hb (fun x hx => hlt x (List.mem_append.2 (Or.inl hx))), args_below hl hb ts vs ds q (fun t ht => hr t (.tail _ ht)) h1 (fun x hx => hlt x (List.mem_append.2 (Or.inr hx))), rfl⟩
  | [], _ :: _, _, _, _, h, _ => h.elim
  | _ :: _, [], _, _, _, h, _ => h.elim
  | [], [], _ :: _, _, _, h, _ => h.elim
  | _ :: _, _ :: _, [], _, _, h, _ => h.elim
noncomputable def laidWorld (os : Os) : World :=
  let w0 := World.holding Tryz.prog os ⟨#[], #[], []⟩
  let put (h : Array Obj) (g : Nat) (cs : Array Value) : Array Obj := h.modify g fun
    | .cells _ t frozen => .cells cs t frozen
    | o => o
  let n := w0.heap.size
  let h1 := put w0.heap 5 (Lib.firstTab.map fun z => Value.int .u8 z).toArray
  let h2 := put h1 6 ((List.range 16).flatMap fun i => [Value.int .u8 (Lib.accLo i), Value.int .u8 (Lib.accHi i)]).toArray
  let h3 := put h2 2 #[.iface 228 (.pointer (some ⟨n + 2, 0, none⟩))]
  let h5 := put h3 4 (Lib.pow10Tab.map fun z => Value.int .u64 z).toArray
  let h6 := put h5 7 (([0, 1, 28, 2, 29, 14, 24, 3, 30, 22, 20, 15, 25, 17, 4, 8, 31, 27, 13, 23, 21, 19, 16, 7, 26, 12, 18, 6, 11, 5, 10, 9] : List Int).map fun z => Value.int .u8 z).toArray
  let h7 := put h6 8 (([0, 1, 56, 2, 57, 49, 28, 3, 61, 58, 42, 50, 38, 29, 17, 4, 62, 47, 59, 36, 45, 43, 51, 22, 53, 39, 33, 30, 24, 18, 12, 5, 63, 55, 48, 27, 60, 41, 37, 16, 46, 35, 44, 21, 52, 32, 23, 11, 54, 26, 40, 15, 34, 20, 31, 10, 25, 14, 19, 9, 13, 8, 7, 6] : List Int).map fun z => Value.int .u8 z).toArray
  let h8 := put h7 0 (Lib.asciiSpaceTab.map fun z => Value.int .u8 z).toArray
  let h9 := put h8 1 #[.pointer (some ⟨n + 1, 0, none⟩)]
  let h10 := h9.push (.cells (([9, 13, 1, 32, 133, 101, 160, 5760, 5600, 8192, 8202, 1, 8232, 8233, 1, 8239, 8287, 48, 12288, 12288, 1] : List Int).map fun z => Value.int .u16 z).toArray 198 (0, 0))
  let h11 := h10.push (.cells #[.slice (some ⟨n, 0, none⟩) 7 7, .slice none 0 0, .int .i64 2] 195 (0, 0))
  let h12 := h11.push (.cells #[.string ⟨#[98, 121, 116, 101, 115, 46, 66, 117, 102, 102, 101, 114, 58, 32, 116, 111, 111, 32, 108, 97, 114, 103, 101]⟩] 242 (0, 0))
  { w0 with heap := h12 }
theorem dec_cells : Tryz.prog.cellsOf 23 = 3 := by kernel_rfl
set_option maxRecDepth 100000 in
theorem open_dec {H : Type} {enc : TypeId × Value → H} {w : World} {base : Nat} {spare : Nat → Bool} {held : Bool} {r : Reach} {b0 : Nat} {v : Value} {d : DataW H} {p : List MemPlace}
    (hv : Value.okWide Tryz.prog w r b0 23 v) (h : DataW.Trod enc Tryz.prog w base spare held 23 v d p) :
    ∃ (n : Bool) (s : ByteArray) (k : Int), v = .agg #[.bool n, .string s, .int .i64 k] ∧ d = .agg [.lit (.bool n), .lit (.string s.data.toList), .lit (.int .i64 k)] ∧ p = [] := by
  obtain ⟨c0, c1, c2, y0, y1, y2, m, rfl, rfl, rfl, h0, h1, h2⟩ := open_agg3 Tryz.underlying23 (by kernel_rfl) dec_cells hv h
  obtain ⟨n, e0, rfl⟩ := DataW.trod_bool Tryz.underlying4 h0
  obtain ⟨s, e1, rfl, _⟩ := DataW.trod_string Tryz.underlying9 h1
  obtain ⟨k, e2, rfl, _⟩ := DataW.trod_int Tryz.underlying3 h2
  simp at e0 e1 e2
  subst e0 e1 e2
  exact ⟨n, s, k, rfl, rfl, rfl⟩
section
variable {H : Type} {enc : TypeId × Value → H} {P : Program} {w : World} {base : Nat} {spare : Nat → Bool} {held : Bool}
end
section
variable {H : Type} {enc : TypeId × Value → H} {w : World} {base : Nat} {spare : Nat → Bool} {held : Bool}
end
theorem asc_of {W : World} (h : Lib.VarReads Tryz.prog W "strings.asciiSpace" Rows.laid_strings_asciiSpace) : Asc W := by
  obtain ⟨g, t, cs, fuel, p, h1, h2, h3, h4⟩ := h
  obtain rfl : g = 0 := Option.some.inj (h1.symm.trans (by kernel_rfl))
  obtain rfl : t = 146 := Option.some.inj (h2.symm.trans (by kernel_rfl))
  have e : (Rows.laid_strings_asciiSpace : DataW Unit) = Lib.tabData .u8 Lib.asciiSpaceTab := by kernel_rfl
  rw [e] at h4
  unfold Asc Lib.TabIs
  rw [h3, ← Lib.cells_of_tab Tryz.underlying146 Tryz.underlying5 (by kernel_rfl) (by kernel_rfl) h4]
theorem tab_of {W : World} (h : W.ShapedOpen Tryz.prog) : G.Tab_ W := Tryz.laysM145.s1_3 W h
end Go.Proofs.YtgjboghnnhcgiaaGreatDoor.E
namespace Go.Proofs.YtgjboghnnhcgiaaGreatDoor.valueSame
open Go.ChangeShapes Go.WideShapes Go.ChangeAt Go.RowKit Go.Proofs.YtgjboghnnhcgiaaGreatDoor.E
open Go.ChangeMaps (open_string shut_string)
set_option linter.unusedVariables false
set_option linter.unusedSimpArgs false
theorem laid_met (os : Os) : laidMet Tryz.prog Rows.valueSameRow.laid ((laidWorld os).forCall (fun _ _ => 0) ⟨#[], #[.agg #[.bool false, .string ByteArray.empty, .int .i64 0], .agg #[.bool false, .string ByteArray.empty, .int .i64 0], .string ByteArray.empty], []⟩).memory :=
  laidMet_of_run3 8 (by kernel_rfl) (by kernel_rfl) (by kernel_rfl)
set_option maxRecDepth 100000 in
theorem reads (os : Os) {H : Type} (enc : TypeId × Value → H) : ∃ places, DataW.whole enc Tryz.prog ((laidWorld os).forCall (fun _ _ => 0) ⟨#[], #[.agg #[.bool false, .string ByteArray.empty, .int .i64 0], .agg #[.bool false, .string ByteArray.empty, .int .i64 0], .string ByteArray.empty], []⟩).memory Tryz.f3.params.toList Rows.valueSameSpec.vars false #[Value.agg #[.bool false, .string ByteArray.empty, .int .i64 0], Value.agg #[.bool false, .string ByteArray.empty, .int .i64 0], Value.string ByteArray.empty].toList 8 = some ([.agg [.lit (.bool false), .lit (.string []), .lit (.int .i64 0)], .agg [.lit (.bool false), .lit (.string []), .lit (.int .i64 0)], .lit (.string [])], [], places) :=
  ⟨[], by kernel_rfl⟩
set_option maxRecDepth 100000 in
theorem contract (H : Type) (enc : TypeId × Value → H) (W : World) (base : Nat) (args : Array Value) (ds gs : List (DataW H)) (before : List MemPlace)
    (hval : ∀ (j : Nat) t v, Tryz.f3.params[j]? = some t → args[j]? = some v → Value.okWide Tryz.prog W .any base t v)
    (hW : DataW.Whole enc Tryz.prog Tryz.f3.params.toList Rows.valueSameSpec.vars false W args.toList ds gs before) (hL : laidMetH Tryz.prog Rows.valueSameRow.laid W) (hS : W.ShapedOpen Tryz.prog) :
    Calls Tryz.prog 3 args W fun e W' => ∃ v, e = .returned v ∧ Rows.valueSameSpec.post enc Tryz.prog Tryz.f3 false true false false W args v W' := by
  have hW' := hW
  obtain ⟨p, q, hA0, hV, rfl, hfz, hnd⟩ := hW
  have hA : DataW.TrodAll enc Tryz.prog W 0 (fun _ => true) true Tryz.f3.params.toList args.toList ds p := hA0
  rw [Tryz.params3] at hA hval
  have hAk := hA
  have hlt : ∀ x ∈ p, x.block < W.heap.size := fun x hx => by simpa using hW'.lt x (List.mem_append.2 (Or.inl hx))
  obtain ⟨v0, vs0, d0, ds0, p0, q0, hargs, rfl, rfl, h0, r0⟩ := trodAll_cons hA
  obtain ⟨v1, vs1, d1, ds1, p1, q1, rfl, rfl, rfl, h1, r1⟩ := trodAll_cons r0
  obtain ⟨v2, vs2, d2, ds2, p2, q2, rfl, rfl, rfl, h2, r2⟩ := trodAll_cons r1
  obtain ⟨rfl, rfl, rfl⟩ := trodAll_nil r2
  obtain rfl : args = #[v0, v1, v2] := by cases args; simp_all
  obtain ⟨rfl, rfl⟩ := trodVars_none hV
  obtain ⟨n0, s0, k0, rfl, rfl, rfl⟩ := open_dec (hval 0 23 v0 rfl rfl) h0
  obtain ⟨n1, s1, k1, rfl, rfl, rfl⟩ := open_dec (hval 1 23 v1 rfl rfl) h1
  obtain ⟨s2, rfl, rfl, rfl, hm2⟩ := open_string Tryz.underlying9 (hval 2 9 v2 rfl rfl) h2
  clear hA0
  simp only [List.append_nil] at hW' hAk hlt
  have hT : G.Tab_ W ∧ Asc W := ⟨tab_of hS, asc_of (Lib.laidMet.reads hL (.tail _ (.tail _ (.tail _ (.tail _ (.tail _ (.tail _ (.head _))))))))⟩
  refine (S.same_walk n0 s0 k0 n1 s1 k1 s2 W hT.1 hT.2).mono fun e W' ⟨he, hb⟩ => ?_
  subst he
  exact ⟨_, rfl, _, _, _, [], _, [], hW', trodAll_mk1 (shut_bool Tryz.underlying4 _), args_below laidOut hb _ _ _ _ (by decide +kernel) hAk hlt, rfl, hb.frame _, fun h => by cases h⟩
set_option maxRecDepth 100000 in
theorem lifted (os : Os) (started : os.Started) (H : Type) (enc : TypeId × Value → H) (F : Stop.Interp) :
    ReturnsInHanded {} Tryz.checked os 3 .any ((OpenSpec.ofChange Rows.valueSameSpec).preRow enc Tryz.prog Tryz.f3 Rows.valueSameRow.domain false Rows.valueSameRow.laid) (((OpenSpec.ofChange Rows.valueSameSpec).at F).post enc Tryz.prog Tryz.f3 false true false false) := by
  obtain ⟨places, hx⟩ := reads os enc
  refine returnsInHanded_of_row (C := Tryz.checked) (s := OpenSpec.ofChange Rows.valueSameSpec) own started (by kernel_rfl) Tryz.func3
    (witness_row_atRef (enc := enc) (C := Tryz.checked) false (laidWorld os) #[.agg #[.bool false, .string ByteArray.empty, .int .i64 0], .agg #[.bool false, .string ByteArray.empty, .int .i64 0], .string ByteArray.empty] rfl (by kernel_rfl) (by kernel_rfl) (by kernel_rfl)
      (OpenSpec.preRow_of_cond 8 hx (by kernel_rfl) (fun k hk => by cases hk) (by kernel_rfl) (laid_met os))) ?_
  intro W base args ds gs before hval hW _ _ _ hL hS _
  exact contract H enc W base args ds gs before hval hW hL hS
theorem said : Rows.ValueSameSaid :=
  OpenClaim.holds_of_cond 3 Tryz.f3 rfl rfl rfl rfl rfl rfl rfl ⟨rfl, rfl, rfl, rfl, rfl⟩ rfl rfl rfl rfl rfl (by kernel_rfl) Tryz.func3 (by kernel_rfl)
    (of_decide_eq_true (by kernel_rfl)) (by unfold Func.isWrapper; first | (rw [if_pos (by decide +kernel)]; kernel_rfl) | (rw [if_neg (by decide +kernel)]; exact ⟨rfl, rfl⟩))
    (fun os started H enc _ F => by rw [OpenClaim.pre_eq_preRow]; exact lifted os started H enc F)
theorem plain (f : FuncId) (fn : Func) (hf : Tryz.pinned.checked.prog.funcNamed "polyglot/polyglotlaw14.ValueSame" = some f) (hfn : Tryz.pinned.checked.prog.funcs[f]? = some fn) :
    false = Tryz.pinned.checked.prog.looks [] ∧ ∀ (j : Nat) t, fn.params[j]? = some t → Tryz.pinned.checked.prog.wantsStandIn t = false := by
  obtain rfl : f = 3 := Option.some.inj ((show Tryz.prog.funcNamed "polyglot/polyglotlaw14.ValueSame" = some 3 by kernel_rfl).symm.trans hf) |>.symm
  obtain rfl : fn = Tryz.f3 := (Option.some.inj (Tryz.func3.symm.trans hfn)).symm
  refine ⟨by kernel_rfl, fun j t ht => ?_⟩
  rw [Tryz.params3] at ht
  have hmem := Array.mem_of_getElem? ht
  have hall : ∀ t ∈ (#[23, 23, 9] : Array TypeId), Tryz.prog.wantsStandIn t = false := by
    intro t ht
    simp at ht
    rcases ht with rfl | rfl
    all_goals kernel_rfl
  exact hall t hmem
end Go.Proofs.YtgjboghnnhcgiaaGreatDoor.valueSame
namespace Go.Proofs.YtgjboghnnhcgiaaGreatDoor
theorem valueSame_holds : Rows.ValueSameCardSaid :=
  Claim7.holds_tied_plain_at .later [] _ _ _ _ valueSame.said (fun _ h => by cases h) (by kernel_rfl) (fun _ h => by cases h) valueSame_row_tie rfl ⟨rfl, rfl⟩ (by kernel_rfl) rfl valueSame.plain (by kernel_rfl)
end Go.Proofs.YtgjboghnnhcgiaaGreatDoor
