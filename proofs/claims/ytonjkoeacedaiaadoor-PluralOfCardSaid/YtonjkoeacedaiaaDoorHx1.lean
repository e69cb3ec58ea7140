-- PRINTED by print.py (a twelfth state) out of the translation. Not trusted: Lean checks it.
import Derived.Test.YtonjkoeacedaiaaDoorHx0
namespace Go.Proofs.YtonjkoeacedaiaaDoor.H
open Go.RowKit Go.Proofs.YtonjkoeacedaiaaDoor.P4 Go.Proofs.YtonjkoeacedaiaaDoorW.PrintWords Go.Proofs.YtonjkoeacedaiaaDoorW.PrintLast Go.Proofs.YtonjkoeacedaiaaDoorW.PrintMore
attribute [local go_sem] max2_int min2_int max_two min_two max_three min_three max_four min_four   -- for this text's walks alone
set_option linter.unusedVariables false
set_option linter.unusedSimpArgs false

/-! ### polyglotlaw04_Of: function 20 -/
mutual
def polyglotlaw04_Of.j0 : Nat → ByteArray → Int → Bool → Bool → Int → Bool → Option (Int)
  | 0, _, _, _, _, _, _ => none
  | k + 1, x0, x5, x6, x7, x8, x9 => if x0.toList = ([101, 110] : List UInt8) then (polyglotlaw04_Of.j1 k x0 x5 x6 x7 x8 x9 x0 (x0.toList == ([101, 110] : List UInt8))) else (if x0.toList = ([100, 101] : List UInt8) then (polyglotlaw04_Of.j1 k x0 x5 x6 x7 x8 x9 x0 (x0.toList == ([100, 101] : List UInt8))) else (if x0.toList = ([110, 108] : List UInt8) then (polyglotlaw04_Of.j1 k x0 x5 x6 x7 x8 x9 x0 (x0.toList == ([110, 108] : List UInt8))) else (polyglotlaw04_Of.j1 k x0 x5 x6 x7 x8 x9 x0 (x0.toList == ([115, 118] : List UInt8)))))
def polyglotlaw04_Of.j1 : Nat → ByteArray → Int → Bool → Bool → Int → Bool → ByteArray → Bool → Option (Int)
  | 0, _, _, _, _, _, _, _, _ => none
  | k + 1, x0, x5, x6, x7, x8, x9, x34, x35 => if x35 = true then (if x8 = 0 then (if x6 = true then (some 0) else (if x5 = 1 then (some 2) else (some 0))) else (some 0)) else (if x34.toList = ([102, 114] : List UInt8) then (if x6 = true then (some 0) else (if x5 ≤ 1 then (some 2) else (some 0))) else (if x34.toList = ([101, 115] : List UInt8) then (if x7 = true then (if x6 = true then (some 0) else (if x5 = 1 then (some 2) else (some 0))) else (some 0)) else (if x34.toList = ([112, 108] : List UInt8) then (polyglotlaw04_Of.j2 k x0 x5 x6 x7 x8 x9 x34 (x34.toList == ([112, 108] : List UInt8))) else (polyglotlaw04_Of.j2 k x0 x5 x6 x7 x8 x9 x34 (x34.toList == ([114, 117] : List UInt8))))))
def polyglotlaw04_Of.j2 : Nat → ByteArray → Int → Bool → Bool → Int → Bool → ByteArray → Bool → Option (Int)
  | 0, _, _, _, _, _, _, _, _ => none
  | k + 1, x0, x5, x6, x7, x8, x9, x34, x69 => if x69 = true then (if x8 > 0 then (some 0) else (if x0.toList = ([112, 108] : List UInt8) then (if x6 = true then (if x0.toList = ([114, 117] : List UInt8) then (if (Int.tmod x5 10) = 1 then (polyglotlaw04_Of.j3 k x9 (x5 != 11)) else (polyglotlaw04_Of.j3 k x9 false)) else (polyglotlaw04_Of.j3 k x9 false)) else (if x5 = 1 then (polyglotlaw04_Of.j3 k x9 true) else (if x0.toList = ([114, 117] : List UInt8) then (if (Int.tmod x5 10) = 1 then (polyglotlaw04_Of.j3 k x9 (x5 != 11)) else (polyglotlaw04_Of.j3 k x9 false)) else (polyglotlaw04_Of.j3 k x9 false)))) else (if x0.toList = ([114, 117] : List UInt8) then (if (Int.tmod x5 10) = 1 then (polyglotlaw04_Of.j3 k x9 (x5 != 11)) else (polyglotlaw04_Of.j3 k x9 false)) else (polyglotlaw04_Of.j3 k x9 false)))) else (if x34.toList = ([99, 115] : List UInt8) then (if x8 > 0 then (some 5) else (if x6 = true then (polyglotlaw04_Of.j4 k x5 x6 false) else (polyglotlaw04_Of.j4 k x5 x6 (x5 == 1)))) else (if x34.toList = ([97, 114] : List UInt8) then (if x7 = true then (if x6 = true then (polyglotlaw04_Of.j5 k x5 false) else (polyglotlaw04_Of.j5 k x5 (decide (x5 ≤ 2)))) else (some 0)) else (some 0)))
def polyglotlaw04_Of.j3 : Nat → Bool → Bool → Option (Int)
  | 0, _, _ => none
  | k + 1, x9, x75 => if x75 = true then (some 2) else (if x9 = true then (some 4) else (some 5))
def polyglotlaw04_Of.j4 : Nat → Int → Bool → Bool → Option (Int)
  | 0, _, _, _ => none
  | k + 1, x5, x6, x106 => if x106 = true then (some 2) else (if x6 = true then (some 0) else (if x5 ≥ 2 then (if x5 ≤ 4 then (some 4) else (some 0)) else (some 0)))
def polyglotlaw04_Of.j5 : Nat → Int → Bool → Option (Int)
  | 0, _, _ => none
  | k + 1, x5, x129 => if x129 = true then ((some (([1, 2, 3] : List Int) : List Int)).bind fun y105 => (if 0 ≤ x5 then (if x5 < (y105.length : Int) then (some (rd y105 x5)) else (none)) else (none))) else (if x5 ≥ 3 then (polyglotlaw04_Of.j6 k x5 (decide (x5 ≤ 10))) else (polyglotlaw04_Of.j6 k x5 false))
def polyglotlaw04_Of.j6 : Nat → Int → Bool → Option (Int)
  | 0, _, _ => none
  | k + 1, x5, x140 => if x140 = true then (some 4) else (if x5 ≥ 11 then (some 5) else (some 0))
end
def polyglotlaw04_Of.f (k : Nat) (a0 : ByteArray) (a1_0 : Bool) (a1_1 : ByteArray) (a1_2 : Int) : Option (Int) := (polyglotlaw04_parts.f a1_0 a1_1 a1_2).bind fun bt102 => (if (Int.tmod bt102.1 10) ≥ 2 then (if (Int.tmod bt102.1 10) ≤ 4 then (if bt102.1 < 12 then (polyglotlaw04_Of.j0 k a0 bt102.1 bt102.2.1 bt102.2.2 a1_2 true) else (polyglotlaw04_Of.j0 k a0 bt102.1 bt102.2.1 bt102.2.2 a1_2 (decide (bt102.1 > 14)))) else (polyglotlaw04_Of.j0 k a0 bt102.1 bt102.2.1 bt102.2.2 a1_2 false)) else (polyglotlaw04_Of.j0 k a0 bt102.1 bt102.2.1 bt102.2.2 a1_2 false))
theorem polyglotlaw04_Of.mono_l : ∀ k, (∀ y0 y1 y2 y3 y4 y5, LeO (polyglotlaw04_Of.j0 k y0 y1 y2 y3 y4 y5) (polyglotlaw04_Of.j0 (k + 1) y0 y1 y2 y3 y4 y5)) ∧ (∀ y0 y1 y2 y3 y4 y5 y6 y7, LeO (polyglotlaw04_Of.j1 k y0 y1 y2 y3 y4 y5 y6 y7) (polyglotlaw04_Of.j1 (k + 1) y0 y1 y2 y3 y4 y5 y6 y7)) ∧ (∀ y0 y1 y2 y3 y4 y5 y6 y7, LeO (polyglotlaw04_Of.j2 k y0 y1 y2 y3 y4 y5 y6 y7) (polyglotlaw04_Of.j2 (k + 1) y0 y1 y2 y3 y4 y5 y6 y7)) ∧ (∀ y0 y1, LeO (polyglotlaw04_Of.j3 k y0 y1) (polyglotlaw04_Of.j3 (k + 1) y0 y1)) ∧ (∀ y0 y1 y2, LeO (polyglotlaw04_Of.j4 k y0 y1 y2) (polyglotlaw04_Of.j4 (k + 1) y0 y1 y2)) ∧ (∀ y0 y1, LeO (polyglotlaw04_Of.j5 k y0 y1) (polyglotlaw04_Of.j5 (k + 1) y0 y1)) ∧ (∀ y0 y1, LeO (polyglotlaw04_Of.j6 k y0 y1) (polyglotlaw04_Of.j6 (k + 1) y0 y1))
  | 0 => ⟨fun _ _ _ _ _ _ r h => by simp [polyglotlaw04_Of.j0] at h, fun _ _ _ _ _ _ _ _ r h => by simp [polyglotlaw04_Of.j1] at h, fun _ _ _ _ _ _ _ _ r h => by simp [polyglotlaw04_Of.j2] at h, fun _ _ r h => by simp [polyglotlaw04_Of.j3] at h, fun _ _ _ r h => by simp [polyglotlaw04_Of.j4] at h, fun _ _ r h => by simp [polyglotlaw04_Of.j5] at h, fun _ _ r h => by simp [polyglotlaw04_Of.j6] at h⟩
  | k + 1 => by
    obtain ⟨ih0, ih1, ih2, ih3, ih4, ih5, ih6⟩ := polyglotlaw04_Of.mono_l k
    refine ⟨?_, ?_, ?_, ?_, ?_, ?_, ?_⟩
    · intro y0 y1 y2 y3 y4 y5
      unfold polyglotlaw04_Of.j0
      repeat' first
      | (with_reducible exact ih0 _ _ _ _ _ _)
      | (with_reducible exact ih1 _ _ _ _ _ _ _ _)
      | (with_reducible exact ih2 _ _ _ _ _ _ _ _)
      | (with_reducible exact ih3 _ _)
      | (with_reducible exact ih4 _ _ _)
      | (with_reducible exact ih5 _ _)
      | (with_reducible exact ih6 _ _)
      | (with_reducible exact LeO.refl _)
      | (with_reducible exact LeO.none _)
      | (with_reducible refine LeO.ite ?_ ?_)
      | (with_reducible refine LeO.bind ?_ (fun _ => ?_))
      | exact ih0 _ _ _ _ _ _
      | exact ih1 _ _ _ _ _ _ _ _
      | exact ih2 _ _ _ _ _ _ _ _
      | exact ih3 _ _
      | exact ih4 _ _ _
      | exact ih5 _ _
      | exact ih6 _ _
      | exact LeO.none _
      | refine LeO.ite ?_ ?_
      | refine LeO.bind ?_ (fun _ => ?_)
    · intro y0 y1 y2 y3 y4 y5 y6 y7
      unfold polyglotlaw04_Of.j1
      repeat' first
      | (with_reducible exact ih0 _ _ _ _ _ _)
      | (with_reducible exact ih1 _ _ _ _ _ _ _ _)
      | (with_reducible exact ih2 _ _ _ _ _ _ _ _)
      | (with_reducible exact ih3 _ _)
      | (with_reducible exact ih4 _ _ _)
      | (with_reducible exact ih5 _ _)
      | (with_reducible exact ih6 _ _)
      | (with_reducible exact LeO.refl _)
      | (with_reducible exact LeO.none _)
      | (with_reducible refine LeO.ite ?_ ?_)
      | (with_reducible refine LeO.bind ?_ (fun _ => ?_))
      | exact ih0 _ _ _ _ _ _
      | exact ih1 _ _ _ _ _ _ _ _
      | exact ih2 _ _ _ _ _ _ _ _
      | exact ih3 _ _
      | exact ih4 _ _ _
      | exact ih5 _ _
      | exact ih6 _ _
      | exact LeO.none _
      | refine LeO.ite ?_ ?_
      | refine LeO.bind ?_ (fun _ => ?_)
    · intro y0 y1 y2 y3 y4 y5 y6 y7
      unfold polyglotlaw04_Of.j2
      repeat' first
      | (with_reducible exact ih0 _ _ _ _ _ _)
      | (with_reducible exact ih1 _ _ _ _ _ _ _ _)
      | (with_reducible exact ih2 _ _ _ _ _ _ _ _)
      | (with_reducible exact ih3 _ _)
      | (with_reducible exact ih4 _ _ _)
      | (with_reducible exact ih5 _ _)
      | (with_reducible exact ih6 _ _)
      | (with_reducible exact LeO.refl _)
      | (with_reducible exact LeO.none _)
      | (with_reducible refine LeO.ite ?_ ?_)
      | (with_reducible refine LeO.bind ?_ (fun _ => ?_))
      | exact ih0 _ _ _ _ _ _
      | exact ih1 _ _ _ _ _ _ _ _
      | exact ih2 _ _ _ _ _ _ _ _
      | exact ih3 _ _
      | exact ih4 _ _ _
      | exact ih5 _ _
      | exact ih6 _ _
      | exact LeO.none _
      | refine LeO.ite ?_ ?_
      | refine LeO.bind ?_ (fun _ => ?_)
    · intro y0 y1
      unfold polyglotlaw04_Of.j3
      repeat' first
      | (with_reducible exact ih0 _ _ _ _ _ _)
      | (with_reducible exact ih1 _ _ _ _ _ _ _ _)
      | (with_reducible exact ih2 _ _ _ _ _ _ _ _)
      | (with_reducible exact ih3 _ _)
      | (with_reducible exact ih4 _ _ _)
      | (with_reducible exact ih5 _ _)
      | (with_reducible exact ih6 _ _)
      | (with_reducible exact LeO.refl _)
      | (with_reducible exact LeO.none _)
      | (with_reducible refine LeO.ite ?_ ?_)
      | (with_reducible refine LeO.bind ?_ (fun _ => ?_))
      | exact ih0 _ _ _ _ _ _
      | exact ih1 _ _ _ _ _ _ _ _
      | exact ih2 _ _ _ _ _ _ _ _
      | exact ih3 _ _
      | exact ih4 _ _ _
      | exact ih5 _ _
      | exact ih6 _ _
      | exact LeO.none _
      | refine LeO.ite ?_ ?_
      | refine LeO.bind ?_ (fun _ => ?_)
    · intro y0 y1 y2
      unfold polyglotlaw04_Of.j4
      repeat' first
      | (with_reducible exact ih0 _ _ _ _ _ _)
      | (with_reducible exact ih1 _ _ _ _ _ _ _ _)
      | (with_reducible exact ih2 _ _ _ _ _ _ _ _)
      | (with_reducible exact ih3 _ _)
      | (with_reducible exact ih4 _ _ _)
      | (with_reducible exact ih5 _ _)
      | (with_reducible exact ih6 _ _)
      | (with_reducible exact LeO.refl _)
      | (with_reducible exact LeO.none _)
      | (with_reducible refine LeO.ite ?_ ?_)
      | (with_reducible refine LeO.bind ?_ (fun _ => ?_))
      | exact ih0 _ _ _ _ _ _
      | exact ih1 _ _ _ _ _ _ _ _
      | exact ih2 _ _ _ _ _ _ _ _
      | exact ih3 _ _
      | exact ih4 _ _ _
      | exact ih5 _ _
      | exact ih6 _ _
      | exact LeO.none _
      | refine LeO.ite ?_ ?_
      | refine LeO.bind ?_ (fun _ => ?_)
    · intro y0 y1
      unfold polyglotlaw04_Of.j5
      repeat' first
      | (with_reducible exact ih0 _ _ _ _ _ _)
      | (with_reducible exact ih1 _ _ _ _ _ _ _ _)
      | (with_reducible exact ih2 _ _ _ _ _ _ _ _)
      | (with_reducible exact ih3 _ _)
      | (with_reducible exact ih4 _ _ _)
      | (with_reducible exact ih5 _ _)
      | (with_reducible exact ih6 _ _)
      | (with_reducible exact LeO.refl _)
      | (with_reducible exact LeO.none _)
      | (with_reducible refine LeO.ite ?_ ?_)
      | (with_reducible refine LeO.bind ?_ (fun _ => ?_))
      | exact ih0 _ _ _ _ _ _
      | exact ih1 _ _ _ _ _ _ _ _
      | exact ih2 _ _ _ _ _ _ _ _
      | exact ih3 _ _
      | exact ih4 _ _ _
      | exact ih5 _ _
      | exact ih6 _ _
      | exact LeO.none _
      | refine LeO.ite ?_ ?_
      | refine LeO.bind ?_ (fun _ => ?_)
    · intro y0 y1
      unfold polyglotlaw04_Of.j6
      repeat' first
      | (with_reducible exact ih0 _ _ _ _ _ _)
      | (with_reducible exact ih1 _ _ _ _ _ _ _ _)
      | (with_reducible exact ih2 _ _ _ _ _ _ _ _)
      | (with_reducible exact ih3 _ _)
      | (with_reducible exact ih4 _ _ _)
      | (with_reducible exact ih5 _ _)
      | (with_reducible exact ih6 _ _)
      | (with_reducible exact LeO.refl _)
      | (with_reducible exact LeO.none _)
      | (with_reducible refine LeO.ite ?_ ?_)
      | (with_reducible refine LeO.bind ?_ (fun _ => ?_))
      | exact ih0 _ _ _ _ _ _
      | exact ih1 _ _ _ _ _ _ _ _
      | exact ih2 _ _ _ _ _ _ _ _
      | exact ih3 _ _
      | exact ih4 _ _ _
      | exact ih5 _ _
      | exact ih6 _ _
      | exact LeO.none _
      | refine LeO.ite ?_ ?_
      | refine LeO.bind ?_ (fun _ => ?_)
theorem polyglotlaw04_Of.mono : ∀ a0 a1 a2 a3 k, LeO (polyglotlaw04_Of.f k a0 a1 a2 a3) (polyglotlaw04_Of.f (k + 1) a0 a1 a2 a3) := by
  intro a0 a1 a2 a3 k
  obtain ⟨ih0, ih1, ih2, ih3, ih4, ih5, ih6⟩ := polyglotlaw04_Of.mono_l k
  unfold polyglotlaw04_Of.f
  repeat' first
      | (with_reducible exact ih0 _ _ _ _ _ _)
      | (with_reducible exact ih1 _ _ _ _ _ _ _ _)
      | (with_reducible exact ih2 _ _ _ _ _ _ _ _)
      | (with_reducible exact ih3 _ _)
      | (with_reducible exact ih4 _ _ _)
      | (with_reducible exact ih5 _ _)
      | (with_reducible exact ih6 _ _)
      | (with_reducible exact LeO.refl _)
      | (with_reducible exact LeO.none _)
      | (with_reducible refine LeO.ite ?_ ?_)
      | (with_reducible refine LeO.bind ?_ (fun _ => ?_))
      | exact ih0 _ _ _ _ _ _
      | exact ih1 _ _ _ _ _ _ _ _
      | exact ih2 _ _ _ _ _ _ _ _
      | exact ih3 _ _
      | exact ih4 _ _ _
      | exact ih5 _ _
      | exact ih6 _ _
      | exact LeO.none _
      | refine LeO.ite ?_ ?_
      | refine LeO.bind ?_ (fun _ => ?_)
set_option maxHeartbeats 8000000 in
set_option maxRecDepth 100000 in
theorem polyglotlaw04_Of.calls (k : Nat) (a0 : ByteArray) (a1_0 : Bool) (a1_1 : ByteArray) (a1_2 : Int) (r : Int) (w : World) (h : polyglotlaw04_Of.f k a0 a1_0 a1_1 a1_2 = some r) :
    Calls Tryd.prog 20 #[.string a0, .agg #[.bool a1_0, .string a1_1, .int .i64 a1_2]] w fun e w' => e = .returned (.int .i64 r) ∧ Below w.heap.size w w' := by
  have hu23 := Tryd.underlying23
  have HB := Aside0.mk (Below.refl w.heap.size w)
  have H : ((polyglotlaw04_parts.f a1_0 a1_1 a1_2).bind fun bt102 => (if (Int.tmod bt102.1 10) ≥ 2 then (if (Int.tmod bt102.1 10) ≤ 4 then (if bt102.1 < 12 then (polyglotlaw04_Of.j0 k a0 bt102.1 bt102.2.1 bt102.2.2 a1_2 true) else (polyglotlaw04_Of.j0 k a0 bt102.1 bt102.2.1 bt102.2.2 a1_2 (decide (bt102.1 > 14)))) else (polyglotlaw04_Of.j0 k a0 bt102.1 bt102.2.1 bt102.2.2 a1_2 false)) else (polyglotlaw04_Of.j0 k a0 bt102.1 bt102.2.1 bt102.2.2 a1_2 false))) = some r := h
  clear h
  replace H := Option.bind_eq_some_iff.mp H
  obtain ⟨⟨t102, t103, t104⟩, A30, H⟩ := H
  replace H : (if (Int.tmod t102 10) ≥ 2 then (if (Int.tmod t102 10) ≤ 4 then (if t102 < 12 then (polyglotlaw04_Of.j0 k a0 t102 t103 t104 a1_2 true) else (polyglotlaw04_Of.j0 k a0 t102 t103 t104 a1_2 (decide (t102 > 14)))) else (polyglotlaw04_Of.j0 k a0 t102 t103 t104 a1_2 false)) else (polyglotlaw04_Of.j0 k a0 t102 t103 t104 a1_2 false)) = some r := H
  have A3 := Aside0.mk A30
  clear A30
  have HC4 := Aside0.mk H
  clear H
  go_enter Tryd.func20, Tryd.ntmps20
  go_upto_region 3 with (first | ((with_reducible refine gate_dst (N := 3) rfl ?_); refine box_event ?hg (N := 3) ?hd (cs := #[.bool a1_0, .string a1_1, .int .i64 a1_2]) (t := 23) ?hr ?_; (case hd => rfl); (case hg => rfl); (case hr => first | (go_simp; done) | (go_simp; rfl)); intro gb101 hg w5 hbox hb; have n0_ := Aside0.mk (Go.Proofs.YtonjkoeacedaiaaDoorW.PrintWords.below_step (by repeat (first | (with_reducible first | exact HB.out | apply below_alloc | apply pw_below_drewN | apply below_drew1) | exact HB.out)) hb); have n1_ := Aside0.mk (hbox); have n2_ := Aside0.mk ((by rw [hg]; exact (below_size (by repeat (first | (with_reducible first | exact HB.out | apply below_alloc | apply pw_below_drewN | apply below_drew1) | exact HB.out))) : w.heap.size ≤ gb101)); have n3_ := Aside0.mk ((by rw [hg]; exact (below_size (by repeat (first | (with_reducible first | exact HB.out | apply below_alloc | apply pw_below_drewN | apply below_drew1) | exact HB.out))) : w.heap.size ≤ gb101)); clear HB; have HB := n0_; have BK101 := n1_; have GW101 := n2_; have GE101 := n3_; clear n0_ n1_ n2_ n3_; clear hb hbox hg; have hcz6_0 : w5.cell? ⟨gb101, 0, none⟩ = some (.bool a1_0) := (blk_cell BK101.out 0).trans rfl; have hcz6_1 : w5.cell? ⟨gb101, 1, none⟩ = some (.string a1_1) := (blk_cell BK101.out 1).trans rfl; have hcz6_2 : w5.cell? ⟨gb101, 2, none⟩ = some (.int .i64 a1_2) := (blk_cell BK101.out 2).trans rfl; have hfz6_0 := blk_frozen BK101.out 0; have hfz6_1 := blk_frozen BK101.out 1; have hfz6_2 := blk_frozen BK101.out 2) | ((with_reducible refine gate_callee (f := 55) rfl ?_); refine goesL_ (some 12) rfl rfl Tryd.func55 (by kernel_rfl) rfl #[.agg #[.bool a1_0, .string a1_1, .int .i64 a1_2]] rfl (by (try simp only [List.map_toArray, List.map_cons, List.map_nil]); first | done | rfl | (simp only [List.length_drop, List.length_take]; rfl)) ?_; (with_reducible refine (polyglotlaw04_parts.calls a1_0 a1_1 a1_2 t102 t103 t104 _ A3.out).mono ?_); rintro e w7 ⟨rfl, hb⟩; refine ⟨_, rfl, ?_⟩; have n0_ := Aside0.mk (blk_below (g := gb101) (o := .cells #[.bool a1_0, .string a1_1, .int .i64 a1_2] 23 (0, 0)) (by (with_reducible repeat (first | refine blk_drewN ?_ _ | refine blk_drew ?_ | refine blk_alloc ?_ _)); exact BK101.out) hb); have n1_ := Aside0.mk (Go.Proofs.YtonjkoeacedaiaaDoorW.PrintWords.below_step (by repeat (first | (with_reducible first | exact HB.out | apply below_alloc | apply pw_below_drewN | apply below_drew1 | refine below_set ?_ GE101.out) | exact HB.out)) hb); clear BK101; clear HB; have BK101 := n0_; have HB := n1_; clear n0_ n1_; (try clear hb); (try clear hb2); (try clear hk); (try clear hi); have hcz8_0 : w7.cell? ⟨gb101, 0, none⟩ = some (.bool a1_0) := (blk_cell BK101.out 0).trans rfl; have hcz8_1 : w7.cell? ⟨gb101, 1, none⟩ = some (.string a1_1) := (blk_cell BK101.out 1).trans rfl; have hcz8_2 : w7.cell? ⟨gb101, 2, none⟩ = some (.int .i64 a1_2) := (blk_cell BK101.out 2).trans rfl; have hfz8_0 := blk_frozen BK101.out 0; have hfz8_1 := blk_frozen BK101.out 1; have hfz8_2 := blk_frozen BK101.out 2))
  (try simp only [Act.put, List.setIfInBounds_toArray, List.set_cons_zero, List.set_cons_succ])
  go_cut [9] (fun v9 wc => ∃ (kq : Nat) (x9_3 : Bool), v9 = .bool x9_3 ∧ Aside0 (polyglotlaw04_Of.j0 kq a0 t102 t103 t104 a1_2 x9_3 = some r) ∧ Aside0 (kq ≤ k) ∧ Aside0 (wc.heap[gb101]? = some (.cells #[.bool a1_0, .string a1_1, .int .i64 a1_2] 23 (0, 0))) ∧ Aside0 (Below w.heap.size w wc))
  case first =>
    have H := HC4.out
    clear HC4
    by_cases c9 : (Int.tmod t102 10) ≥ 2
    · rw [if_pos c9] at H
      have c9b0 : decide (2 ≤ (Int.tmod t102 10)) = true := decide_eq_true c9
      clear c9
      (first | rw [c9b0] | (simp only [i64_w, i32_w]; rw [c9b0]) | skip)
      by_cases c10 : (Int.tmod t102 10) ≤ 4
      · rw [if_pos c10] at H
        have c10b0 : decide ((Int.tmod t102 10) ≤ 4) = true := decide_eq_true c10
        clear c10
        by_cases c11 : t102 < 12
        · rw [if_pos c11] at H
          have c11b0 : decide (t102 < 12) = true := decide_eq_true c11
          clear c11
          have H' := Aside0.mk H
          clear H
          go_wp2
          go_meet
          case rel => exact ⟨_, (true), (by first | rfl | (simp; done) | (simp [*]; done)), H', ⟨by first | omega | exact Nat.le_refl _⟩, ⟨by (with_reducible repeat (first | refine blk_drewN ?_ _ | refine blk_drew ?_ | refine blk_alloc ?_ _)); exact BK101.out⟩, ⟨by repeat (first | (with_reducible first | exact HB.out | apply below_alloc | apply pw_below_drewN | apply below_drew1 | refine below_set ?_ GE101.out) | exact HB.out)⟩⟩
        · rw [if_neg c11] at H
          have c11b0 : decide (t102 < 12) = false := decide_eq_false c11
          clear c11
          have H' := Aside0.mk H
          clear H
          go_wp2
          go_meet
          case rel => exact ⟨_, (decide (t102 > 14)), (by first | rfl | (simp; done) | (simp [*]; done)), H', ⟨by first | omega | exact Nat.le_refl _⟩, ⟨by (with_reducible repeat (first | refine blk_drewN ?_ _ | refine blk_drew ?_ | refine blk_alloc ?_ _)); exact BK101.out⟩, ⟨by repeat (first | (with_reducible first | exact HB.out | apply below_alloc | apply pw_below_drewN | apply below_drew1 | refine below_set ?_ GE101.out) | exact HB.out)⟩⟩
      · rw [if_neg c10] at H
        have c10b0 : decide ((Int.tmod t102 10) ≤ 4) = false := decide_eq_false c10
        clear c10
        have H' := Aside0.mk H
        clear H
        go_wp2
        go_meet
        case rel => exact ⟨_, (false), (by first | rfl | (simp; done) | (simp [*]; done)), H', ⟨by first | omega | exact Nat.le_refl _⟩, ⟨by (with_reducible repeat (first | refine blk_drewN ?_ _ | refine blk_drew ?_ | refine blk_alloc ?_ _)); exact BK101.out⟩, ⟨by repeat (first | (with_reducible first | exact HB.out | apply below_alloc | apply pw_below_drewN | apply below_drew1 | refine below_set ?_ GE101.out) | exact HB.out)⟩⟩
    · rw [if_neg c9] at H
      have c9b0 : decide (2 ≤ (Int.tmod t102 10)) = false := decide_eq_false c9
      clear c9
      (first | rw [c9b0] | (simp only [i64_w, i32_w]; rw [c9b0]) | skip)
      have H' := Aside0.mk H
      clear H
      go_wp2
      go_meet
      case rel => exact ⟨_, (false), (by first | rfl | (simp; done) | (simp [*]; done)), H', ⟨by first | omega | exact Nat.le_refl _⟩, ⟨by (with_reducible repeat (first | refine blk_drewN ?_ _ | refine blk_drew ?_ | refine blk_alloc ?_ _)); exact BK101.out⟩, ⟨by repeat (first | (with_reducible first | exact HB.out | apply below_alloc | apply pw_below_drewN | apply below_drew1 | refine below_set ?_ GE101.out) | exact HB.out)⟩⟩
  case rest =>
    clear HC4
    try clear c1
    try clear c2
    try clear p2
    try clear c5
    try clear c9
    try clear c9b0
    try clear c10
    try clear c10b0
    try clear c11
    try clear c11b0
    try clear hcz6_0
    try clear hcz6_1
    try clear hcz6_2
    try clear hcz8_0
    try clear hcz8_1
    try clear hcz8_2
    try clear hfz6_0
    try clear hfz6_1
    try clear hfz6_2
    try clear hfz8_0
    try clear hfz8_1
    try clear hfz8_2
    obtain ⟨kq, x9_3, rfl, HA, HJ3, BK101, HB⟩ := hcut
    cases kq with
    | zero => exact absurd HA.out (by simp [polyglotlaw04_Of.j0])
    | succ kj3 =>
      have H := HA.out
      clear HA
      simp only [polyglotlaw04_Of.j0] at H
      have HC12 := Aside0.mk H
      clear H
      go_upto_if 35 with (fail)
      go_cut [35] (fun v35 wc => ∃ (kq : Nat) (x35_11 : Bool), v35 = .bool x35_11 ∧ Aside0 (polyglotlaw04_Of.j1 kq a0 t102 t103 t104 a1_2 x9_3 a0 x35_11 = some r) ∧ Aside0 (kq ≤ kj3) ∧ Aside0 (wc.heap[gb101]? = some (.cells #[.bool a1_0, .string a1_1, .int .i64 a1_2] 23 (0, 0))) ∧ Aside0 (Below w.heap.size w wc))
      case first =>
        have H := HC12.out
        clear HC12
        by_cases c13 : a0.toList = ([101, 110] : List UInt8)
        · rw [if_pos c13] at H
          have c13b0 : (a0.toList == ([101, 110] : List UInt8)) = true := beq_iff_eq.mpr c13
          have c13b1 : (a0.toList != ([101, 110] : List UInt8)) = false := bne_eq_false_iff_eq.mpr c13
          clear c13
          (first | rw [c13b0] | (simp only [i64_w, i32_w]; rw [c13b0]) | skip)
          have H' := Aside0.mk H
          clear H
          go_wp2
          go_meet
          case rel => exact ⟨_, ((a0.toList == ([101, 110] : List UInt8))), (by first | rfl | (simp; done) | (simp [*]; done)), H', ⟨by have := HJ3.out; first | omega | exact Nat.le_refl _⟩, ⟨by (with_reducible repeat (first | refine blk_drewN ?_ _ | refine blk_drew ?_ | refine blk_alloc ?_ _)); exact BK101.out⟩, ⟨by repeat (first | (with_reducible first | exact HB.out | apply below_alloc | apply pw_below_drewN | apply below_drew1 | refine below_set ?_ GE101.out) | exact HB.out)⟩⟩
        · rw [if_neg c13] at H
          have c13b0 : (a0.toList == ([101, 110] : List UInt8)) = false := beq_eq_false_iff_ne.mpr c13
          have c13b1 : (a0.toList != ([101, 110] : List UInt8)) = true := bne_iff_ne.mpr c13
          (first | rw [c13b0] | (simp only [i64_w, i32_w]; rw [c13b0]) | skip)
          by_cases c14 : a0.toList = ([100, 101] : List UInt8)
          · rw [if_pos c14] at H
            have c14b0 : (a0.toList == ([100, 101] : List UInt8)) = true := beq_iff_eq.mpr c14
            have c14b1 : (a0.toList != ([100, 101] : List UInt8)) = false := bne_eq_false_iff_eq.mpr c14
            clear c14
            have H' := Aside0.mk H
            clear H
            go_wp2
            go_meet
            case rel => exact ⟨_, ((a0.toList == ([100, 101] : List UInt8))), (by first | rfl | (simp; done) | (simp [*]; done)), H', ⟨by have := HJ3.out; first | omega | exact Nat.le_refl _⟩, ⟨by (with_reducible repeat (first | refine blk_drewN ?_ _ | refine blk_drew ?_ | refine blk_alloc ?_ _)); exact BK101.out⟩, ⟨by repeat (first | (with_reducible first | exact HB.out | apply below_alloc | apply pw_below_drewN | apply below_drew1 | refine below_set ?_ GE101.out) | exact HB.out)⟩⟩
          · rw [if_neg c14] at H
            have c14b0 : (a0.toList == ([100, 101] : List UInt8)) = false := beq_eq_false_iff_ne.mpr c14
            have c14b1 : (a0.toList != ([100, 101] : List UInt8)) = true := bne_iff_ne.mpr c14
            by_cases c15 : a0.toList = ([110, 108] : List UInt8)
            · rw [if_pos c15] at H
              have c15b0 : (a0.toList == ([110, 108] : List UInt8)) = true := beq_iff_eq.mpr c15
              have c15b1 : (a0.toList != ([110, 108] : List UInt8)) = false := bne_eq_false_iff_eq.mpr c15
              clear c15
              have H' := Aside0.mk H
              clear H
              go_wp2
              go_meet
              case rel => exact ⟨_, ((a0.toList == ([110, 108] : List UInt8))), (by first | rfl | (simp; done) | (simp [*]; done)), H', ⟨by have := HJ3.out; first | omega | exact Nat.le_refl _⟩, ⟨by (with_reducible repeat (first | refine blk_drewN ?_ _ | refine blk_drew ?_ | refine blk_alloc ?_ _)); exact BK101.out⟩, ⟨by repeat (first | (with_reducible first | exact HB.out | apply below_alloc | apply pw_below_drewN | apply below_drew1 | refine below_set ?_ GE101.out) | exact HB.out)⟩⟩
            · rw [if_neg c15] at H
              have c15b0 : (a0.toList == ([110, 108] : List UInt8)) = false := beq_eq_false_iff_ne.mpr c15
              have c15b1 : (a0.toList != ([110, 108] : List UInt8)) = true := bne_iff_ne.mpr c15
              have H' := Aside0.mk H
              clear H
              go_wp2
              go_meet
              case rel => exact ⟨_, ((a0.toList == ([115, 118] : List UInt8))), (by first | rfl | (simp; done) | (simp [*]; done)), H', ⟨by have := HJ3.out; first | omega | exact Nat.le_refl _⟩, ⟨by (with_reducible repeat (first | refine blk_drewN ?_ _ | refine blk_drew ?_ | refine blk_alloc ?_ _)); exact BK101.out⟩, ⟨by repeat (first | (with_reducible first | exact HB.out | apply below_alloc | apply pw_below_drewN | apply below_drew1 | refine below_set ?_ GE101.out) | exact HB.out)⟩⟩
      case rest =>
        clear HC12
        try clear c1
        try clear c2
        try clear p2
        try clear c5
        try clear c9
        try clear c9b0
        try clear c10
        try clear c10b0
        try clear c11
        try clear c11b0
        try clear c13
        try clear c13b0
        try clear c13b1
        try clear c14
        try clear c14b0
        try clear c14b1
        try clear c15
        try clear c15b0
        try clear c15b1
        try clear hcz6_0
        try clear hcz6_1
        try clear hcz6_2
        try clear hcz8_0
        try clear hcz8_1
        try clear hcz8_2
        try clear hfz6_0
        try clear hfz6_1
        try clear hfz6_2
        try clear hfz8_0
        try clear hfz8_1
        try clear hfz8_2
        try clear p2
        obtain ⟨kq, x35_11, rfl, HA, HJ11, BK101, HB⟩ := hcut
        cases kq with
        | zero => exact absurd HA.out (by simp [polyglotlaw04_Of.j1])
        | succ kj11 =>
          have H := HA.out
          clear HA
          simp only [polyglotlaw04_Of.j1] at H
          by_cases c16 : x35_11 = true
          · subst c16
            have H1 : (if a1_2 = 0 then (if t103 = true then (some 0) else (if t102 = 1 then (some 2) else (some 0))) else (some 0)) = some r := by rw [if_pos rfl] at H; exact H
            clear H
            have H := H1
            clear H1
            by_cases c17 : a1_2 = 0
            · rw [if_pos c17] at H
              have c17b0 : (a1_2 == 0) = true := beq_iff_eq.mpr c17
              have c17b1 : (a1_2 != 0) = false := bne_eq_false_iff_eq.mpr c17
              clear c17
              by_cases c18 : t103 = true
              · subst c18
                have H1 : (some 0) = some r := by rw [if_pos rfl] at H; exact H
                clear H
                have H := H1
                clear H1
                obtain rfl := Option.some.inj H
                go_wp2
                go_ret
                exact ⟨by first | rfl | (simp [errW_none, errW_some] <;> rfl) | (simp [*, errW_none, errW_some] <;> rfl), by repeat (first | (with_reducible first | exact HB.out | apply below_alloc | apply pw_below_drewN | apply below_drew1 | refine below_set ?_ GE101.out) | exact HB.out)⟩
              · replace c18 := Bool.eq_false_iff.mpr c18
                subst c18
                have H1 : (if t102 = 1 then (some 2) else (some 0)) = some r := by rw [if_neg (show ¬ (false = true) by decide)] at H; exact H
                clear H
                have H := H1
                clear H1
                by_cases c19 : t102 = 1
                · rw [if_pos c19] at H
                  have c19b0 : (t102 == 1) = true := beq_iff_eq.mpr c19
                  have c19b1 : (t102 != 1) = false := bne_eq_false_iff_eq.mpr c19
                  clear c19
                  obtain rfl := Option.some.inj H
                  go_wp2
                  go_ret
                  exact ⟨by first | rfl | (simp [errW_none, errW_some] <;> rfl) | (simp [*, errW_none, errW_some] <;> rfl), by repeat (first | (with_reducible first | exact HB.out | apply below_alloc | apply pw_below_drewN | apply below_drew1 | refine below_set ?_ GE101.out) | exact HB.out)⟩
                · rw [if_neg c19] at H
                  have c19b0 : (t102 == 1) = false := beq_eq_false_iff_ne.mpr c19
                  have c19b1 : (t102 != 1) = true := bne_iff_ne.mpr c19
                  obtain rfl := Option.some.inj H
                  go_wp2
                  go_ret
                  exact ⟨by first | rfl | (simp [errW_none, errW_some] <;> rfl) | (simp [*, errW_none, errW_some] <;> rfl), by repeat (first | (with_reducible first | exact HB.out | apply below_alloc | apply pw_below_drewN | apply below_drew1 | refine below_set ?_ GE101.out) | exact HB.out)⟩
            · rw [if_neg c17] at H
              have c17b0 : (a1_2 == 0) = false := beq_eq_false_iff_ne.mpr c17
              have c17b1 : (a1_2 != 0) = true := bne_iff_ne.mpr c17
              obtain rfl := Option.some.inj H
              go_wp2
              go_ret
              exact ⟨by first | rfl | (simp [errW_none, errW_some] <;> rfl) | (simp [*, errW_none, errW_some] <;> rfl), by repeat (first | (with_reducible first | exact HB.out | apply below_alloc | apply pw_below_drewN | apply below_drew1 | refine below_set ?_ GE101.out) | exact HB.out)⟩
          · replace c16 := Bool.eq_false_iff.mpr c16
            subst c16
            have H1 : (if a0.toList = ([102, 114] : List UInt8) then (if t103 = true then (some 0) else (if t102 ≤ 1 then (some 2) else (some 0))) else (if a0.toList = ([101, 115] : List UInt8) then (if t104 = true then (if t103 = true then (some 0) else (if t102 = 1 then (some 2) else (some 0))) else (some 0)) else (if a0.toList = ([112, 108] : List UInt8) then (polyglotlaw04_Of.j2 kj11 a0 t102 t103 t104 a1_2 x9_3 a0 (a0.toList == ([112, 108] : List UInt8))) else (polyglotlaw04_Of.j2 kj11 a0 t102 t103 t104 a1_2 x9_3 a0 (a0.toList == ([114, 117] : List UInt8)))))) = some r := by rw [if_neg (show ¬ (false = true) by decide)] at H; exact H
            clear H
            have H := H1
            clear H1
            by_cases c20 : a0.toList = ([102, 114] : List UInt8)
            · rw [if_pos c20] at H
              have c20b0 : (a0.toList == ([102, 114] : List UInt8)) = true := beq_iff_eq.mpr c20
              have c20b1 : (a0.toList != ([102, 114] : List UInt8)) = false := bne_eq_false_iff_eq.mpr c20
              clear c20
              by_cases c21 : t103 = true
              · subst c21
                have H1 : (some 0) = some r := by rw [if_pos rfl] at H; exact H
                clear H
                have H := H1
                clear H1
                obtain rfl := Option.some.inj H
                go_wp2
                go_ret
                exact ⟨by first | rfl | (simp [errW_none, errW_some] <;> rfl) | (simp [*, errW_none, errW_some] <;> rfl), by repeat (first | (with_reducible first | exact HB.out | apply below_alloc | apply pw_below_drewN | apply below_drew1 | refine below_set ?_ GE101.out) | exact HB.out)⟩
              · replace c21 := Bool.eq_false_iff.mpr c21
                subst c21
                have H1 : (if t102 ≤ 1 then (some 2) else (some 0)) = some r := by rw [if_neg (show ¬ (false = true) by decide)] at H; exact H
                clear H
                have H := H1
                clear H1
                by_cases c22 : t102 ≤ 1
                · rw [if_pos c22] at H
                  have c22b0 : decide (t102 ≤ 1) = true := decide_eq_true c22
                  clear c22
                  obtain rfl := Option.some.inj H
                  go_wp2
                  go_ret
                  exact ⟨by first | rfl | (simp [errW_none, errW_some] <;> rfl) | (simp [*, errW_none, errW_some] <;> rfl), by repeat (first | (with_reducible first | exact HB.out | apply below_alloc | apply pw_below_drewN | apply below_drew1 | refine below_set ?_ GE101.out) | exact HB.out)⟩
                · rw [if_neg c22] at H
                  have c22b0 : decide (t102 ≤ 1) = false := decide_eq_false c22
                  clear c22
                  obtain rfl := Option.some.inj H
                  go_wp2
                  go_ret
                  exact ⟨by first | rfl | (simp [errW_none, errW_some] <;> rfl) | (simp [*, errW_none, errW_some] <;> rfl), by repeat (first | (with_reducible first | exact HB.out | apply below_alloc | apply pw_below_drewN | apply below_drew1 | refine below_set ?_ GE101.out) | exact HB.out)⟩
            · rw [if_neg c20] at H
              have c20b0 : (a0.toList == ([102, 114] : List UInt8)) = false := beq_eq_false_iff_ne.mpr c20
              have c20b1 : (a0.toList != ([102, 114] : List UInt8)) = true := bne_iff_ne.mpr c20
              by_cases c23 : a0.toList = ([101, 115] : List UInt8)
              · rw [if_pos c23] at H
                have c23b0 : (a0.toList == ([101, 115] : List UInt8)) = true := beq_iff_eq.mpr c23
                have c23b1 : (a0.toList != ([101, 115] : List UInt8)) = false := bne_eq_false_iff_eq.mpr c23
                clear c23
                by_cases c24 : t104 = true
                · subst c24
                  have H1 : (if t103 = true then (some 0) else (if t102 = 1 then (some 2) else (some 0))) = some r := by rw [if_pos rfl] at H; exact H
                  clear H
                  have H := H1
                  clear H1
                  by_cases c25 : t103 = true
                  · subst c25
                    have H1 : (some 0) = some r := by rw [if_pos rfl] at H; exact H
                    clear H
                    have H := H1
                    clear H1
                    obtain rfl := Option.some.inj H
                    go_wp2
                    go_ret
                    exact ⟨by first | rfl | (simp [errW_none, errW_some] <;> rfl) | (simp [*, errW_none, errW_some] <;> rfl), by repeat (first | (with_reducible first | exact HB.out | apply below_alloc | apply pw_below_drewN | apply below_drew1 | refine below_set ?_ GE101.out) | exact HB.out)⟩
                  · replace c25 := Bool.eq_false_iff.mpr c25
                    subst c25
                    have H1 : (if t102 = 1 then (some 2) else (some 0)) = some r := by rw [if_neg (show ¬ (false = true) by decide)] at H; exact H
                    clear H
                    have H := H1
                    clear H1
                    by_cases c26 : t102 = 1
                    · rw [if_pos c26] at H
                      have c26b0 : (t102 == 1) = true := beq_iff_eq.mpr c26
                      have c26b1 : (t102 != 1) = false := bne_eq_false_iff_eq.mpr c26
                      clear c26
                      obtain rfl := Option.some.inj H
                      go_wp2
                      go_ret
                      exact ⟨by first | rfl | (simp [errW_none, errW_some] <;> rfl) | (simp [*, errW_none, errW_some] <;> rfl), by repeat (first | (with_reducible first | exact HB.out | apply below_alloc | apply pw_below_drewN | apply below_drew1 | refine below_set ?_ GE101.out) | exact HB.out)⟩
                    · rw [if_neg c26] at H
                      have c26b0 : (t102 == 1) = false := beq_eq_false_iff_ne.mpr c26
                      have c26b1 : (t102 != 1) = true := bne_iff_ne.mpr c26
                      obtain rfl := Option.some.inj H
                      go_wp2
                      go_ret
                      exact ⟨by first | rfl | (simp [errW_none, errW_some] <;> rfl) | (simp [*, errW_none, errW_some] <;> rfl), by repeat (first | (with_reducible first | exact HB.out | apply below_alloc | apply pw_below_drewN | apply below_drew1 | refine below_set ?_ GE101.out) | exact HB.out)⟩
                · replace c24 := Bool.eq_false_iff.mpr c24
                  subst c24
                  have H1 : (some 0) = some r := by rw [if_neg (show ¬ (false = true) by decide)] at H; exact H
                  clear H
                  have H := H1
                  clear H1
                  obtain rfl := Option.some.inj H
                  go_wp2
                  go_ret
                  exact ⟨by first | rfl | (simp [errW_none, errW_some] <;> rfl) | (simp [*, errW_none, errW_some] <;> rfl), by repeat (first | (with_reducible first | exact HB.out | apply below_alloc | apply pw_below_drewN | apply below_drew1 | refine below_set ?_ GE101.out) | exact HB.out)⟩
              · rw [if_neg c23] at H
                have c23b0 : (a0.toList == ([101, 115] : List UInt8)) = false := beq_eq_false_iff_ne.mpr c23
                have c23b1 : (a0.toList != ([101, 115] : List UInt8)) = true := bne_iff_ne.mpr c23
                have HC27 := Aside0.mk H
                clear H
                go_upto_if 69 with (fail)
                go_cut [69] (fun v69 wc => ∃ (kq : Nat) (x69_26 : Bool), v69 = .bool x69_26 ∧ Aside0 (polyglotlaw04_Of.j2 kq a0 t102 t103 t104 a1_2 x9_3 a0 x69_26 = some r) ∧ Aside0 (kq ≤ kj11) ∧ Aside0 (wc.heap[gb101]? = some (.cells #[.bool a1_0, .string a1_1, .int .i64 a1_2] 23 (0, 0))) ∧ Aside0 (Below w.heap.size w wc))
                case first =>
                  have H := HC27.out
                  clear HC27
                  by_cases c28 : a0.toList = ([112, 108] : List UInt8)
                  · rw [if_pos c28] at H
                    have c28b0 : (a0.toList == ([112, 108] : List UInt8)) = true := beq_iff_eq.mpr c28
                    have c28b1 : (a0.toList != ([112, 108] : List UInt8)) = false := bne_eq_false_iff_eq.mpr c28
                    clear c28
                    (first | rw [c28b0] | (simp only [i64_w, i32_w]; rw [c28b0]) | skip)
                    have H' := Aside0.mk H
                    clear H
                    go_wp2
                    go_meet
                    case rel => exact ⟨_, ((a0.toList == ([112, 108] : List UInt8))), (by first | rfl | (simp; done) | (simp [*]; done)), H', ⟨by have := HJ3.out; have := HJ11.out; first | omega | exact Nat.le_refl _⟩, ⟨by (with_reducible repeat (first | refine blk_drewN ?_ _ | refine blk_drew ?_ | refine blk_alloc ?_ _)); exact BK101.out⟩, ⟨by repeat (first | (with_reducible first | exact HB.out | apply below_alloc | apply pw_below_drewN | apply below_drew1 | refine below_set ?_ GE101.out) | exact HB.out)⟩⟩
                  · rw [if_neg c28] at H
                    have c28b0 : (a0.toList == ([112, 108] : List UInt8)) = false := beq_eq_false_iff_ne.mpr c28
                    have c28b1 : (a0.toList != ([112, 108] : List UInt8)) = true := bne_iff_ne.mpr c28
                    (first | rw [c28b0] | (simp only [i64_w, i32_w]; rw [c28b0]) | skip)
                    have H' := Aside0.mk H
                    clear H
                    go_wp2
                    go_meet
                    case rel => exact ⟨_, ((a0.toList == ([114, 117] : List UInt8))), (by first | rfl | (simp; done) | (simp [*]; done)), H', ⟨by have := HJ3.out; have := HJ11.out; first | omega | exact Nat.le_refl _⟩, ⟨by (with_reducible repeat (first | refine blk_drewN ?_ _ | refine blk_drew ?_ | refine blk_alloc ?_ _)); exact BK101.out⟩, ⟨by repeat (first | (with_reducible first | exact HB.out | apply below_alloc | apply pw_below_drewN | apply below_drew1 | refine below_set ?_ GE101.out) | exact HB.out)⟩⟩
                case rest =>
                  clear HC27
                  try clear c1
                  try clear c2
                  try clear p2
                  try clear c5
                  try clear c9
                  try clear c9b0
                  try clear c10
                  try clear c10b0
                  try clear c11
                  try clear c11b0
                  try clear c13
                  try clear c13b0
                  try clear c13b1
                  try clear c14
                  try clear c14b0
                  try clear c14b1
                  try clear c15
                  try clear c15b0
                  try clear c15b1
                  try clear c16
                  try clear c17
                  try clear c17b0
                  try clear c17b1
                  try clear c18
                  try clear c19
                  try clear c19b0
                  try clear c19b1
                  try clear c20
                  try clear c20b0
                  try clear c20b1
                  try clear c21
                  try clear c22
                  try clear c22b0
                  try clear c23
                  try clear c23b0
                  try clear c23b1
                  try clear c24
                  try clear c25
                  try clear c26
                  try clear c26b0
                  try clear c26b1
                  try clear c28
                  try clear c28b0
                  try clear c28b1
                  try clear hcz6_0
                  try clear hcz6_1
                  try clear hcz6_2
                  try clear hcz8_0
                  try clear hcz8_1
                  try clear hcz8_2
                  try clear hfz6_0
                  try clear hfz6_1
                  try clear hfz6_2
                  try clear hfz8_0
                  try clear hfz8_1
                  try clear hfz8_2
                  try clear p2
                  obtain ⟨kq, x69_26, rfl, HA, HJ26, BK101, HB⟩ := hcut
                  cases kq with
                  | zero => exact absurd HA.out (by simp [polyglotlaw04_Of.j2])
                  | succ kj26 =>
                    have H := HA.out
                    clear HA
                    simp only [polyglotlaw04_Of.j2] at H
                    by_cases c29 : x69_26 = true
                    · subst c29
                      have H1 : (if a1_2 > 0 then (some 0) else (if a0.toList = ([112, 108] : List UInt8) then (if t103 = true then (if a0.toList = ([114, 117] : List UInt8) then (if (Int.tmod t102 10) = 1 then (polyglotlaw04_Of.j3 kj26 x9_3 (t102 != 11)) else (polyglotlaw04_Of.j3 kj26 x9_3 false)) else (polyglotlaw04_Of.j3 kj26 x9_3 false)) else (if t102 = 1 then (polyglotlaw04_Of.j3 kj26 x9_3 true) else (if a0.toList = ([114, 117] : List UInt8) then (if (Int.tmod t102 10) = 1 then (polyglotlaw04_Of.j3 kj26 x9_3 (t102 != 11)) else (polyglotlaw04_Of.j3 kj26 x9_3 false)) else (polyglotlaw04_Of.j3 kj26 x9_3 false)))) else (if a0.toList = ([114, 117] : List UInt8) then (if (Int.tmod t102 10) = 1 then (polyglotlaw04_Of.j3 kj26 x9_3 (t102 != 11)) else (polyglotlaw04_Of.j3 kj26 x9_3 false)) else (polyglotlaw04_Of.j3 kj26 x9_3 false)))) = some r := by rw [if_pos rfl] at H; exact H
                      clear H
                      have H := H1
                      clear H1
                      by_cases c30 : a1_2 > 0
                      · rw [if_pos c30] at H
                        have c30b0 : decide (0 < a1_2) = true := decide_eq_true c30
                        clear c30
                        obtain rfl := Option.some.inj H
                        go_wp2
                        go_ret
                        exact ⟨by first | rfl | (simp [errW_none, errW_some] <;> rfl) | (simp [*, errW_none, errW_some] <;> rfl), by repeat (first | (with_reducible first | exact HB.out | apply below_alloc | apply pw_below_drewN | apply below_drew1 | refine below_set ?_ GE101.out) | exact HB.out)⟩
                      · rw [if_neg c30] at H
                        have c30b0 : decide (0 < a1_2) = false := decide_eq_false c30
                        clear c30
                        have HC31 := Aside0.mk H
                        clear H
                        go_upto_region 21 with (fail)
                        go_cut [75] (fun v75 wc => ∃ (kq : Nat) (x75_30 : Bool), v75 = .bool x75_30 ∧ Aside0 (polyglotlaw04_Of.j3 kq x9_3 x75_30 = some r) ∧ Aside0 (kq ≤ kj26) ∧ Aside0 (wc.heap[gb101]? = some (.cells #[.bool a1_0, .string a1_1, .int .i64 a1_2] 23 (0, 0))) ∧ Aside0 (Below w.heap.size w wc))
                        case first =>
                          have H := HC31.out
                          clear HC31
                          by_cases c32 : a0.toList = ([112, 108] : List UInt8)
                          · rw [if_pos c32] at H
                            have c32b0 : (a0.toList == ([112, 108] : List UInt8)) = true := beq_iff_eq.mpr c32
                            have c32b1 : (a0.toList != ([112, 108] : List UInt8)) = false := bne_eq_false_iff_eq.mpr c32
                            clear c32
                            (first | rw [c32b0] | (simp only [i64_w, i32_w]; rw [c32b0]) | skip)
                            by_cases c33 : t103 = true
                            · subst c33
                              have H1 : (if a0.toList = ([114, 117] : List UInt8) then (if (Int.tmod t102 10) = 1 then (polyglotlaw04_Of.j3 kj26 x9_3 (t102 != 11)) else (polyglotlaw04_Of.j3 kj26 x9_3 false)) else (polyglotlaw04_Of.j3 kj26 x9_3 false)) = some r := by rw [if_pos rfl] at H; exact H
                              clear H
                              have H := H1
                              clear H1
                              by_cases c34 : a0.toList = ([114, 117] : List UInt8)
                              · rw [if_pos c34] at H
                                have c34b0 : (a0.toList == ([114, 117] : List UInt8)) = true := beq_iff_eq.mpr c34
                                have c34b1 : (a0.toList != ([114, 117] : List UInt8)) = false := bne_eq_false_iff_eq.mpr c34
                                clear c34
                                by_cases c35 : (Int.tmod t102 10) = 1
                                · rw [if_pos c35] at H
                                  have c35b0 : ((Int.tmod t102 10) == 1) = true := beq_iff_eq.mpr c35
                                  have c35b1 : ((Int.tmod t102 10) != 1) = false := bne_eq_false_iff_eq.mpr c35
                                  clear c35
                                  have H' := Aside0.mk H
                                  clear H
                                  go_wp2
                                  go_meet
                                  case rel => exact ⟨_, ((t102 != 11)), (by first | rfl | (simp; done) | (simp [*]; done)), H', ⟨by have := HJ3.out; have := HJ11.out; have := HJ26.out; first | omega | exact Nat.le_refl _⟩, ⟨by (with_reducible repeat (first | refine blk_drewN ?_ _ | refine blk_drew ?_ | refine blk_alloc ?_ _)); exact BK101.out⟩, ⟨by repeat (first | (with_reducible first | exact HB.out | apply below_alloc | apply pw_below_drewN | apply below_drew1 | refine below_set ?_ GE101.out) | exact HB.out)⟩⟩
                                · rw [if_neg c35] at H
                                  have c35b0 : ((Int.tmod t102 10) == 1) = false := beq_eq_false_iff_ne.mpr c35
                                  have c35b1 : ((Int.tmod t102 10) != 1) = true := bne_iff_ne.mpr c35
                                  have H' := Aside0.mk H
                                  clear H
                                  go_wp2
                                  go_meet
                                  case rel => exact ⟨_, (false), (by first | rfl | (simp; done) | (simp [*]; done)), H', ⟨by have := HJ3.out; have := HJ11.out; have := HJ26.out; first | omega | exact Nat.le_refl _⟩, ⟨by (with_reducible repeat (first | refine blk_drewN ?_ _ | refine blk_drew ?_ | refine blk_alloc ?_ _)); exact BK101.out⟩, ⟨by repeat (first | (with_reducible first | exact HB.out | apply below_alloc | apply pw_below_drewN | apply below_drew1 | refine below_set ?_ GE101.out) | exact HB.out)⟩⟩
                              · rw [if_neg c34] at H
                                have c34b0 : (a0.toList == ([114, 117] : List UInt8)) = false := beq_eq_false_iff_ne.mpr c34
                                have c34b1 : (a0.toList != ([114, 117] : List UInt8)) = true := bne_iff_ne.mpr c34
                                have H' := Aside0.mk H
                                clear H
                                go_wp2
                                go_meet
                                case rel => exact ⟨_, (false), (by first | rfl | (simp; done) | (simp [*]; done)), H', ⟨by have := HJ3.out; have := HJ11.out; have := HJ26.out; first | omega | exact Nat.le_refl _⟩, ⟨by (with_reducible repeat (first | refine blk_drewN ?_ _ | refine blk_drew ?_ | refine blk_alloc ?_ _)); exact BK101.out⟩, ⟨by repeat (first | (with_reducible first | exact HB.out | apply below_alloc | apply pw_below_drewN | apply below_drew1 | refine below_set ?_ GE101.out) | exact HB.out)⟩⟩
                            · replace c33 := Bool.eq_false_iff.mpr c33
                              subst c33
                              have H1 : (if t102 = 1 then (polyglotlaw04_Of.j3 kj26 x9_3 true) else (if a0.toList = ([114, 117] : List UInt8) then (if (Int.tmod t102 10) = 1 then (polyglotlaw04_Of.j3 kj26 x9_3 (t102 != 11)) else (polyglotlaw04_Of.j3 kj26 x9_3 false)) else (polyglotlaw04_Of.j3 kj26 x9_3 false))) = some r := by rw [if_neg (show ¬ (false = true) by decide)] at H; exact H
                              clear H
                              have H := H1
                              clear H1
                              by_cases c36 : t102 = 1
                              · rw [if_pos c36] at H
                                have c36b0 : (t102 == 1) = true := beq_iff_eq.mpr c36
                                have c36b1 : (t102 != 1) = false := bne_eq_false_iff_eq.mpr c36
                                clear c36
                                have H' := Aside0.mk H
                                clear H
                                go_wp2
                                go_meet
                                case rel => exact ⟨_, (true), (by first | rfl | (simp; done) | (simp [*]; done)), H', ⟨by have := HJ3.out; have := HJ11.out; have := HJ26.out; first | omega | exact Nat.le_refl _⟩, ⟨by (with_reducible repeat (first | refine blk_drewN ?_ _ | refine blk_drew ?_ | refine blk_alloc ?_ _)); exact BK101.out⟩, ⟨by repeat (first | (with_reducible first | exact HB.out | apply below_alloc | apply pw_below_drewN | apply below_drew1 | refine below_set ?_ GE101.out) | exact HB.out)⟩⟩
                              · rw [if_neg c36] at H
                                have c36b0 : (t102 == 1) = false := beq_eq_false_iff_ne.mpr c36
                                have c36b1 : (t102 != 1) = true := bne_iff_ne.mpr c36
                                by_cases c37 : a0.toList = ([114, 117] : List UInt8)
                                · rw [if_pos c37] at H
                                  have c37b0 : (a0.toList == ([114, 117] : List UInt8)) = true := beq_iff_eq.mpr c37
                                  have c37b1 : (a0.toList != ([114, 117] : List UInt8)) = false := bne_eq_false_iff_eq.mpr c37
                                  clear c37
                                  by_cases c38 : (Int.tmod t102 10) = 1
                                  · rw [if_pos c38] at H
                                    have c38b0 : ((Int.tmod t102 10) == 1) = true := beq_iff_eq.mpr c38
                                    have c38b1 : ((Int.tmod t102 10) != 1) = false := bne_eq_false_iff_eq.mpr c38
                                    clear c38
                                    have H' := Aside0.mk H
                                    clear H
                                    go_wp2
                                    go_meet
                                    case rel => exact ⟨_, ((t102 != 11)), (by first | rfl | (simp; done) | (simp [*]; done)), H', ⟨by have := HJ3.out; have := HJ11.out; have := HJ26.out; first | omega | exact Nat.le_refl _⟩, ⟨by (with_reducible repeat (first | refine blk_drewN ?_ _ | refine blk_drew ?_ | refine blk_alloc ?_ _)); exact BK101.out⟩, ⟨by repeat (first | (with_reducible first | exact HB.out | apply below_alloc | apply pw_below_drewN | apply below_drew1 | refine below_set ?_ GE101.out) | exact HB.out)⟩⟩
                                  · rw [if_neg c38] at H
                                    have c38b0 : ((Int.tmod t102 10) == 1) = false := beq_eq_false_iff_ne.mpr c38
                                    have c38b1 : ((Int.tmod t102 10) != 1) = true := bne_iff_ne.mpr c38
                                    have H' := Aside0.mk H
                                    clear H
                                    go_wp2
                                    go_meet
                                    case rel => exact ⟨_, (false), (by first | rfl | (simp; done) | (simp [*]; done)), H', ⟨by have := HJ3.out; have := HJ11.out; have := HJ26.out; first | omega | exact Nat.le_refl _⟩, ⟨by (with_reducible repeat (first | refine blk_drewN ?_ _ | refine blk_drew ?_ | refine blk_alloc ?_ _)); exact BK101.out⟩, ⟨by repeat (first | (with_reducible first | exact HB.out | apply below_alloc | apply pw_below_drewN | apply below_drew1 | refine below_set ?_ GE101.out) | exact HB.out)⟩⟩
                                · rw [if_neg c37] at H
                                  have c37b0 : (a0.toList == ([114, 117] : List UInt8)) = false := beq_eq_false_iff_ne.mpr c37
                                  have c37b1 : (a0.toList != ([114, 117] : List UInt8)) = true := bne_iff_ne.mpr c37
                                  have H' := Aside0.mk H
                                  clear H
                                  go_wp2
                                  go_meet
                                  case rel => exact ⟨_, (false), (by first | rfl | (simp; done) | (simp [*]; done)), H', ⟨by have := HJ3.out; have := HJ11.out; have := HJ26.out; first | omega | exact Nat.le_refl _⟩, ⟨by (with_reducible repeat (first | refine blk_drewN ?_ _ | refine blk_drew ?_ | refine blk_alloc ?_ _)); exact BK101.out⟩, ⟨by repeat (first | (with_reducible first | exact HB.out | apply below_alloc | apply pw_below_drewN | apply below_drew1 | refine below_set ?_ GE101.out) | exact HB.out)⟩⟩
                          · rw [if_neg c32] at H
                            have c32b0 : (a0.toList == ([112, 108] : List UInt8)) = false := beq_eq_false_iff_ne.mpr c32
                            have c32b1 : (a0.toList != ([112, 108] : List UInt8)) = true := bne_iff_ne.mpr c32
                            (first | rw [c32b0] | (simp only [i64_w, i32_w]; rw [c32b0]) | skip)
                            by_cases c39 : a0.toList = ([114, 117] : List UInt8)
                            · rw [if_pos c39] at H
                              have c39b0 : (a0.toList == ([114, 117] : List UInt8)) = true := beq_iff_eq.mpr c39
                              have c39b1 : (a0.toList != ([114, 117] : List UInt8)) = false := bne_eq_false_iff_eq.mpr c39
                              clear c39
                              by_cases c40 : (Int.tmod t102 10) = 1
                              · rw [if_pos c40] at H
                                have c40b0 : ((Int.tmod t102 10) == 1) = true := beq_iff_eq.mpr c40
                                have c40b1 : ((Int.tmod t102 10) != 1) = false := bne_eq_false_iff_eq.mpr c40
                                clear c40
                                have H' := Aside0.mk H
                                clear H
                                go_wp2
                                go_meet
                                case rel => exact ⟨_, ((t102 != 11)), (by first | rfl | (simp; done) | (simp [*]; done)), H', ⟨by have := HJ3.out; have := HJ11.out; have := HJ26.out; first | omega | exact Nat.le_refl _⟩, ⟨by (with_reducible repeat (first | refine blk_drewN ?_ _ | refine blk_drew ?_ | refine blk_alloc ?_ _)); exact BK101.out⟩, ⟨by repeat (first | (with_reducible first | exact HB.out | apply below_alloc | apply pw_below_drewN | apply below_drew1 | refine below_set ?_ GE101.out) | exact HB.out)⟩⟩
                              · rw [if_neg c40] at H
                                have c40b0 : ((Int.tmod t102 10) == 1) = false := beq_eq_false_iff_ne.mpr c40
                                have c40b1 : ((Int.tmod t102 10) != 1) = true := bne_iff_ne.mpr c40
                                have H' := Aside0.mk H
                                clear H
                                go_wp2
                                go_meet
                                case rel => exact ⟨_, (false), (by first | rfl | (simp; done) | (simp [*]; done)), H', ⟨by have := HJ3.out; have := HJ11.out; have := HJ26.out; first | omega | exact Nat.le_refl _⟩, ⟨by (with_reducible repeat (first | refine blk_drewN ?_ _ | refine blk_drew ?_ | refine blk_alloc ?_ _)); exact BK101.out⟩, ⟨by repeat (first | (with_reducible first | exact HB.out | apply below_alloc | apply pw_below_drewN | apply below_drew1 | refine below_set ?_ GE101.out) | exact HB.out)⟩⟩
                            · rw [if_neg c39] at H
                              have c39b0 : (a0.toList == ([114, 117] : List UInt8)) = false := beq_eq_false_iff_ne.mpr c39
                              have c39b1 : (a0.toList != ([114, 117] : List UInt8)) = true := bne_iff_ne.mpr c39
                              have H' := Aside0.mk H
                              clear H
                              go_wp2
                              go_meet
                              case rel => exact ⟨_, (false), (by first | rfl | (simp; done) | (simp [*]; done)), H', ⟨by have := HJ3.out; have := HJ11.out; have := HJ26.out; first | omega | exact Nat.le_refl _⟩, ⟨by (with_reducible repeat (first | refine blk_drewN ?_ _ | refine blk_drew ?_ | refine blk_alloc ?_ _)); exact BK101.out⟩, ⟨by repeat (first | (with_reducible first | exact HB.out | apply below_alloc | apply pw_below_drewN | apply below_drew1 | refine below_set ?_ GE101.out) | exact HB.out)⟩⟩
                        case rest =>
                          clear HC31
                          try clear c1
                          try clear c2
                          try clear p2
                          try clear c3
                          try clear c4
                          try clear c5
                          try clear c9
                          try clear c9b0
                          try clear c10
                          try clear c10b0
                          try clear c11
                          try clear c11b0
                          try clear c13
                          try clear c13b0
                          try clear c13b1
                          try clear c14
                          try clear c14b0
                          try clear c14b1
                          try clear c15
                          try clear c15b0
                          try clear c15b1
                          try clear c16
                          try clear c17
                          try clear c17b0
                          try clear c17b1
                          try clear c18
                          try clear c19
                          try clear c19b0
                          try clear c19b1
                          try clear c20
                          try clear c20b0
                          try clear c20b1
                          try clear c21
                          try clear c22
                          try clear c22b0
                          try clear c23
                          try clear c23b0
                          try clear c23b1
                          try clear c24
                          try clear c25
                          try clear c26
                          try clear c26b0
                          try clear c26b1
                          try clear c28
                          try clear c28b0
                          try clear c28b1
                          try clear c29
                          try clear c30
                          try clear c30b0
                          try clear c32
                          try clear c32b0
                          try clear c32b1
                          try clear c33
                          try clear c34
                          try clear c34b0
                          try clear c34b1
                          try clear c35
                          try clear c35b0
                          try clear c35b1
                          try clear c36
                          try clear c36b0
                          try clear c36b1
                          try clear c37
                          try clear c37b0
                          try clear c37b1
                          try clear c38
                          try clear c38b0
                          try clear c38b1
                          try clear c39
                          try clear c39b0
                          try clear c39b1
                          try clear c40
                          try clear c40b0
                          try clear c40b1
                          try clear hcz6_0
                          try clear hcz6_1
                          try clear hcz6_2
                          try clear hcz8_0
                          try clear hcz8_1
                          try clear hcz8_2
                          try clear hfz6_0
                          try clear hfz6_1
                          try clear hfz6_2
                          try clear hfz8_0
                          try clear hfz8_1
                          try clear hfz8_2
                          try clear p2
                          obtain ⟨kq, x75_30, rfl, HA, HJ30, BK101, HB⟩ := hcut
                          cases kq with
                          | zero => exact absurd HA.out (by simp [polyglotlaw04_Of.j3])
                          | succ kj30 =>
                            have H := HA.out
                            clear HA
                            simp only [polyglotlaw04_Of.j3] at H
                            by_cases c41 : x75_30 = true
                            · subst c41
                              have H1 : (some 2) = some r := by rw [if_pos rfl] at H; exact H
                              clear H
                              have H := H1
                              clear H1
                              obtain rfl := Option.some.inj H
                              go_wp2
                              go_ret
                              exact ⟨by first | rfl | (simp [errW_none, errW_some] <;> rfl) | (simp [*, errW_none, errW_some] <;> rfl), by repeat (first | (with_reducible first | exact HB.out | apply below_alloc | apply pw_below_drewN | apply below_drew1 | refine below_set ?_ GE101.out) | exact HB.out)⟩
                            · replace c41 := Bool.eq_false_iff.mpr c41
                              subst c41
                              have H1 : (if x9_3 = true then (some 4) else (some 5)) = some r := by rw [if_neg (show ¬ (false = true) by decide)] at H; exact H
                              clear H
                              have H := H1
                              clear H1
                              by_cases c42 : x9_3 = true
                              · subst c42
                                have H1 : (some 4) = some r := by rw [if_pos rfl] at H; exact H
                                clear H
                                have H := H1
                                clear H1
                                obtain rfl := Option.some.inj H
                                go_wp2
                                go_ret
                                exact ⟨by first | rfl | (simp [errW_none, errW_some] <;> rfl) | (simp [*, errW_none, errW_some] <;> rfl), by repeat (first | (with_reducible first | exact HB.out | apply below_alloc | apply pw_below_drewN | apply below_drew1 | refine below_set ?_ GE101.out) | exact HB.out)⟩
                              · replace c42 := Bool.eq_false_iff.mpr c42
                                subst c42
                                have H1 : (some 5) = some r := by rw [if_neg (show ¬ (false = true) by decide)] at H; exact H
                                clear H
                                have H := H1
                                clear H1
                                obtain rfl := Option.some.inj H
                                go_wp2
                                go_ret
                                exact ⟨by first | rfl | (simp [errW_none, errW_some] <;> rfl) | (simp [*, errW_none, errW_some] <;> rfl), by repeat (first | (with_reducible first | exact HB.out | apply below_alloc | apply pw_below_drewN | apply below_drew1 | refine below_set ?_ GE101.out) | exact HB.out)⟩
                    · replace c29 := Bool.eq_false_iff.mpr c29
                      subst c29
                      have H1 : (if a0.toList = ([99, 115] : List UInt8) then (if a1_2 > 0 then (some 5) else (if t103 = true then (polyglotlaw04_Of.j4 kj26 t102 t103 false) else (polyglotlaw04_Of.j4 kj26 t102 t103 (t102 == 1)))) else (if a0.toList = ([97, 114] : List UInt8) then (if t104 = true then (if t103 = true then (polyglotlaw04_Of.j5 kj26 t102 false) else (polyglotlaw04_Of.j5 kj26 t102 (decide (t102 ≤ 2)))) else (some 0)) else (some 0))) = some r := by rw [if_neg (show ¬ (false = true) by decide)] at H; exact H
                      clear H
                      have H := H1
                      clear H1
                      by_cases c43 : a0.toList = ([99, 115] : List UInt8)
                      · rw [if_pos c43] at H
                        have c43b0 : (a0.toList == ([99, 115] : List UInt8)) = true := beq_iff_eq.mpr c43
                        have c43b1 : (a0.toList != ([99, 115] : List UInt8)) = false := bne_eq_false_iff_eq.mpr c43
                        clear c43
                        by_cases c44 : a1_2 > 0
                        · rw [if_pos c44] at H
                          have c44b0 : decide (0 < a1_2) = true := decide_eq_true c44
                          clear c44
                          obtain rfl := Option.some.inj H
                          go_wp2
                          go_ret
                          exact ⟨by first | rfl | (simp [errW_none, errW_some] <;> rfl) | (simp [*, errW_none, errW_some] <;> rfl), by repeat (first | (with_reducible first | exact HB.out | apply below_alloc | apply pw_below_drewN | apply below_drew1 | refine below_set ?_ GE101.out) | exact HB.out)⟩
                        · rw [if_neg c44] at H
                          have c44b0 : decide (0 < a1_2) = false := decide_eq_false c44
                          clear c44
                          have HC45 := Aside0.mk H
                          clear H
                          go_upto_region 29 with (fail)
                          go_cut [106] (fun v106 wc => ∃ (kq : Nat) (x106_44 : Bool), v106 = .bool x106_44 ∧ Aside0 (polyglotlaw04_Of.j4 kq t102 t103 x106_44 = some r) ∧ Aside0 (kq ≤ kj26) ∧ Aside0 (wc.heap[gb101]? = some (.cells #[.bool a1_0, .string a1_1, .int .i64 a1_2] 23 (0, 0))) ∧ Aside0 (Below w.heap.size w wc))
                          case first =>
                            have H := HC45.out
                            clear HC45
                            by_cases c46 : t103 = true
                            · subst c46
                              have H1 : (polyglotlaw04_Of.j4 kj26 t102 true false) = some r := by rw [if_pos rfl] at H; exact H
                              clear H
                              have H := H1
                              clear H1
                              have H' := Aside0.mk H
                              clear H
                              go_wp2
                              go_meet
                              case rel => exact ⟨_, (false), (by first | rfl | (simp; done) | (simp [*]; done)), H', ⟨by have := HJ3.out; have := HJ11.out; have := HJ26.out; first | omega | exact Nat.le_refl _⟩, ⟨by (with_reducible repeat (first | refine blk_drewN ?_ _ | refine blk_drew ?_ | refine blk_alloc ?_ _)); exact BK101.out⟩, ⟨by repeat (first | (with_reducible first | exact HB.out | apply below_alloc | apply pw_below_drewN | apply below_drew1 | refine below_set ?_ GE101.out) | exact HB.out)⟩⟩
                            · replace c46 := Bool.eq_false_iff.mpr c46
                              subst c46
                              have H1 : (polyglotlaw04_Of.j4 kj26 t102 false (t102 == 1)) = some r := by rw [if_neg (show ¬ (false = true) by decide)] at H; exact H
                              clear H
                              have H := H1
                              clear H1
                              have H' := Aside0.mk H
                              clear H
                              go_wp2
                              go_meet
                              case rel => exact ⟨_, ((t102 == 1)), (by first | rfl | (simp; done) | (simp [*]; done)), H', ⟨by have := HJ3.out; have := HJ11.out; have := HJ26.out; first | omega | exact Nat.le_refl _⟩, ⟨by (with_reducible repeat (first | refine blk_drewN ?_ _ | refine blk_drew ?_ | refine blk_alloc ?_ _)); exact BK101.out⟩, ⟨by repeat (first | (with_reducible first | exact HB.out | apply below_alloc | apply pw_below_drewN | apply below_drew1 | refine below_set ?_ GE101.out) | exact HB.out)⟩⟩
                          case rest =>
                            clear HC45
                            try clear c1
                            try clear c2
                            try clear p2
                            try clear c3
                            try clear c4
                            try clear c5
                            try clear c9
                            try clear c9b0
                            try clear c10
                            try clear c10b0
                            try clear c11
                            try clear c11b0
                            try clear c13
                            try clear c13b0
                            try clear c13b1
                            try clear c14
                            try clear c14b0
                            try clear c14b1
                            try clear c15
                            try clear c15b0
                            try clear c15b1
                            try clear c16
                            try clear c17
                            try clear c17b0
                            try clear c17b1
                            try clear c18
                            try clear c19
                            try clear c19b0
                            try clear c19b1
                            try clear c20
                            try clear c20b0
                            try clear c20b1
                            try clear c21
                            try clear c22
                            try clear c22b0
                            try clear c23
                            try clear c23b0
                            try clear c23b1
                            try clear c24
                            try clear c25
                            try clear c26
                            try clear c26b0
                            try clear c26b1
                            try clear c28
                            try clear c28b0
                            try clear c28b1
                            try clear c29
                            try clear c30
                            try clear c30b0
                            try clear c32
                            try clear c32b0
                            try clear c32b1
                            try clear c33
                            try clear c34
                            try clear c34b0
                            try clear c34b1
                            try clear c35
                            try clear c35b0
                            try clear c35b1
                            try clear c36
                            try clear c36b0
                            try clear c36b1
                            try clear c37
                            try clear c37b0
                            try clear c37b1
                            try clear c38
                            try clear c38b0
                            try clear c38b1
                            try clear c39
                            try clear c39b0
                            try clear c39b1
                            try clear c40
                            try clear c40b0
                            try clear c40b1
                            try clear c41
                            try clear c42
                            try clear c43
                            try clear c43b0
                            try clear c43b1
                            try clear c44
                            try clear c44b0
                            try clear c46
                            try clear hcz6_0
                            try clear hcz6_1
                            try clear hcz6_2
                            try clear hcz8_0
                            try clear hcz8_1
                            try clear hcz8_2
                            try clear hfz6_0
                            try clear hfz6_1
                            try clear hfz6_2
                            try clear hfz8_0
                            try clear hfz8_1
                            try clear hfz8_2
                            try clear p2
                            obtain ⟨kq, x106_44, rfl, HA, HJ44, BK101, HB⟩ := hcut
                            cases kq with
                            | zero => exact absurd HA.out (by simp [polyglotlaw04_Of.j4])
                            | succ kj44 =>
                              have H := HA.out
                              clear HA
                              simp only [polyglotlaw04_Of.j4] at H
                              by_cases c47 : x106_44 = true
                              · subst c47
                                have H1 : (some 2) = some r := by rw [if_pos rfl] at H; exact H
                                clear H
                                have H := H1
                                clear H1
                                obtain rfl := Option.some.inj H
                                go_wp2
                                go_ret
                                exact ⟨by first | rfl | (simp [errW_none, errW_some] <;> rfl) | (simp [*, errW_none, errW_some] <;> rfl), by repeat (first | (with_reducible first | exact HB.out | apply below_alloc | apply pw_below_drewN | apply below_drew1 | refine below_set ?_ GE101.out) | exact HB.out)⟩
                              · replace c47 := Bool.eq_false_iff.mpr c47
                                subst c47
                                have H1 : (if t103 = true then (some 0) else (if t102 ≥ 2 then (if t102 ≤ 4 then (some 4) else (some 0)) else (some 0))) = some r := by rw [if_neg (show ¬ (false = true) by decide)] at H; exact H
                                clear H
                                have H := H1
                                clear H1
                                by_cases c48 : t103 = true
                                · subst c48
                                  have H1 : (some 0) = some r := by rw [if_pos rfl] at H; exact H
                                  clear H
                                  have H := H1
                                  clear H1
                                  obtain rfl := Option.some.inj H
                                  go_wp2
                                  go_ret
                                  exact ⟨by first | rfl | (simp [errW_none, errW_some] <;> rfl) | (simp [*, errW_none, errW_some] <;> rfl), by repeat (first | (with_reducible first | exact HB.out | apply below_alloc | apply pw_below_drewN | apply below_drew1 | refine below_set ?_ GE101.out) | exact HB.out)⟩
                                · replace c48 := Bool.eq_false_iff.mpr c48
                                  subst c48
                                  have H1 : (if t102 ≥ 2 then (if t102 ≤ 4 then (some 4) else (some 0)) else (some 0)) = some r := by rw [if_neg (show ¬ (false = true) by decide)] at H; exact H
                                  clear H
                                  have H := H1
                                  clear H1
                                  by_cases c49 : t102 ≥ 2
                                  · rw [if_pos c49] at H
                                    have c49b0 : decide (2 ≤ t102) = true := decide_eq_true c49
                                    clear c49
                                    by_cases c50 : t102 ≤ 4
                                    · rw [if_pos c50] at H
                                      have c50b0 : decide (t102 ≤ 4) = true := decide_eq_true c50
                                      clear c50
                                      obtain rfl := Option.some.inj H
                                      go_wp2
                                      go_ret
                                      exact ⟨by first | rfl | (simp [errW_none, errW_some] <;> rfl) | (simp [*, errW_none, errW_some] <;> rfl), by repeat (first | (with_reducible first | exact HB.out | apply below_alloc | apply pw_below_drewN | apply below_drew1 | refine below_set ?_ GE101.out) | exact HB.out)⟩
                                    · rw [if_neg c50] at H
                                      have c50b0 : decide (t102 ≤ 4) = false := decide_eq_false c50
                                      clear c50
                                      obtain rfl := Option.some.inj H
                                      go_wp2
                                      go_ret
                                      exact ⟨by first | rfl | (simp [errW_none, errW_some] <;> rfl) | (simp [*, errW_none, errW_some] <;> rfl), by repeat (first | (with_reducible first | exact HB.out | apply below_alloc | apply pw_below_drewN | apply below_drew1 | refine below_set ?_ GE101.out) | exact HB.out)⟩
                                  · rw [if_neg c49] at H
                                    have c49b0 : decide (2 ≤ t102) = false := decide_eq_false c49
                                    clear c49
                                    obtain rfl := Option.some.inj H
                                    go_wp2
                                    go_ret
                                    exact ⟨by first | rfl | (simp [errW_none, errW_some] <;> rfl) | (simp [*, errW_none, errW_some] <;> rfl), by repeat (first | (with_reducible first | exact HB.out | apply below_alloc | apply pw_below_drewN | apply below_drew1 | refine below_set ?_ GE101.out) | exact HB.out)⟩
                      · rw [if_neg c43] at H
                        have c43b0 : (a0.toList == ([99, 115] : List UInt8)) = false := beq_eq_false_iff_ne.mpr c43
                        have c43b1 : (a0.toList != ([99, 115] : List UInt8)) = true := bne_iff_ne.mpr c43
                        by_cases c51 : a0.toList = ([97, 114] : List UInt8)
                        · rw [if_pos c51] at H
                          have c51b0 : (a0.toList == ([97, 114] : List UInt8)) = true := beq_iff_eq.mpr c51
                          have c51b1 : (a0.toList != ([97, 114] : List UInt8)) = false := bne_eq_false_iff_eq.mpr c51
                          clear c51
                          by_cases c52 : t104 = true
                          · subst c52
                            have H1 : (if t103 = true then (polyglotlaw04_Of.j5 kj26 t102 false) else (polyglotlaw04_Of.j5 kj26 t102 (decide (t102 ≤ 2)))) = some r := by rw [if_pos rfl] at H; exact H
                            clear H
                            have H := H1
                            clear H1
                            have HC53 := Aside0.mk H
                            clear H
                            go_upto_region 36 with (fail)
                            go_cut [129] (fun v129 wc => ∃ (kq : Nat) (x129_52 : Bool), v129 = .bool x129_52 ∧ Aside0 (polyglotlaw04_Of.j5 kq t102 x129_52 = some r) ∧ Aside0 (kq ≤ kj26) ∧ Aside0 (wc.heap[gb101]? = some (.cells #[.bool a1_0, .string a1_1, .int .i64 a1_2] 23 (0, 0))) ∧ Aside0 (Below w.heap.size w wc))
                            case first =>
                              have H := HC53.out
                              clear HC53
                              by_cases c54 : t103 = true
                              · subst c54
                                have H1 : (polyglotlaw04_Of.j5 kj26 t102 false) = some r := by rw [if_pos rfl] at H; exact H
                                clear H
                                have H := H1
                                clear H1
                                have H' := Aside0.mk H
                                clear H
                                go_wp2
                                go_meet
                                case rel => exact ⟨_, (false), (by first | rfl | (simp; done) | (simp [*]; done)), H', ⟨by have := HJ3.out; have := HJ11.out; have := HJ26.out; first | omega | exact Nat.le_refl _⟩, ⟨by (with_reducible repeat (first | refine blk_drewN ?_ _ | refine blk_drew ?_ | refine blk_alloc ?_ _)); exact BK101.out⟩, ⟨by repeat (first | (with_reducible first | exact HB.out | apply below_alloc | apply pw_below_drewN | apply below_drew1 | refine below_set ?_ GE101.out) | exact HB.out)⟩⟩
                              · replace c54 := Bool.eq_false_iff.mpr c54
                                subst c54
                                have H1 : (polyglotlaw04_Of.j5 kj26 t102 (decide (t102 ≤ 2))) = some r := by rw [if_neg (show ¬ (false = true) by decide)] at H; exact H
                                clear H
                                have H := H1
                                clear H1
                                have H' := Aside0.mk H
                                clear H
                                go_wp2
                                go_meet
                                case rel => exact ⟨_, (decide (t102 ≤ 2)), (by first | rfl | (simp; done) | (simp [*]; done)), H', ⟨by have := HJ3.out; have := HJ11.out; have := HJ26.out; first | omega | exact Nat.le_refl _⟩, ⟨by (with_reducible repeat (first | refine blk_drewN ?_ _ | refine blk_drew ?_ | refine blk_alloc ?_ _)); exact BK101.out⟩, ⟨by repeat (first | (with_reducible first | exact HB.out | apply below_alloc | apply pw_below_drewN | apply below_drew1 | refine below_set ?_ GE101.out) | exact HB.out)⟩⟩
                            case rest =>
                              clear HC53
                              try clear c1
                              try clear c2
                              try clear p2
                              try clear c3
                              try clear c4
                              try clear c5
                              try clear c9
                              try clear c9b0
                              try clear c10
                              try clear c10b0
                              try clear c11
                              try clear c11b0
                              try clear c13
                              try clear c13b0
                              try clear c13b1
                              try clear c14
                              try clear c14b0
                              try clear c14b1
                              try clear c15
                              try clear c15b0
                              try clear c15b1
                              try clear c16
                              try clear c17
                              try clear c17b0
                              try clear c17b1
                              try clear c18
                              try clear c19
                              try clear c19b0
                              try clear c19b1
                              try clear c20
                              try clear c20b0
                              try clear c20b1
                              try clear c21
                              try clear c22
                              try clear c22b0
                              try clear c23
                              try clear c23b0
                              try clear c23b1
                              try clear c24
                              try clear c25
                              try clear c26
                              try clear c26b0
                              try clear c26b1
                              try clear c28
                              try clear c28b0
                              try clear c28b1
                              try clear c29
                              try clear c30
                              try clear c30b0
                              try clear c32
                              try clear c32b0
                              try clear c32b1
                              try clear c33
                              try clear c34
                              try clear c34b0
                              try clear c34b1
                              try clear c35
                              try clear c35b0
                              try clear c35b1
                              try clear c36
                              try clear c36b0
                              try clear c36b1
                              try clear c37
                              try clear c37b0
                              try clear c37b1
                              try clear c38
                              try clear c38b0
                              try clear c38b1
                              try clear c39
                              try clear c39b0
                              try clear c39b1
                              try clear c40
                              try clear c40b0
                              try clear c40b1
                              try clear c41
                              try clear c42
                              try clear c43
                              try clear c43b0
                              try clear c43b1
                              try clear c44
                              try clear c44b0
                              try clear c46
                              try clear c47
                              try clear c48
                              try clear c49
                              try clear c49b0
                              try clear c50
                              try clear c50b0
                              try clear c51
                              try clear c51b0
                              try clear c51b1
                              try clear c52
                              try clear c54
                              try clear hcz6_0
                              try clear hcz6_1
                              try clear hcz6_2
                              try clear hcz8_0
                              try clear hcz8_1
                              try clear hcz8_2
                              try clear hfz6_0
                              try clear hfz6_1
                              try clear hfz6_2
                              try clear hfz8_0
                              try clear hfz8_1
                              try clear hfz8_2
                              try clear p2
                              obtain ⟨kq, x129_52, rfl, HA, HJ52, BK101, HB⟩ := hcut
                              cases kq with
                              | zero => exact absurd HA.out (by simp [polyglotlaw04_Of.j5])
                              | succ kj52 =>
                                have H := HA.out
                                clear HA
                                simp only [polyglotlaw04_Of.j5] at H
                                by_cases c55 : x129_52 = true
                                · subst c55
                                  have H1 : ((some (([1, 2, 3] : List Int) : List Int)).bind fun y105 => (if 0 ≤ t102 then (if t102 < (y105.length : Int) then (some (rd y105 t102)) else (none)) else (none))) = some r := by rw [if_pos rfl] at H; exact H
                                  clear H
                                  have H := H1
                                  clear H1
                                  obtain ⟨y105, hy105⟩ : ∃ y_ : List Int, y_ = (([1, 2, 3] : List Int)) := ⟨_, rfl⟩
                                  replace H : (if 0 ≤ t102 then (if t102 < (y105.length : Int) then (some (rd y105 t102)) else (none)) else (none)) = some r := by first | (rw [hy105]; with_reducible exact H) | (have H2_ := (Option.bind_some _ _).symm.trans H; rw [hy105]; with_reducible exact H2_) | (have H2_ := (Option.bind_some _ _).symm.trans H; with_reducible exact H2_) | with_reducible exact H | (rw [hy105]; exact H) | exact H
                                  have Ny105 := Aside0.mk hy105
                                  clear hy105
                                  by_cases c56 : 0 ≤ t102
                                  · rw [if_pos c56] at H
                                    have c56b0 : decide (0 ≤ t102) = true := decide_eq_true c56
                                    clear c56
                                    by_cases c57 : t102 < (y105.length : Int)
                                    · rw [if_pos c57] at H
                                      have c57b0 : decide (t102 < (y105.length : Int)) = true := decide_eq_true c57
                                      clear c57
                                      obtain rfl := Option.some.inj H
                                      go_wp2_with (first | ((with_reducible refine gate_dst (N := 136) rfl ?_); refine Kd.R_lit (Kd.int .i64) _ 26 ?hg (N := 136) ?hd (xs := ([1, 2, 3] : List Int)) (inner := [.int .i64 1, .int .i64 2, .int .i64 3]) (ok := fun _ => True) (okp := fun _ => True) ?hr ?hp (fun _ hk => hk) trivial (Below.refl _ _) (Nat.le_refl _) (by simp) ?_; (case hd => rfl); (case hg => rfl); (case hr => first | (go_simp; done) | (go_simp; rfl)); (case hp => exact (Reps.one (show Kd.M (Kd.int .i64) _ _ _ 1 [.int .i64 1] from rfl) (Reps.one (show Kd.M (Kd.int .i64) _ _ _ 2 [.int .i64 2] from rfl) (Reps.one (show Kd.M (Kd.int .i64) _ _ _ 3 [.int .i64 3] from rfl) (Reps.none _ _))))); intro v106 w58 ho59 hb hg_ hnew_; clear hg_ hnew_; (first | rw [← Ny105.out] at ho59 | (simp only [Int.reduceToNat] at ho59; rw [← Ny105.out] at ho59)); have n0_ := Aside0.mk (Kd.R_lower ho59 (below_size (by repeat (first | (with_reducible first | exact HB.out | apply below_alloc | apply pw_below_drewN | apply below_drew1 | refine below_set ?_ GE101.out) | exact HB.out)))); have n1_ := Aside0.mk (blk_below (g := gb101) (o := .cells #[.bool a1_0, .string a1_1, .int .i64 a1_2] 23 (0, 0)) (by (with_reducible repeat (first | refine blk_drewN ?_ _ | refine blk_drew ?_ | refine blk_alloc ?_ _)); exact BK101.out) hb); have n2_ := Aside0.mk (Go.Proofs.YtonjkoeacedaiaaDoorW.PrintWords.below_step (by repeat (first | (with_reducible first | exact HB.out | apply below_alloc | apply pw_below_drewN | apply below_drew1 | refine below_set ?_ GE101.out) | exact HB.out)) hb); clear BK101; clear HB; have HO107 := n0_; have BK101 := n1_; have HB := n2_; clear n0_ n1_ n2_; clear hb ho59; obtain ⟨Ao60, co60, eo60⟩ := Kd.R_slice HO107.out; subst eo60; have p108 : 0 ≤ (t102 : Int) := of_decide_eq_true (by first | (with_reducible assumption) | assumption); have q108 : t102 < (y105.length : Int) := of_decide_eq_true (by first | (with_reducible assumption) | assumption); obtain ⟨ad108, e108, hx108_0⟩ := Kd.at_int (Kd.R_reads' HO107.out).2.2 t102 p108 q108; cases e108; replace p108 := eq_true p108; replace q108 := eq_true q108))
                                      go_ret
                                      exact ⟨by first | rfl | (simp [errW_none, errW_some] <;> rfl) | (simp [*, errW_none, errW_some] <;> rfl), by repeat (first | (with_reducible first | exact HB.out | apply below_alloc | apply pw_below_drewN | apply below_drew1 | refine below_set ?_ GE101.out) | exact HB.out)⟩
                                    · rw [if_neg c57] at H
                                      exact absurd H (by simp)
                                  · rw [if_neg c56] at H
                                    exact absurd H (by simp)
                                · replace c55 := Bool.eq_false_iff.mpr c55
                                  subst c55
                                  have H1 : (if t102 ≥ 3 then (polyglotlaw04_Of.j6 kj52 t102 (decide (t102 ≤ 10))) else (polyglotlaw04_Of.j6 kj52 t102 false)) = some r := by rw [if_neg (show ¬ (false = true) by decide)] at H; exact H
                                  clear H
                                  have H := H1
                                  clear H1
                                  have HC61 := Aside0.mk H
                                  clear H
                                  go_upto_region 38 with (fail)
                                  go_cut [140] (fun v140 wc => ∃ (kq : Nat) (x140_60 : Bool), v140 = .bool x140_60 ∧ Aside0 (polyglotlaw04_Of.j6 kq t102 x140_60 = some r) ∧ Aside0 (kq ≤ kj52) ∧ Aside0 (wc.heap[gb101]? = some (.cells #[.bool a1_0, .string a1_1, .int .i64 a1_2] 23 (0, 0))) ∧ Aside0 (Below w.heap.size w wc))
                                  case first =>
                                    have H := HC61.out
                                    clear HC61
                                    by_cases c62 : t102 ≥ 3
                                    · rw [if_pos c62] at H
                                      have c62b0 : decide (3 ≤ t102) = true := decide_eq_true c62
                                      clear c62
                                      (first | rw [c62b0] | (simp only [i64_w, i32_w]; rw [c62b0]) | skip)
                                      have H' := Aside0.mk H
                                      clear H
                                      go_wp2
                                      go_meet
                                      case rel => exact ⟨_, (decide (t102 ≤ 10)), (by first | rfl | (simp; done) | (simp [*]; done)), H', ⟨by have := HJ3.out; have := HJ11.out; have := HJ26.out; have := HJ52.out; first | omega | exact Nat.le_refl _⟩, ⟨by (with_reducible repeat (first | refine blk_drewN ?_ _ | refine blk_drew ?_ | refine blk_alloc ?_ _)); exact BK101.out⟩, ⟨by repeat (first | (with_reducible first | exact HB.out | apply below_alloc | apply pw_below_drewN | apply below_drew1 | refine below_set ?_ GE101.out) | exact HB.out)⟩⟩
                                    · rw [if_neg c62] at H
                                      have c62b0 : decide (3 ≤ t102) = false := decide_eq_false c62
                                      clear c62
                                      (first | rw [c62b0] | (simp only [i64_w, i32_w]; rw [c62b0]) | skip)
                                      have H' := Aside0.mk H
                                      clear H
                                      go_wp2
                                      go_meet
                                      case rel => exact ⟨_, (false), (by first | rfl | (simp; done) | (simp [*]; done)), H', ⟨by have := HJ3.out; have := HJ11.out; have := HJ26.out; have := HJ52.out; first | omega | exact Nat.le_refl _⟩, ⟨by (with_reducible repeat (first | refine blk_drewN ?_ _ | refine blk_drew ?_ | refine blk_alloc ?_ _)); exact BK101.out⟩, ⟨by repeat (first | (with_reducible first | exact HB.out | apply below_alloc | apply pw_below_drewN | apply below_drew1 | refine below_set ?_ GE101.out) | exact HB.out)⟩⟩
                                  case rest =>
                                    clear HC61
                                    try clear c1
                                    try clear p1
                                    try clear q1
                                    try clear hx1
                                    try clear c2
                                    try clear p2
                                    try clear c3
                                    try clear c4
                                    try clear c5
                                    try clear c6
                                    try clear c9
                                    try clear c9b0
                                    try clear c10
                                    try clear c10b0
                                    try clear p10
                                    try clear q10
                                    try clear hx10
                                    try clear c11
                                    try clear c11b0
                                    try clear c13
                                    try clear c13b0
                                    try clear c13b1
                                    try clear c14
                                    try clear c14b0
                                    try clear c14b1
                                    try clear c15
                                    try clear c15b0
                                    try clear c15b1
                                    try clear c16
                                    try clear c17
                                    try clear c17b0
                                    try clear c17b1
                                    try clear c18
                                    try clear c19
                                    try clear c19b0
                                    try clear c19b1
                                    try clear c20
                                    try clear c20b0
                                    try clear c20b1
                                    try clear c21
                                    try clear c22
                                    try clear c22b0
                                    try clear c23
                                    try clear c23b0
                                    try clear c23b1
                                    try clear c24
                                    try clear c25
                                    try clear c26
                                    try clear c26b0
                                    try clear c26b1
                                    try clear c28
                                    try clear c28b0
                                    try clear c28b1
                                    try clear c29
                                    try clear c30
                                    try clear c30b0
                                    try clear c32
                                    try clear c32b0
                                    try clear c32b1
                                    try clear c33
                                    try clear c34
                                    try clear c34b0
                                    try clear c34b1
                                    try clear c35
                                    try clear c35b0
                                    try clear c35b1
                                    try clear c36
                                    try clear c36b0
                                    try clear c36b1
                                    try clear c37
                                    try clear c37b0
                                    try clear c37b1
                                    try clear c38
                                    try clear c38b0
                                    try clear c38b1
                                    try clear c39
                                    try clear c39b0
                                    try clear c39b1
                                    try clear c40
                                    try clear c40b0
                                    try clear c40b1
                                    try clear c41
                                    try clear c42
                                    try clear c43
                                    try clear c43b0
                                    try clear c43b1
                                    try clear c44
                                    try clear c44b0
                                    try clear c46
                                    try clear c47
                                    try clear c48
                                    try clear c49
                                    try clear c49b0
                                    try clear c50
                                    try clear c50b0
                                    try clear c51
                                    try clear c51b0
                                    try clear c51b1
                                    try clear c52
                                    try clear c54
                                    try clear c55
                                    try clear c56
                                    try clear c56b0
                                    try clear c57
                                    try clear c57b0
                                    try clear c62
                                    try clear c62b0
                                    try clear hcz6_0
                                    try clear hcz6_1
                                    try clear hcz6_2
                                    try clear hcz8_0
                                    try clear hcz8_1
                                    try clear hcz8_2
                                    try clear hfz6_0
                                    try clear hfz6_1
                                    try clear hfz6_2
                                    try clear hfz8_0
                                    try clear hfz8_1
                                    try clear hfz8_2
                                    try clear hx108_0
                                    try clear p108
                                    try clear p2
                                    try clear q108
                                    obtain ⟨kq, x140_60, rfl, HA, HJ60, BK101, HB⟩ := hcut
                                    cases kq with
                                    | zero => exact absurd HA.out (by simp [polyglotlaw04_Of.j6])
                                    | succ kj60 =>
                                      have H := HA.out
                                      clear HA
                                      simp only [polyglotlaw04_Of.j6] at H
                                      by_cases c63 : x140_60 = true
                                      · subst c63
                                        have H1 : (some 4) = some r := by rw [if_pos rfl] at H; exact H
                                        clear H
                                        have H := H1
                                        clear H1
                                        obtain rfl := Option.some.inj H
                                        go_wp2
                                        go_ret
                                        exact ⟨by first | rfl | (simp [errW_none, errW_some] <;> rfl) | (simp [*, errW_none, errW_some] <;> rfl), by repeat (first | (with_reducible first | exact HB.out | apply below_alloc | apply pw_below_drewN | apply below_drew1 | refine below_set ?_ GE101.out) | exact HB.out)⟩
                                      · replace c63 := Bool.eq_false_iff.mpr c63
                                        subst c63
                                        have H1 : (if t102 ≥ 11 then (some 5) else (some 0)) = some r := by rw [if_neg (show ¬ (false = true) by decide)] at H; exact H
                                        clear H
                                        have H := H1
                                        clear H1
                                        by_cases c64 : t102 ≥ 11
                                        · rw [if_pos c64] at H
                                          have c64b0 : decide (11 ≤ t102) = true := decide_eq_true c64
                                          clear c64
                                          obtain rfl := Option.some.inj H
                                          go_wp2
                                          go_ret
                                          exact ⟨by first | rfl | (simp [errW_none, errW_some] <;> rfl) | (simp [*, errW_none, errW_some] <;> rfl), by repeat (first | (with_reducible first | exact HB.out | apply below_alloc | apply pw_below_drewN | apply below_drew1 | refine below_set ?_ GE101.out) | exact HB.out)⟩
                                        · rw [if_neg c64] at H
                                          have c64b0 : decide (11 ≤ t102) = false := decide_eq_false c64
                                          clear c64
                                          obtain rfl := Option.some.inj H
                                          go_wp2
                                          go_ret
                                          exact ⟨by first | rfl | (simp [errW_none, errW_some] <;> rfl) | (simp [*, errW_none, errW_some] <;> rfl), by repeat (first | (with_reducible first | exact HB.out | apply below_alloc | apply pw_below_drewN | apply below_drew1 | refine below_set ?_ GE101.out) | exact HB.out)⟩
                          · replace c52 := Bool.eq_false_iff.mpr c52
                            subst c52
                            have H1 : (some 0) = some r := by rw [if_neg (show ¬ (false = true) by decide)] at H; exact H
                            clear H
                            have H := H1
                            clear H1
                            obtain rfl := Option.some.inj H
                            go_wp2
                            go_ret
                            exact ⟨by first | rfl | (simp [errW_none, errW_some] <;> rfl) | (simp [*, errW_none, errW_some] <;> rfl), by repeat (first | (with_reducible first | exact HB.out | apply below_alloc | apply pw_below_drewN | apply below_drew1 | refine below_set ?_ GE101.out) | exact HB.out)⟩
                        · rw [if_neg c51] at H
                          have c51b0 : (a0.toList == ([97, 114] : List UInt8)) = false := beq_eq_false_iff_ne.mpr c51
                          have c51b1 : (a0.toList != ([97, 114] : List UInt8)) = true := bne_iff_ne.mpr c51
                          obtain rfl := Option.some.inj H
                          go_wp2
                          go_ret
                          exact ⟨by first | rfl | (simp [errW_none, errW_some] <;> rfl) | (simp [*, errW_none, errW_some] <;> rfl), by repeat (first | (with_reducible first | exact HB.out | apply below_alloc | apply pw_below_drewN | apply below_drew1 | refine below_set ?_ GE101.out) | exact HB.out)⟩

end Go.Proofs.YtonjkoeacedaiaaDoor.H
