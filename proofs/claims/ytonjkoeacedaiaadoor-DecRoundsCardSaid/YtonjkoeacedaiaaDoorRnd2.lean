/- DecRounds: whatever number and scale come in, the call returns true and leaves them as they were (Text 3 of 3: what the law's proof rests on, joined; walks printed by the kit's print over given contracts, walks and plain laws by hand.) -/
import Derived.Deep.RegionWith
import Derived.StillTailTactics
import Derived.ChangeKeysEq
import Derived.Test.YtonjkoeacedaiaaDoorProg
import Derived.Below
import Derived.Deep.Draws
import Derived.Deep.AppendLies
import Derived.Maps.AppendAt
import Derived.OwnWalk
import Derived.Laws.BytesArg
import Derived.Laws.MakeOwn
import Derived.Laws.OwnMore
import Derived.Deep.OwnRows
import Derived.Tactics
import Derived.Lib.ConvBytes
import Derived.Laws.Slices
import Derived.WalkKit
import Derived.KernelRfl
import Derived.RowKit3
import Derived.Deep.LoopGhost
import Derived.Deep.QuietTactic
import Derived.BigQuiet
import Derived.WideLaws
import Derived.Deep.DeepCutAuto
import Derived.Deep.CutBlock
import Derived.Deep.RegionHeld3
import Derived.Laws.Rows
import Derived.Lib.AppendStr
import Derived.ArgAppend
import Derived.Laws.IdiomCopy
import Derived.OrdersHeld
import Derived.Laws.BitsLemmas
import Derived.RowKit
import Derived.Laws.Cover1
import Derived.Test.YtonjkoeacedaiaaDoorRnd0
import Derived.Test.YtonjkoeacedaiaaDoorRnd1
namespace Go.Proofs.YtonjkoeacedaiaaDoor
open Go.RowKit
set_option linter.unusedVariables false
set_option linter.unusedSimpArgs false
def fixC (f : Nat → Int) : Array Value := ((List.range 200).map fun p => Value.int .i64 (f p)).toArray
theorem fixC_size (f : Nat → Int) : (fixC f).size = 200 := by simp [fixC]
theorem fixC_at (f : Nat → Int) (p : Nat) (h : p < 200) : (fixC f)[p]? = some (.int .i64 (f p)) := by simp [fixC, h]
def lessF (f g : Nat → Int) : Nat → Int
  | 0 => 0
  | j + 1 => if f (199 - j) < g (199 - j) then -1 else if f (199 - j) > g (199 - j) then 1 else lessF f g j
theorem lessF_at (f g : Nat → Int) (i : Nat) (h : i < 200) : lessF f g (200 - i) = if f i < g i then -1 else if f i > g i then 1 else lessF f g (200 - (i + 1)) := by
  rw [show 200 - i = (199 - i) + 1 by omega, show 200 - (i + 1) = 199 - i by omega]
  show (if f (199 - (199 - i)) < g (199 - (199 - i)) then (-1 : Int) else if f (199 - (199 - i)) > g (199 - (199 - i)) then 1 else lessF f g (199 - i)) = _
  rw [show 199 - (199 - i) = i by omega]
set_option maxRecDepth 100000 in
set_option maxHeartbeats 2000000 in
theorem less_any (f g : Nat → Int) (w : World) :
    Calls Tryd.prog 42 #[.agg (fixC f), .agg (fixC g)] w fun e w' => e = .returned (.int .i64 (lessF f g 200)) ∧ Below w.heap.size w w' := by
  obtain ⟨R, hR⟩ : ∃ R, lessF f g 200 = R := ⟨_, rfl⟩
  rw [hR]
  have hfa := fun p h => fixC_at f p h
  have hga := fun p h => fixC_at g p h
  have hfs := fixC_size f
  have hgs := fixC_size g
  generalize fixC f = A at *
  generalize fixC g = B at *
  have bA := ((Below.refl w.heap.size w).alloc (Nat.le_refl _) (.cells A 69)).alloc (by simp) (.cells B 69)
  have hB := heap_alloc_new (w.alloc (.cells A 69)) (.cells B 69)
  rw [show (w.alloc (.cells A 69)).heap.size = w.heap.size + 1 by simp] at hB
  have hA := (Below.heap_alloc (w.alloc (.cells A 69)) (.cells B 69) w.heap.size (by simp)).trans (heap_alloc_new w (.cells A 69))
  go_enter Tryd.func42, Tryd.ntmps42
  go_wp2
  have HA := Lib.hid hA; clear hA
  have HB := Lib.hid hB; clear hB
  have HW := Lib.hid bA; clear bA
  have HR := Lib.hid hR; clear hR
  have Hf := Lib.hid hfa; clear hfa
  have Hg := Lib.hid hga; clear hga
  go_loopg [6] 200 (fun gk v6 wx => ∃ i : Nat, v6 = .int .i64 i ∧ i ≤ 200 ∧ Below w.heap.size w wx ∧ wx.heap[w.heap.size]? = some (.cells A 69 (0, 0)) ∧ wx.heap[w.heap.size + 1]? = some (.cells B 69 (0, 0)) ∧ lessF f g (200 - i) = R ∧ 200 ≤ i + gk)
  case atStart => exact ⟨0, rfl, by omega, HW.out, HA.out, HB.out, HR.out, by omega⟩
  case round =>
    obtain ⟨i, rfl, hi, hbw, hB0, hB1, hr, hfu⟩ := hrel
    clear HA HB HW HR
    by_cases hp : i < 200
    · obtain ⟨k, rfl⟩ : ∃ f, gk = f + 1 := ⟨gk - 1, by omega⟩
      have c0 := (Lib.cell_of_heap hB0 i).trans (Hf.out i hp)
      have c1 := (Lib.cell_of_heap hB1 i).trans (Hg.out i hp)
      have hstep := lessF_at f g i hp
      rw [hstep] at hr
      clear hstep
      generalize f i = x at *
      generalize g i = y at *
      rcases (show (x < y) ∨ (¬ x < y ∧ x > y) ∨ (¬ x < y ∧ ¬ x > y) by omega) with h1 | ⟨h1, h2⟩ | ⟨h1, h2⟩
      · rw [if_pos h1] at hr
        subst hr
        have e1 : decide (x < y) = true := decide_eq_true h1
        clear h1
        go_wp2
        go_region_with (fail)
        all_goals
          go_wp2
          go_ret
          exact ⟨rfl, by first | exact hbw | exact hbw.drew | exact hbw.drew.drew⟩
      · rw [if_neg h1, if_pos h2] at hr
        subst hr
        have e1 : decide (x < y) = false := decide_eq_false h1
        have e2 : decide (x > y) = true := decide_eq_true h2
        clear h1 h2
        go_wp2
        go_region_with (fail)
        all_goals
          go_wp2
          go_region_with (fail)
          all_goals
            go_wp2
            go_ret
            exact ⟨rfl, by first | exact hbw | exact hbw.drew | exact hbw.drew.drew⟩
      · rw [if_neg h1, if_neg h2] at hr
        have Hr := Lib.hid hr; clear hr
        have e1 : decide (x < y) = false := decide_eq_false h1
        have e2 : decide (x > y) = false := decide_eq_false h2
        clear h1 h2
        go_wp2
        go_region_with (fail)
        all_goals
          go_wp2
          go_region_with (fail)
          all_goals
            go_wp2
            go_roundg k
            case measure => omega
            case rel => exact ⟨i + 1, by go_num, by omega, by first | exact hbw | exact hbw.drew | exact hbw.drew.drew, by first | exact hB0 | simpa using hB0, by first | exact hB1 | simpa using hB1, Hr.out, by omega⟩
    · obtain rfl : i = 200 := by omega
      have hz : R = 0 := by rw [← hr]; rfl
      subst hz
      go_wp2
      go_ret
      exact ⟨rfl, by first | exact hbw | exact hbw.drew⟩
end Go.Proofs.YtonjkoeacedaiaaDoor
namespace Go.Proofs.YtonjkoeacedaiaaDoor.S
open Go.RowKit Go.Proofs.YtonjkoeacedaiaaDoor Go.Proofs.YtonjkoeacedaiaaDoor.G Go.Proofs.YtonjkoeacedaiaaDoor.U Go.Proofs.YtonjkoeacedaiaaDoor.R Go.Proofs.YtonjkoeacedaiaaDoor.PU Go.Proofs.YtonjkoeacedaiaaDoorW.PrintWords Go.Proofs.YtonjkoeacedaiaaDoorW.PrintMore
set_option linter.unusedVariables false
set_option linter.unusedSimpArgs false
def fv (f : Nat → Int) : Nat → Int
  | 0 => 0
  | j + 1 => f (199 - j) * ((10 ^ j : Nat) : Int) + fv f j
def Dg (f : Nat → Int) : Prop := ∀ p, 0 ≤ f p ∧ f p ≤ 9
theorem fv_lt {f : Nat → Int} (hf : Dg f) : ∀ j, 0 ≤ fv f j ∧ fv f j < ((10 ^ j : Nat) : Int)
  | 0 => by simp [fv]
  | j + 1 => by
    obtain ⟨h1, h2⟩ := fv_lt hf j
    obtain ⟨h3, h4⟩ := hf (199 - j)
    have h5 : f (199 - j) * ((10 ^ j : Nat) : Int) ≤ 9 * ((10 ^ j : Nat) : Int) := Int.mul_le_mul_of_nonneg_right h4 (by omega)
    have h6 : 0 ≤ f (199 - j) * ((10 ^ j : Nat) : Int) := Int.mul_nonneg h3 (by omega)
    rw [fv, Nat.pow_succ]
    omega
theorem mul_step {x y P : Int} (hP : 0 < P) (h : x < y) : x * P + P ≤ y * P := by
  have := Int.mul_le_mul_of_nonneg_right (show x + 1 ≤ y by omega) (show 0 ≤ P by omega)
  rw [Int.add_mul, Int.one_mul] at this
  exact this
theorem lessF_fv {f g : Nat → Int} (hf : Dg f) (hg : Dg g) : ∀ j, lessF f g j = isg (fv f j) (fv g j)
  | 0 => rfl
  | j + 1 => by
    have ih := lessF_fv hf hg j
    obtain ⟨a1, a2⟩ := fv_lt hf j
    obtain ⟨b1, b2⟩ := fv_lt hg j
    have hP : (0 : Int) < ((10 ^ j : Nat) : Int) := by have : 0 < 10 ^ j := Nat.pow_pos (by decide); omega
    rw [lessF, fv, fv]
    generalize ((10 ^ j : Nat) : Int) = P at *
    unfold isg
    rcases Int.lt_trichotomy (f (199 - j)) (g (199 - j)) with h | h | h
    · have := mul_step hP h
      rw [if_pos h, if_pos (by omega)]
    · rw [if_neg (by omega), if_neg (by omega), ih, h]
      unfold isg
      generalize g (199 - j) * P = z
      by_cases c1 : fv f j < fv g j
      · rw [if_pos c1, if_pos (by omega)]
      · by_cases c2 : fv f j = fv g j
        · rw [if_neg c1, if_pos c2, if_neg (by omega), if_pos (by omega)]
        · rw [if_neg c1, if_neg c2, if_neg (by omega), if_neg (by omega)]
    · have := mul_step hP h
      rw [if_neg (by omega), if_pos h, if_neg (by omega), if_neg (by omega)]
theorem fv_list (L : List UInt8) (hL : L.length = 200) (f : Nat → Int) (hf : ∀ p, p < 200 → f p = (dv (L.getD p 0) : Int)) : ∀ j, j ≤ 200 → fv f j = (val (L.drop (200 - j)) : Int)
  | 0, _ => by rw [List.drop_of_length_le (by omega)]; rfl
  | j + 1, hj => by
    have ih := fv_list L hL f hf j (by omega)
    have hlt : 200 - (j + 1) < L.length := by omega
    rw [fv, ih, List.drop_eq_getElem_cons hlt, val_cons, show 200 - (j + 1) + 1 = 200 - j by omega, List.length_drop, hL, show 200 - (200 - j) = j by omega, hf _ (by omega), show 199 - j = 200 - (j + 1) by omega,
      List.getD_eq_getElem?_getD, List.getElem?_eq_getElem hlt]
    simp
theorem fixD_val (D : List UInt8) (m : Nat) (hd : digs D = true) (hm : m ≤ 100) (hl : D.length ≤ 100 + m) : fv (fixD D m D.length) 200 = ((val D * 10 ^ (100 + m - D.length) : Nat) : Int) ∧ Dg (fixD D m D.length) := by
  constructor
  · have hlen : (List.replicate (100 - m) (48 : UInt8) ++ (D ++ List.replicate (100 + m - D.length) 48)).length = 200 := by simp; omega
    have := fv_list (List.replicate (100 - m) 48 ++ (D ++ List.replicate (100 + m - D.length) 48)) hlen (fixD D m D.length) (fun p hp => by
      unfold fixD
      simp only [List.getD_eq_getElem?_getD]
      rw [List.getElem?_append, List.length_replicate]
      by_cases h1 : p < 100 - m
      · rw [if_neg (by omega), if_pos h1, List.getElem?_replicate, if_pos h1]
        rfl
      · rw [if_neg h1, List.getElem?_append]
        by_cases h2 : p - (100 - m) < D.length
        · rw [if_pos (by omega), if_pos h2, List.getElem?_eq_getElem h2]
          have := dig_le (digs_at hd _ (List.getElem_mem h2))
          show _ = ((D[p - (100 - m)].toNat - 48 : Nat) : Int)
          simp
          omega
        · rw [if_neg (by omega), if_neg h2, List.getElem?_replicate, if_pos (by omega)]
          rfl) 200 (Nat.le_refl _)
    rw [this, show 200 - 200 = 0 from rfl, List.drop_zero, val_app, val_app, val_rep, val_rep, List.length_replicate]
    simp
  · intro p
    unfold fixD
    split
    · rename_i h
      have hlt : p - (100 - m) < D.length := by omega
      rw [List.getD_eq_getElem?_getD, List.getElem?_eq_getElem hlt]
      have := dig_le (digs_at hd _ (List.getElem_mem hlt))
      simp
      omega
    · omega
end Go.Proofs.YtonjkoeacedaiaaDoor.S
namespace Go.Proofs.YtonjkoeacedaiaaDoor.S
open Go.RowKit Go.Proofs.YtonjkoeacedaiaaDoor Go.Proofs.YtonjkoeacedaiaaDoor.G Go.Proofs.YtonjkoeacedaiaaDoor.U Go.Proofs.YtonjkoeacedaiaaDoor.R Go.Proofs.YtonjkoeacedaiaaDoor.PU Go.Proofs.YtonjkoeacedaiaaDoorW.PrintWords Go.Proofs.YtonjkoeacedaiaaDoorW.PrintMore
set_option linter.unusedVariables false
set_option linter.unusedSimpArgs false
def bor (f g : Nat → Int) : Nat → Int
  | 0 => 0
  | j + 1 => if f (199 - j) - bor f g j - g (199 - j) < 0 then 1 else 0
def dif (f g : Nat → Int) (p : Nat) : Int := if p < 200 then f p - bor f g (199 - p) - g p + 10 * bor f g (200 - p) else 0
def subSt (f g : Nat → Int) (j p : Nat) : Int := if 200 ≤ p + j then dif f g p else if p + j = 199 then f p - bor f g j else f p
theorem bor_or (f g : Nat → Int) : ∀ j, bor f g j = 0 ∨ bor f g j = 1
  | 0 => Or.inl rfl
  | j + 1 => by
    rw [bor]
    split
    · exact Or.inr rfl
    · exact Or.inl rfl
theorem dif_at (f g : Nat → Int) (j : Nat) (hj : j < 200) : dif f g (199 - j) = f (199 - j) - bor f g j - g (199 - j) + 10 * bor f g (j + 1) := by
  unfold dif
  rw [if_pos (by omega), show 199 - (199 - j) = j by omega, show 200 - (199 - j) = j + 1 by omega]
theorem dif_dg {f g : Nat → Int} (hf : Dg f) (hg : Dg g) : Dg (dif f g) := by
  intro p
  by_cases hp : p < 200
  · have e := dif_at f g (199 - p) (by omega)
    rw [show 199 - (199 - p) = p by omega, bor, show 199 - (199 - p) = p by omega] at e
    have h1 := hf p
    have h2 := hg p
    have h3 := bor_or f g (199 - p)
    rw [e]
    split <;> omega
  · unfold dif
    rw [if_neg hp]
    omega
theorem dif_fv (f g : Nat → Int) : ∀ j, j ≤ 200 → fv (dif f g) j = fv f j - fv g j + bor f g j * ((10 ^ j : Nat) : Int)
  | 0, _ => by simp [fv, bor]
  | j + 1, hj => by
    have ih := dif_fv f g j (by omega)
    rw [fv, fv, fv, ih, dif_at f g j (by omega), Nat.pow_succ]
    generalize bor f g (j + 1) = b
    generalize bor f g j = c
    generalize f (199 - j) = x
    generalize g (199 - j) = y
    push_cast
    generalize (10 : Int) ^ j = P
    rw [Int.add_mul, Int.sub_mul, Int.sub_mul, Int.mul_assoc 10 b P, ← Int.mul_assoc b P 10, Int.mul_comm (b * P) 10]
    omega
theorem bor_end {f g : Nat → Int} (hf : Dg f) (hg : Dg g) (h : fv g 200 ≤ fv f 200) : bor f g 200 = 0 := by
  have h1 := dif_fv f g 200 (Nat.le_refl _)
  have h2 := fv_lt (dif_dg hf hg) 200
  rcases bor_or f g 200 with h3 | h3
  · exact h3
  · rw [h3] at h1
    generalize ((10 ^ 200 : Nat) : Int) = P at *
    omega
theorem dif_val {f g : Nat → Int} (hf : Dg f) (hg : Dg g) (h : fv g 200 ≤ fv f 200) : fv (dif f g) 200 = fv f 200 - fv g 200 := by
  rw [dif_fv f g 200 (Nat.le_refl _), bor_end hf hg h]
  omega
def car (f : Nat → Int) : Nat → Int
  | 0 => 0
  | j + 1 => Int.tdiv (2 * f (199 - j) + car f j) 10
def twi (f : Nat → Int) (p : Nat) : Int := if p < 200 then Int.tmod (2 * f p + car f (199 - p)) 10 else 0
def twSt (f : Nat → Int) (j p : Nat) : Int := if 200 ≤ p + j then twi f p else f p
theorem car_or {f : Nat → Int} (hf : Dg f) : ∀ j, car f j = 0 ∨ car f j = 1
  | 0 => Or.inl rfl
  | j + 1 => by
    have h1 := hf (199 - j)
    have h2 := car_or hf j
    rw [car, Int.tdiv_eq_ediv_of_nonneg (by omega)]
    omega
theorem twi_at (f : Nat → Int) (j : Nat) (hj : j < 200) : twi f (199 - j) = Int.tmod (2 * f (199 - j) + car f j) 10 := by
  unfold twi
  rw [if_pos (by omega), show 199 - (199 - j) = j by omega]
theorem twi_dg {f : Nat → Int} (hf : Dg f) : Dg (twi f) := by
  intro p
  unfold twi
  have h1 := hf p
  have h2 := car_or hf (199 - p)
  split
  · rw [Int.tmod_eq_emod_of_nonneg (by omega)]
    omega
  · omega
theorem twi_fv {f : Nat → Int} (hf : Dg f) : ∀ j, j ≤ 200 → fv (twi f) j + car f j * ((10 ^ j : Nat) : Int) = 2 * fv f j
  | 0, _ => by simp [fv, car]
  | j + 1, hj => by
    have ih := twi_fv hf j (by omega)
    have h1 := hf (199 - j)
    have h2 := car_or hf j
    rw [fv, fv, twi_at f j (by omega), car, Int.tmod_eq_emod_of_nonneg (by omega), Int.tdiv_eq_ediv_of_nonneg (by omega), Nat.pow_succ]
    obtain ⟨a, ha⟩ : ∃ a, (2 * f (199 - j) + car f j) % 10 = a := ⟨_, rfl⟩
    obtain ⟨b, hb⟩ : ∃ b, (2 * f (199 - j) + car f j) / 10 = b := ⟨_, rfl⟩
    have hab : a + 10 * b = 2 * f (199 - j) + car f j := by omega
    rw [ha, hb]
    generalize car f j = c at *
    generalize f (199 - j) = x at *
    push_cast at *
    generalize (10 : Int) ^ j = P at *
    have hp : (a + 10 * b) * P = (2 * x + c) * P := by rw [hab]
    rw [Int.add_mul, Int.add_mul, Int.mul_assoc, Int.mul_assoc] at hp
    rw [← Int.mul_assoc b P 10, Int.mul_comm (b * P) 10]
    omega
end Go.Proofs.YtonjkoeacedaiaaDoor.S
namespace Go.Proofs.YtonjkoeacedaiaaDoor
open Go.RowKit
open Go.Proofs.YtonjkoeacedaiaaDoor.S (Dg bor dif subSt dif_at bor_or car twi twSt twi_at car_or)
set_option linter.unusedVariables false
set_option linter.unusedSimpArgs false
theorem fixC_congr {f g : Nat → Int} (h : ∀ p, p < 200 → f p = g p) : fixC f = fixC g := by
  unfold fixC
  congr 1
  exact List.map_congr_left fun p hp => by rw [h p (List.mem_range.1 hp)]
theorem fixC_set (f : Nat → Int) (i : Nat) (v : Int) (hi : i < 200) : (fixC f).setIfInBounds i (.int .i64 v) = fixC (fun p => if p = i then v else f p) := by
  apply Array.ext_getElem?
  intro p
  by_cases hp : p < 200
  · rw [fixC_at _ _ hp, Array.getElem?_setIfInBounds]
    by_cases e : i = p
    · subst e
      rw [if_pos rfl, if_pos (by rw [fixC_size]; exact hp), if_pos rfl]
    · rw [if_neg e, fixC_at _ _ hp, if_neg (fun h => e h.symm)]
  · rw [Array.getElem?_eq_none (by rw [Array.size_setIfInBounds, fixC_size]; omega), Array.getElem?_eq_none (by rw [fixC_size]; omega)]
theorem fixC_one' (f : Nat → Int) : ∀ v ∈ (fixC f).toList, v.oneCell' = true := by
  intro v hv
  simp [fixC] at hv
  obtain ⟨p, _, rfl⟩ := hv
  rfl
theorem subSt_zero (f g : Nat → Int) : fixC (subSt f g 0) = fixC f := fixC_congr fun p hp => by
  unfold subSt
  rw [if_neg (by omega)]
  split
  · show f p - 0 = f p
    omega
  · rfl
theorem subSt_end (f g : Nat → Int) : fixC (subSt f g 200) = fixC (dif f g) := fixC_congr fun p hp => by
  unfold subSt
  rw [if_pos (by omega)]
theorem subSt_no (f g : Nat → Int) (j : Nat) (hj : j < 200) (h : ¬ f (199 - j) - bor f g j - g (199 - j) < 0) :
    (fixC (subSt f g j)).setIfInBounds (199 - j) (.int .i64 (f (199 - j) - bor f g j - g (199 - j))) = fixC (subSt f g (j + 1)) := by
  have hb : bor f g (j + 1) = 0 := by rw [bor, if_neg h]
  rw [fixC_set _ _ _ (by omega)]
  refine fixC_congr fun p hp => ?_
  show (if p = 199 - j then _ else subSt f g j p) = subSt f g (j + 1) p
  unfold subSt
  by_cases c : p = 199 - j
  · subst c
    rw [if_pos rfl, if_pos (by omega), dif_at f g j hj, hb]
    omega
  · rw [if_neg c]
    by_cases c2 : 200 ≤ p + j
    · rw [if_pos c2, if_pos (by omega)]
    · rw [if_neg c2, if_neg (by omega), if_neg (by omega)]
      by_cases c3 : p + (j + 1) = 199
      · rw [if_pos c3, hb]
        omega
      · rw [if_neg c3]
theorem subSt_yes (f g : Nat → Int) (j : Nat) (hj : j < 199) (h : f (199 - j) - bor f g j - g (199 - j) < 0) (z : Int) :
    (((fixC (subSt f g j)).setIfInBounds (199 - j) (.int .i64 z)).setIfInBounds (199 - j) (.int .i64 (f (199 - j) - bor f g j - g (199 - j) + 10))).setIfInBounds (198 - j) (.int .i64 (f (198 - j) - 1)) = fixC (subSt f g (j + 1)) := by
  have hb : bor f g (j + 1) = 1 := by rw [bor, if_pos h]
  rw [fixC_set _ _ _ (by omega), fixC_set _ _ _ (by omega), fixC_set _ _ _ (by omega)]
  refine fixC_congr fun p hp => ?_
  show (if p = 198 - j then _ else if p = 199 - j then _ else if p = 199 - j then _ else subSt f g j p) = subSt f g (j + 1) p
  unfold subSt
  by_cases c0 : p = 198 - j
  · subst c0
    rw [if_pos rfl, if_neg (by omega), if_pos (by omega), hb]
  · rw [if_neg c0]
    by_cases c : p = 199 - j
    · subst c
      rw [if_pos rfl, if_pos (by omega), dif_at f g j (by omega), hb]
      omega
    · rw [if_neg c, if_neg c]
      by_cases c2 : 200 ≤ p + j
      · rw [if_pos c2, if_pos (by omega)]
      · rw [if_neg c2, if_neg (by omega), if_neg (by omega), if_neg (by omega)]
theorem subSt_at (f g : Nat → Int) (j : Nat) (hj : j < 200) : subSt f g j (199 - j) = f (199 - j) - bor f g j := by
  unfold subSt
  rw [if_neg (by omega), if_pos (by omega)]
theorem subSt_next (f g : Nat → Int) (j : Nat) (hj : j < 199) : subSt f g j (198 - j) = f (198 - j) := by
  unfold subSt
  rw [if_neg (by omega), if_neg (by omega)]
theorem twSt_zero (f : Nat → Int) : fixC (twSt f 0) = fixC f := fixC_congr fun p hp => by
  unfold twSt
  rw [if_neg (by omega)]
theorem twSt_end (f : Nat → Int) : fixC (twSt f 200) = fixC (twi f) := fixC_congr fun p hp => by
  unfold twSt
  rw [if_pos (by omega)]
theorem twSt_at (f : Nat → Int) (j : Nat) (hj : j < 200) : twSt f j (199 - j) = f (199 - j) := by
  unfold twSt
  rw [if_neg (by omega)]
theorem twSt_step (f : Nat → Int) (j : Nat) (hj : j < 200) : (fixC (twSt f j)).setIfInBounds (199 - j) (.int .i64 (Int.tmod (2 * f (199 - j) + car f j) 10)) = fixC (twSt f (j + 1)) := by
  rw [fixC_set _ _ _ (by omega)]
  refine fixC_congr fun p hp => ?_
  show (if p = 199 - j then _ else twSt f j p) = twSt f (j + 1) p
  unfold twSt
  by_cases c : p = 199 - j
  · subst c
    rw [if_pos rfl, if_pos (by omega), twi_at f j hj]
  · rw [if_neg c]
    by_cases c2 : 200 ≤ p + j
    · rw [if_pos c2, if_pos (by omega)]
    · rw [if_neg c2, if_neg (by omega)]
end Go.Proofs.YtonjkoeacedaiaaDoor
namespace Go.Proofs.YtonjkoeacedaiaaDoor
open Go.RowKit
set_option linter.unusedVariables false
set_option linter.unusedSimpArgs false
end Go.Proofs.YtonjkoeacedaiaaDoor
namespace Go.Proofs.YtonjkoeacedaiaaDoor
open Go.RowKit
set_option linter.unusedVariables false
set_option linter.unusedSimpArgs false
structure Two (w : World) (n1 n2 : Bool) (d1 d2 : ByteArray) (k1 k2 : Int) (W : World) : Prop where
  a0 : W.cell? ⟨w.heap.size, 0, none⟩ = some (.bool n1)
  a1 : W.cell? ⟨w.heap.size, 1, none⟩ = some (.string d1)
  a2 : W.cell? ⟨w.heap.size, 2, none⟩ = some (.int .i64 k1)
  b0 : W.cell? ⟨w.heap.size + 1, 0, none⟩ = some (.bool n2)
  b1 : W.cell? ⟨w.heap.size + 1, 1, none⟩ = some (.string d2)
  b2 : W.cell? ⟨w.heap.size + 1, 2, none⟩ = some (.int .i64 k2)
  bel : Below w.heap.size w W
  tab : G.Tab_ W
theorem Two.get {w W : World} {n1 n2 : Bool} {d1 d2 : ByteArray} {k1 k2 : Int} (h : Two w n1 n2 d1 d2 k1 k2 W) : W.cell? ⟨w.heap.size, 0, none⟩ = some (.bool n1) ∧ W.cell? ⟨w.heap.size, 1, none⟩ = some (.string d1) ∧ W.cell? ⟨w.heap.size, 2, none⟩ = some (.int .i64 k1) ∧ W.cell? ⟨w.heap.size + 1, 0, none⟩ = some (.bool n2) ∧ W.cell? ⟨w.heap.size + 1, 1, none⟩ = some (.string d2) ∧ W.cell? ⟨w.heap.size + 1, 2, none⟩ = some (.int .i64 k2) :=
  ⟨h.a0, h.a1, h.a2, h.b0, h.b1, h.b2⟩
theorem Two.step {w W W1 : World} {n1 n2 : Bool} {d1 d2 : ByteArray} {k1 k2 : Int} (h : Two w n1 n2 d1 d2 k1 k2 W) (c : Below W.heap.size W W1) : Two w n1 n2 d1 d2 k1 k2 W1 :=
  ⟨below_cellOf c (Nat.le_refl _) h.a0, below_cellOf c (Nat.le_refl _) h.a1, below_cellOf c (Nat.le_refl _) h.a2, below_cellOf c (Nat.le_refl _) h.b0, below_cellOf c (Nat.le_refl _) h.b1, below_cellOf c (Nat.le_refl _) h.b2, below_on h.bel c h.bel.size, h.tab.step c⟩
theorem Two.drew {w W : World} {n1 n2 : Bool} {d1 d2 : ByteArray} {k1 k2 : Int} (h : Two w n1 n2 d1 d2 k1 k2 W) : Two w n1 n2 d1 d2 k1 k2 W.drew := h.step ((Below.refl _ _).drew)
theorem Two.start (w : World) (n1 n2 : Bool) (d1 d2 : ByteArray) (k1 k2 : Int) (hT : G.Tab_ w) : Two w n1 n2 d1 d2 k1 k2 ((w.alloc (.cells #[.bool n1, .string d1, .int .i64 k1] 23)).alloc (.cells #[.bool n2, .string d2, .int .i64 k2] 23)) := by
  have h1 := heap_alloc_new w (.cells #[.bool n1, .string d1, .int .i64 k1] 23)
  have h2 := heap_alloc_new (w.alloc (.cells #[.bool n1, .string d1, .int .i64 k1] 23)) (.cells #[.bool n2, .string d2, .int .i64 k2] 23)
  rw [show (w.alloc (.cells #[.bool n1, .string d1, .int .i64 k1] 23)).heap.size = w.heap.size + 1 by simp] at h2
  have h3 := (Below.heap_alloc (w.alloc (.cells #[.bool n1, .string d1, .int .i64 k1] 23)) (.cells #[.bool n2, .string d2, .int .i64 k2] 23) w.heap.size (by simp)).trans h1
  have bl : Below w.heap.size w ((w.alloc (.cells #[.bool n1, .string d1, .int .i64 k1] 23)).alloc (.cells #[.bool n2, .string d2, .int .i64 k2] 23)) := ((Below.refl w.heap.size w).alloc (Nat.le_refl _) _).alloc (by simp) _
  exact ⟨(Lib.cell_of_heap h3 0).trans rfl, (Lib.cell_of_heap h3 1).trans rfl, (Lib.cell_of_heap h3 2).trans rfl, (Lib.cell_of_heap h2 0).trans rfl, (Lib.cell_of_heap h2 1).trans rfl, (Lib.cell_of_heap h2 2).trans rfl, bl, hT.step bl⟩
theorem Two.calls {w W : World} {n1 n2 : Bool} {d1 d2 : ByteArray} {k1 k2 : Int} {P : Program} {f : FuncId} {args : Array Value} {r : Value} (h : Two w n1 n2 d1 d2 k1 k2 W) (c : Calls P f args W fun e w' => e = .returned r ∧ Below W.heap.size W w') :
    Calls P f args W fun e w' => e = .returned r ∧ Two w n1 n2 d1 d2 k1 k2 w' ∧ Below W.heap.size W w' :=
  c.mono fun e w' ⟨he, hb⟩ => ⟨he, h.step hb, hb⟩
theorem head2_any (w : World) (hT : G.Tab_ w) : Calls Tryd.prog 34 #[] w fun e w' => e = .returned (.bool true) ∧ Below w.heap.size w w' :=
  R.polyglotlaw02_head.calls 3 true w PU.head_ok hT
structure Fx (g : Nat) (X : Array Value) (W : World) : Prop where
  blk : W.heap[g]? = some (.cells X 69 (0, 0))
  sz : X.size = 200
theorem Fx.step {g : Nat} {X : Array Value} {W W1 : World} (h : Fx g X W) (c : Below W.heap.size W W1) : Fx g X W1 := ⟨below_blockOf c (Nat.le_refl _) h.blk, h.sz⟩
theorem Fx.ld {g : Nat} {X : Array Value} {W : World} (h : Fx g X W) : (Instr.loadAt 69 (.pointer (some ⟨g, 0, none⟩))).run Tryd.prog W = .ok (.agg X) W := run_loadAt_fix h.blk h.sz
theorem Fx.new {W : World} {X : Array Value} (h : X.size = 200) : Fx W.heap.size X (W.alloc (.cells X 69)) := ⟨heap_alloc_new W _, h⟩
theorem fixC_one (f : Nat → Int) : (fixC f).all (·.oneCell') = true := by simp [fixC, Value.oneCell']
theorem zc_fix : Tryd.zeroCells69 = fixC fun _ => 0 := zc_eq
end Go.Proofs.YtonjkoeacedaiaaDoor
namespace Go.Proofs.YtonjkoeacedaiaaDoor
open Go.RowKit
set_option linter.unusedVariables false
set_option linter.unusedSimpArgs false
theorem run_build_zc (W : World) : (Instr.build 69 #[]).run Tryd.prog W = .ok (.agg Tryd.zeroCells69) W := by kernel_rfl
theorem eqGuard_fix (op : BinOp) (x y : Operand) (X Y : Array Value) (W : World) : (eqGuard op 69 x y (.agg X) (.agg Y)).run Tryd.prog W = .ok () W := by
  have hg : Tryd.prog.eqGuardType Tryd.prog.depth 69 = false := by kernel_rfl
  cases op <;> simp [eqGuard, go_sem, hg]
theorem run_build_fix {Z : Array Value} (hZ : fixC (fun _ => 0) = Z) (W : World) : (Instr.build 69 #[]).run Tryd.prog W = .ok (.agg Z) W := by
  rw [run_build_zc, zc_fix, hZ]
theorem exec_load_fix {o : Oper} {ρ : Operand → Value} {W : World} {g : Nat} {X : Array Value} (h : Fx g X W) (x : Operand) (ho : o.op = .load 69 x) (hx : ρ x = .pointer (some ⟨g, 0, none⟩)) : (execOp ρ o).run Tryd.prog W = .ok (.value (.agg X)) W := by
  unfold execOp
  simp only [ho, hx, Sem.run_bind, h.ld, Result.andThen_ok, Sem.run_pure]
theorem exec_build_fix {o : Oper} {ρ : Operand → Value} {Z : Array Value} (hZ : fixC (fun _ => 0) = Z) (W : World) (ho : o.op = .build 69 #[]) : (execOp ρ o).run Tryd.prog W = .ok (.value (.agg Z)) W := by
  unfold execOp
  simp only [ho, List.map_toArray, List.map_nil, Sem.run_bind, run_build_fix hZ W, Result.andThen_ok, Sem.run_pure]
theorem exec_eql_fix {o : Oper} {ρ : Operand → Value} {X Y : Array Value} {z : Bool} {W : World} (hE : (Op.equal 69 (.agg X) (.agg Y)).run Tryd.prog W = .ok z W) (x y : Operand) (t : TypeId) (ho : o.op = .binOp .eql 69 x y t) (hx : ρ x = .agg X) (hy : ρ y = .agg Y) : (execOp ρ o).run Tryd.prog W = .ok (.value (.bool z)) W := by
  unfold execOp
  simp only [ho, hx, hy, Sem.run_bind, eqGuard_fix, Result.andThen_ok, binOp, hE, Sem.run_pure]
section
variable {ops : Array Oper} {rest : List Oper} {o : Oper} {a : Act} {Q : Exit → Act → World → Prop} {W : World}
theorem wpl_value {v : Value} {W1 : World} (hw : Region.wanted o (yielded ops a.tmps) = true) (hr : (execOp a.eval o).run Tryd.prog W = .ok (.value v) W1) (h : wpList Tryd.prog ops Q rest (a.put o.dst v) W1) : wpList Tryd.prog ops Q (o :: rest) a W := by
  refine BigFrame.wpList_want hw fun K hK => ?_
  unfold Oper.wp
  rw [hr]
  exact hK _ _ h
theorem wpl_load_fix {g : Nat} {X : Array Value} (h : Fx g X W) (x : Operand) (ho : o.op = .load 69 x) (hw : Region.wanted o (yielded ops a.tmps) = true) (hx : a.eval x = .pointer (some ⟨g, 0, none⟩)) (k : wpList Tryd.prog ops Q rest (a.put o.dst (.agg X)) W) : wpList Tryd.prog ops Q (o :: rest) a W := wpl_value hw (exec_load_fix h x ho hx) k
theorem wpl_build_fix {Z : Array Value} (hZ : fixC (fun _ => 0) = Z) (ho : o.op = .build 69 #[]) (hw : Region.wanted o (yielded ops a.tmps) = true) (k : wpList Tryd.prog ops Q rest (a.put o.dst (.agg Z)) W) : wpList Tryd.prog ops Q (o :: rest) a W := wpl_value hw (exec_build_fix hZ W ho) k
end
end Go.Proofs.YtonjkoeacedaiaaDoor
namespace Go.Proofs.YtonjkoeacedaiaaDoor
open Go.RowKit
open Go.Proofs.YtonjkoeacedaiaaDoorW.PrintWords (gate_dst)
open Go.Proofs.YtonjkoeacedaiaaDoor.S (Dg bor dif subSt dif_at bor_or car twi twSt twi_at car_or)
set_option linter.unusedVariables false
set_option linter.unusedSimpArgs false
theorem below_setRow {w wr : World} {g : Nat} (h : Below w.heap.size w wr) (hg : w.heap.size ≤ g) (X : Array Value) : Below w.heap.size w (wr.setRow g X) :=
  ⟨h.os, h.tape, h.output, by simpa [World.setRow] using h.size, fun j hj => by
    have := h.block j hj
    simp [World.setRow, Array.getElem?_modify]
    rw [if_neg (by omega)]
    exact this⟩
set_option maxRecDepth 100000 in
set_option maxHeartbeats 4000000 in
theorem twice_any (f : Nat → Int) (hf : Dg f) (w : World) :
    Calls Tryd.prog 44 #[.agg (fixC f)] w fun e w' => e = .returned (.agg (fixC (twi f))) ∧ Below w.heap.size w w' := by
  have h0 := twSt_zero f
  have h9 := twSt_end f
  have hsz : (fixC f).size = 200 := fixC_size f
  have bA := ((Below.refl w.heap.size w).alloc (Nat.le_refl _) (.cells (fixC f) 69)).alloc (by simp) (.cells Tryd.zeroCells69 69)
  have hB := heap_alloc_new (w.alloc (.cells (fixC f) 69)) (.cells Tryd.zeroCells69 69)
  rw [show (w.alloc (.cells (fixC f) 69)).heap.size = w.heap.size + 1 by simp] at hB
  have hA := (Below.heap_alloc (w.alloc (.cells (fixC f) 69)) (.cells Tryd.zeroCells69 69) w.heap.size (by simp)).trans (heap_alloc_new w (.cells (fixC f) 69))
  conv at hA => rhs; rw [← h0]
  generalize fixC f = A at *
  have HA := Lib.hid hA; clear hA
  have HB := Lib.hid hB; clear hB
  have HW := Lib.hid bA; clear bA
  have H9 := Lib.hid h9; clear h9 h0
  go_enter Tryd.func44, Tryd.ntmps44
  go_wp2
  go_loopg [3, 4] 200 (fun gk v3 v4 wx => ∃ j : Nat, v4 = .int .i64 (199 - (j : Int)) ∧ v3 = .int .i64 (car f j) ∧ j ≤ 200 ∧ Below w.heap.size w wx ∧ wx.heap[w.heap.size]? = some (.cells (fixC (twSt f j)) 69 (0, 0)) ∧ wx.heap[w.heap.size + 1]? = some (.cells Tryd.zeroCells69 69 (0, 0)) ∧ 200 ≤ j + gk)
  case atStart => exact ⟨0, rfl, rfl, by omega, HW.out, HA.out, HB.out, by omega⟩
  case round =>
    obtain ⟨j, rfl, rfl, hj, hbw, hB0, hB1, hfu⟩ := hrel
    clear HA HB HW
    by_cases hp : j < 200
    · obtain ⟨k, rfl⟩ : ∃ m, gk = m + 1 := ⟨gk - 1, by omega⟩
      have hidx : ((199 : Int) - (j : Int)).toNat = 199 - j := by omega
      have hi0 : (0 : Int) ≤ (199 : Int) - (j : Int) := by omega
      have hi2 : (199 : Int) - (j : Int) < 200 := by omega
      have c0 := (Lib.cell_of_heap hB0 (199 - j)).trans (fixC_at _ _ (by omega))
      rw [twSt_at f j hp] at c0
      have f0 := Lib.frozen_of_heap hB0 (199 - j)
      have hst := twSt_step f j hp
      have hcar : car f (j + 1) = Int.tdiv (2 * f (199 - j) + car f j) 10 := rfl
      have hx := hf (199 - j)
      have hy := car_or hf j
      generalize f (199 - j) = x at *
      generalize car f j = y at *
      obtain ⟨x0, x1⟩ := hx
      have y0 : 0 ≤ y := by omega
      have y1 : y ≤ 1 := by omega
      have HST := Lib.hid hst; clear hst
      have HC := Lib.hid hcar; clear hcar
      have HB0 := Lib.hid hB0; clear hB0
      have HB1 := Lib.hid hB1; clear hB1
      have HBW := Lib.hid hbw; clear hbw hy
      go_wp2
      go_roundg k
      case measure => omega
      case rel =>
        refine ⟨j + 1, ?_, ?_, by omega, HBW.out.setCell (by show w.heap.size ≤ w.heap.size; omega) _, ?_, ?_, by omega⟩
        · rw [show ((199 : Int) - ((j + 1 : Nat) : Int)) = 199 - (j : Int) - 1 by omega]
        · rw [HC.out, Int.tdiv_eq_ediv_of_nonneg (by omega)]
        · rw [← HST.out, Int.tmod_eq_emod_of_nonneg (by omega)]
          exact heap_set_same HB0.out
        · exact (Below.heap_setCell wr _ _ _ (by show w.heap.size + 1 ≠ w.heap.size; omega)).trans HB1.out
    · obtain rfl : j = 200 := by omega
      rw [H9.out] at hB0
      have hX : Fx w.heap.size (fixC (twi f)) wr := ⟨hB0, fixC_size _⟩
      have hsc := run_storeCells_from (P := Tryd.prog) (w.heap.size + 1) 69 (fixC (twi f)).toList 0 Tryd.zeroCells69 wr hB1 (by rw [Array.length_toList, fixC_size, zc_size]) (fun v hv => fixC_one' _ v hv)
      rw [show ((Tryd.zeroCells69.toList.take 0 ++ (fixC (twi f)).toList).toArray) = fixC (twi f) by simp] at hsc
      have hrow : (wr.setRow (w.heap.size + 1) (fixC (twi f))).heap[w.heap.size + 1]? = some (.cells (fixC (twi f)) 69 (0, 0)) := by simp [World.setRow, Array.getElem?_modify, hB1]
      have hld := run_loadVar_row (P := Tryd.prog) _ _ 69 69 _ (0, 0) _ hrow Tryd.underlying69 rfl (by rw [fixC_size]; exact fixInfo)
      have hys := fixC_size (twi f)
      generalize hY : fixC (twi f) = Y at *
      have HL := Lib.hid hld; clear hld hrow
      go_wp2_with ((with_reducible refine gate_dst (N := 22) rfl ?_); refine wpl_load_fix hX _ rfl rfl rfl ?_)
      exact bodyPost_ret (v := .agg Y) ((results_one_cell Tryd.results44 _ _ _ _ rfl).trans HL.out) rfl ⟨by rw [hY], below_setRow hbw (by omega) _⟩
set_option maxRecDepth 100000 in
set_option maxHeartbeats 4000000 in
theorem sub_any (f g : Nat → Int) (hf : Dg f) (hg : Dg g) (hend : bor f g 200 = 0) (w : World) :
    Calls Tryd.prog 43 #[.agg (fixC f), .agg (fixC g)] w fun e w' => e = .returned (.agg (fixC (dif f g))) ∧ Below w.heap.size w w' := by
  have h0 := subSt_zero f g
  have h9 := subSt_end f g
  have hga := fun p h => fixC_at g p h
  have s1 : (w.alloc (.cells (fixC f) 69)).heap.size = w.heap.size + 1 := by simp
  have s2 : ((w.alloc (.cells (fixC f) 69)).alloc (.cells (fixC g) 69)).heap.size = w.heap.size + 1 + 1 := by simp
  have bA := (((Below.refl w.heap.size w).alloc (Nat.le_refl _) (.cells (fixC f) 69)).alloc (by simp) (.cells (fixC g) 69)).alloc (by rw [s2]; omega) (.cells Tryd.zeroCells69 69)
  have al := fun (X : World) (o : Obj) (j : Nat) (h : j < X.heap.size) => Below.heap_alloc X o j h
  have hA := ((al _ (.cells Tryd.zeroCells69 69) w.heap.size (by rw [s2]; omega)).trans (al _ (.cells (fixC g) 69) w.heap.size (by rw [s1]; omega))).trans (heap_alloc_new w (.cells (fixC f) 69))
  have hB : (((w.alloc (.cells (fixC f) 69)).alloc (.cells (fixC g) 69)).alloc (.cells Tryd.zeroCells69 69)).heap[w.heap.size + 1]? = some (.cells (fixC g) 69 (0, 0)) := (al _ (.cells Tryd.zeroCells69 69) (w.heap.size + 1) (by rw [s2]; omega)).trans (by have := heap_alloc_new (w.alloc (.cells (fixC f) 69)) (.cells (fixC g) 69); rw [s1] at this; exact this)
  have hC := heap_alloc_new ((w.alloc (.cells (fixC f) 69)).alloc (.cells (fixC g) 69)) (.cells Tryd.zeroCells69 69)
  rw [s2] at hC
  clear s1 s2 al
  conv at hA => rhs; rw [← h0]
  generalize fixC f = A at *
  generalize fixC g = B at *
  have HA := Lib.hid hA; clear hA
  have HB := Lib.hid hB; clear hB
  have HC := Lib.hid hC; clear hC
  have HW := Lib.hid bA; clear bA
  have H9 := Lib.hid h9; clear h9 h0
  have HG := Lib.hid hga; clear hga
  have HEND := Lib.hid hend; clear hend
  go_enter Tryd.func43, Tryd.ntmps43
  go_wp2
  go_loopg [5] 200 (fun gk v5 wx => ∃ j : Nat, v5 = .int .i64 (199 - (j : Int)) ∧ j ≤ 200 ∧ Below w.heap.size w wx ∧ wx.heap[w.heap.size]? = some (.cells (fixC (subSt f g j)) 69 (0, 0)) ∧ wx.heap[w.heap.size + 1]? = some (.cells B 69 (0, 0)) ∧ wx.heap[w.heap.size + 1 + 1]? = some (.cells Tryd.zeroCells69 69 (0, 0)) ∧ 200 ≤ j + gk)
  case atStart => exact ⟨0, rfl, by omega, HW.out, HA.out, HB.out, HC.out, by omega⟩
  case round =>
    obtain ⟨j, rfl, hj, hbw, hB0, hB1, hB2, hfu⟩ := hrel
    clear HA HB HC HW
    by_cases hp : j < 200
    · obtain ⟨k, rfl⟩ : ∃ m, gk = m + 1 := ⟨gk - 1, by omega⟩
      have hidx : ((199 : Int) - (j : Int)).toNat = 199 - j := by omega
      have hi0 : (0 : Int) ≤ (199 : Int) - (j : Int) := by omega
      have hi2 : (199 : Int) - (j : Int) < 200 := by omega
      have c0 := (Lib.cell_of_heap hB0 (199 - j)).trans (fixC_at _ _ (by omega))
      rw [subSt_at f g j hp] at c0
      have c1 := (Lib.cell_of_heap hB1 (199 - j)).trans (HG.out _ (by omega))
      have f0 := Lib.frozen_of_heap hB0 (199 - j)
      have hx := hf (199 - j)
      have hy := hg (199 - j)
      have hz := bor_or f g j
      have hno := subSt_no f g j hp
      have hyes := fun h1 h2 => subSt_yes f g j h1 h2
      have hbor : bor f g (j + 1) = if f (199 - j) - bor f g j - g (199 - j) < 0 then 1 else 0 := rfl
      have hnx := fun h => subSt_next f g j h
      have hm := hf (198 - j)
      generalize f (199 - j) = x at *
      generalize g (199 - j) = y at *
      generalize bor f g j = z at *
      generalize f (198 - j) = m at *
      obtain ⟨x0, x1⟩ := hx
      obtain ⟨y0, y1⟩ := hy
      obtain ⟨m0, m1⟩ := hm
      have z0 : 0 ≤ z := by omega
      have z1 : z ≤ 1 := by omega
      have HNO := Lib.hid hno; clear hno
      have HYES := Lib.hid hyes; clear hyes
      have HBOR := Lib.hid hbor; clear hbor
      have HNX := Lib.hid hnx; clear hnx
      have HB0 := Lib.hid hB0; clear hB0
      have HB1 := Lib.hid hB1; clear hB1
      have HB2 := Lib.hid hB2; clear hB2
      have HBW := Lib.hid hbw; clear hbw hz
      go_wp2
      go_still_tail 8, (by kernel_rfl)
      change wpList _ _ _ _ _ wr.drew
      go_upto_region 5 with (fail)
      have hB0' := heap_set_same (o := 199 - j) (v := .int .i64 (x - z - y)) HB0.out
      have hB1' := (Below.heap_setCell wr ⟨w.heap.size, 199 - j, none⟩ (.int .i64 (x - z - y)) (w.heap.size + 1) (by show w.heap.size + 1 ≠ w.heap.size; omega)).trans HB1.out
      have hB2' := (Below.heap_setCell wr ⟨w.heap.size, 199 - j, none⟩ (.int .i64 (x - z - y)) (w.heap.size + 1 + 1) (by show w.heap.size + 1 + 1 ≠ w.heap.size; omega)).trans HB2.out
      have hbw' := (HBW.out.setCell (p := ⟨w.heap.size, 199 - j, none⟩) (by show w.heap.size ≤ w.heap.size; omega) (.int .i64 (x - z - y))).drew
      rw [show (wr.setCell ⟨w.heap.size, 199 - j, none⟩ (.int .i64 (x - z - y))).heap = (wr.setCell ⟨w.heap.size, 199 - j, none⟩ (.int .i64 (x - z - y))).drew.heap from rfl] at hB0' hB1' hB2'
      generalize (wr.setCell ⟨w.heap.size, 199 - j, none⟩ (.int .i64 (x - z - y))).drew = W2 at *
      have hs : (fixC (subSt f g j)).size = 200 := fixC_size _
      have c0' : W2.cell? ⟨w.heap.size, 199 - j, none⟩ = some (.int .i64 (x - z - y)) := (Lib.cell_of_heap hB0' (199 - j)).trans (by rw [Array.getElem?_setIfInBounds, if_pos rfl, if_pos (by omega)])
      have f0' := Lib.frozen_of_heap hB0' (199 - j)
      clear c0 c1 f0 HB0 HB1 HB2 HBW
      have HB0 := Lib.hid hB0'; clear hB0'
      have HB1 := Lib.hid hB1'; clear hB1'
      have HB2 := Lib.hid hB2'; clear hB2'
      have HBW := Lib.hid hbw'; clear hbw' hs
      by_cases hn : x - z - y < 0
      · have hj9 : j < 199 := by
          have h1 := HBOR.out
          rw [if_pos hn] at h1
          have h2 := HEND.out
          rcases Nat.lt_or_ge j 199 with h3 | h3
          · exact h3
          · have h4 : j = 199 := by omega
            subst h4
            rw [h1] at h2
            exact absurd h2 (by decide)
        have q0 : decide (x - z - y < 0) = true := decide_eq_true hn
        go_upto_region 7 with (fail)
        have hB0' := heap_set_same (o := 199 - j) (v := .int .i64 (x - z - y + 10)) HB0.out
        have hB1' := (Below.heap_setCell W2 ⟨w.heap.size, 199 - j, none⟩ (.int .i64 (x - z - y + 10)) (w.heap.size + 1) (by show w.heap.size + 1 ≠ w.heap.size; omega)).trans HB1.out
        have hB2' := (Below.heap_setCell W2 ⟨w.heap.size, 199 - j, none⟩ (.int .i64 (x - z - y + 10)) (w.heap.size + 1 + 1) (by show w.heap.size + 1 + 1 ≠ w.heap.size; omega)).trans HB2.out
        have hbw' := HBW.out.setCell (p := ⟨w.heap.size, 199 - j, none⟩) (by show w.heap.size ≤ w.heap.size; omega) (.int .i64 (x - z - y + 10))
        generalize W2.setCell ⟨w.heap.size, 199 - j, none⟩ (.int .i64 (x - z - y + 10)) = W3 at *
        have c1' : W3.cell? ⟨w.heap.size, 198 - j, none⟩ = some (.int .i64 m) := (Lib.cell_of_heap hB0' (198 - j)).trans (by rw [Array.getElem?_setIfInBounds, if_neg (by omega), Array.getElem?_setIfInBounds, if_neg (by omega), fixC_at _ _ (by omega), HNX.out hj9])
        have f1' := Lib.frozen_of_heap hB0' (198 - j)
        clear c0' f0' HB0 HB1 HB2 HBW hidx hi0 hi2
        have HB0 := Lib.hid hB0'; clear hB0'
        have HB1 := Lib.hid hB1'; clear hB1'
        have HB2 := Lib.hid hB2'; clear hB2'
        have HBW := Lib.hid hbw'; clear hbw'
        have hidx : ((199 : Int) - (j : Int) - 1).toNat = 198 - j := by omega
        have hidx2 : ((198 : Int) - (j : Int)).toNat = 198 - j := by omega
        have hi0 : (0 : Int) ≤ (199 : Int) - (j : Int) - 1 := by omega
        have hi2 : (199 : Int) - (j : Int) - 1 < 200 := by omega
        go_wp2
        go_roundg k
        case measure => omega
        case rel =>
          refine ⟨j + 1, ?_, by omega, HBW.out.setCell (by show w.heap.size ≤ w.heap.size; omega) _, ?_, ?_, ?_, by omega⟩
          · rw [show ((199 : Int) - ((j + 1 : Nat) : Int)) = 199 - (j : Int) - 1 by omega]
          · rw [← HYES.out hj9 hn (x - z - y)]
            exact heap_set_same HB0.out
          · exact (Below.heap_setCell W3 _ _ _ (by show w.heap.size + 1 ≠ w.heap.size; omega)).trans HB1.out
          · exact (Below.heap_setCell W3 _ _ _ (by show w.heap.size + 1 + 1 ≠ w.heap.size; omega)).trans HB2.out
      · have q0 : decide (x - z - y < 0) = false := decide_eq_false hn
        go_wp2
        go_roundg k
        case measure => omega
        case rel =>
          refine ⟨j + 1, ?_, by omega, HBW.out, ?_, HB1.out, HB2.out, by omega⟩
          · rw [show ((199 : Int) - ((j + 1 : Nat) : Int)) = 199 - (j : Int) - 1 by omega]
          · rw [← HNO.out hn]
            exact HB0.out
    · obtain rfl : j = 200 := by omega
      rw [H9.out] at hB0
      have hX : Fx w.heap.size (fixC (dif f g)) wr := ⟨hB0, fixC_size _⟩
      have hsc := run_storeCells_from (P := Tryd.prog) (w.heap.size + 1 + 1) 69 (fixC (dif f g)).toList 0 Tryd.zeroCells69 wr hB2 (by rw [Array.length_toList, fixC_size, zc_size]) (fun v hv => fixC_one' _ v hv)
      rw [show ((Tryd.zeroCells69.toList.take 0 ++ (fixC (dif f g)).toList).toArray) = fixC (dif f g) by simp] at hsc
      have hrow : (wr.setRow (w.heap.size + 1 + 1) (fixC (dif f g))).heap[w.heap.size + 1 + 1]? = some (.cells (fixC (dif f g)) 69 (0, 0)) := by simp [World.setRow, Array.getElem?_modify, hB2]
      have hld := run_loadVar_row (P := Tryd.prog) _ _ 69 69 _ (0, 0) _ hrow Tryd.underlying69 rfl (by rw [fixC_size]; exact fixInfo)
      have hys := fixC_size (dif f g)
      generalize hY : fixC (dif f g) = Y at *
      have HL := Lib.hid hld; clear hld hrow
      go_wp2_with ((with_reducible refine gate_dst (N := 33) rfl ?_); refine wpl_load_fix hX _ rfl rfl rfl ?_)
      exact bodyPost_ret (v := .agg Y) ((results_one_cell Tryd.results43 _ _ _ _ rfl).trans HL.out) rfl ⟨by rw [hY], below_setRow hbw (by omega) _⟩
end Go.Proofs.YtonjkoeacedaiaaDoor
namespace Go.Proofs.YtonjkoeacedaiaaDoor
open Go.RowKit Go.Proofs.YtonjkoeacedaiaaDoorW.PrintWords Go.Proofs.YtonjkoeacedaiaaDoorW.PrintLast
set_option linter.unusedVariables false
set_option linter.unusedSimpArgs false
def rnd_end.T : Bool × List (List Nat × List Nat) := (true, [([], []), ([0], [0]), ([], []), ([1, 2, 1], [1, 2]), ([3, 3, 0, 1, 2, 3], [3])])
def rnd_end.B : List Nat := [0, 1, 0, 7, 15]
theorem rnd_end.tab : rtab .any (opsOf Tryd.f10 19) = rnd_end.T := by kernel_rfl
theorem rnd_end.bits : waitsOk rnd_end.T.2 rnd_end.B = true := by kernel_rfl
set_option maxRecDepth 100000 in
set_option maxHeartbeats 4000000 in
theorem rnd_end (w : World) (f2 gap tw un : Nat → Int) (c2 : Int) (gy gz gu : Nat) (cT : ∀ W, Calls Tryd.prog 44 #[.agg (fixC gap)] W fun e w' => e = .returned (.agg (fixC tw)) ∧ Below W.heap.size W w') (cL : ∀ W, Calls Tryd.prog 42 #[.agg (fixC tw), .agg (fixC un)] W fun e w' => e = .returned (.int .i64 c2) ∧ Below W.heap.size W w') (a0 : Act) (s8 : a0.tmps[8]? = some (.pointer (some ⟨gz, 0, none⟩))) (s9 : a0.tmps[9]? = some (.pointer (some ⟨gu, 0, none⟩))) (hsz : a0.tmps.size = Tryd.f10.ntmps) (W : World) (hI : Below w.heap.size w W.drew ∧ Fx gz (fixC gap) W.drew ∧ Fx gu (fixC un) W.drew ∧ Fx gy (fixC f2) W.drew) (Q : Exit → Act → World → Prop) (hend : ∀ (a9 : Act) w', Below w.heap.size w w' ∧ Fx gz (fixC gap) w' ∧ Fx gu (fixC un) w' ∧ Fx gy (fixC f2) w' → a9 = putSel a0 (fun _ => true) [(0, 73, .agg (fixC gap)), (1, 74, .agg (fixC tw)), (2, 75, .agg (fixC un)), (3, 76, .int .i64 c2), (4, 10, .int .i64 c2)] → a9.defers = a0.defers → Q .normal a9 w') :
    (Code.region 19 #[{ dst := some 73, op := Op.load 69 (Operand.tmp 8), type := 69, pos := "law.go:187", after := #[], guard := none }, { dst := some 74, op := Op.call { callee := Callee.value (Operand.func 44), args := #[Operand.tmp 73], argTypes := #[69] }, type := 69, pos := "law.go:187", after := #[{ on := 0, ground := Ground.data }], guard := none }, { dst := some 75, op := Op.load 69 (Operand.tmp 9), type := 69, pos := "law.go:187", after := #[], guard := none }, { dst := some 76, op := Op.call { callee := Callee.value (Operand.func 42), args := #[Operand.tmp 74, Operand.tmp 75], argTypes := #[69, 69] }, type := 3, pos := "law.go:187", after := #[{ on := 1, ground := Ground.data }, { on := 2, ground := Ground.data }, { on := 1, ground := Ground.chain }], guard := none }, { dst := some 10, op := Op.assign (Operand.tmp 76), type := 3, pos := "law.go:187", after := #[{ on := 3, ground := Ground.data }, { on := 3, ground := Ground.chain }, { on := 0, ground := Ground.phase }, { on := 1, ground := Ground.phase }, { on := 2, ground := Ground.phase }, { on := 3, ground := Ground.phase }], guard := none }] true).wp Tryd.prog Q a0 W := by
  refine start_ (n := 5) (S := fun w' => True) (ds := []) #[false, false, false, false, false] (by kernel_rfl) rfl rfl trivial (fun hHeld => ?_)
  refine with_tabW rnd_end.tab rnd_end.bits (fun HT_ HW_ => ?_)
  refine inv_at [0, 1, 2, 3, 4] (fun a0_ b a w' => a = putSel a0_ b [(0, 73, .agg (fixC gap)), (1, 74, .agg (fixC tw)), (2, 75, .agg (fixC un)), (3, 76, .int .i64 c2), (4, 10, .int .i64 c2)] ∧ (Below w.heap.size w w' ∧ Fx gz (fixC gap) w' ∧ Fx gu (fixC un) w' ∧ Fx gy (fixC f2) w')) HT_.out HW_.out (by kernel_rfl) (by kernel_rfl) ?_ ?_ ?_
  · exact ⟨(by simp only [putSel, Bool.false_eq_true, if_false]), hI⟩
  · clear hI hend hHeld
    refine steps_cons ?_ ?_
    · rintro b a w' ⟨ha, hI⟩ hb_ hon hoff
      refine ⟨_, rfl, fun K hK => ?_⟩
      have e8 : a.tmps[8]? = some (.pointer (some ⟨gz, 0, none⟩)) := by rw [ha]; exact (putSel_off rfl).trans s8
      replace ha := Aside0.mk ha
      refine value_ (w1 := w') (v := .agg (fixC gap)) (by rfl) rfl ?_ ?_
      · exact exec_load_fix hI.2.1 _ rfl (eval_of e8)
      exact hK.out _ _ ⟨(by rw [ha.out]; exact putSel_upk 0 hb_ rfl rfl rfl), hI⟩
    refine steps_cons ?_ ?_
    · rintro b a w' ⟨ha, hI⟩ hb_ hon hoff
      refine ⟨_, rfl, fun K hK => ?_⟩
      have e73 : a.tmps[73]? = some (.agg (fixC gap)) := by rw [ha]; exact putSel_on (e := (0, 73, .agg (fixC gap))) 0 rfl rfl (hon 0 (by kernel_rfl)) (by rw [hsz]; rfl)
      replace ha := Aside0.mk ha
      refine goes_ Tryd.func44 (by kernel_rfl) rfl #[.agg (fixC gap)] (by rfl) rfl rfl (by first | (simp only [List.map_toArray, List.map_cons, List.map_nil, Act.eval, Array.getD_eq_getD_getElem?, Option.getD_some, e73]; done) | (simp only [List.map_toArray, List.map_cons, List.map_nil, Act.eval, Array.getD_eq_getD_getElem?, Option.getD_some, e73]; rfl)) ?_
      refine (cT w').mono ?_
      rintro e w1 ⟨rfl, b1⟩; have hI1 : Below w.heap.size w w1 ∧ Fx gz (fixC gap) w1 ∧ Fx gu (fixC un) w1 ∧ Fx gy (fixC f2) w1 := ⟨below_on hI.1 b1 hI.1.size, hI.2.1.step b1, hI.2.2.1.step b1, hI.2.2.2.step b1⟩
      exact ⟨_, rfl, hK.out _ _ ⟨(by rw [ha.out]; exact putSel_upk 1 hb_ rfl rfl rfl), hI1⟩⟩
    refine steps_cons ?_ ?_
    · rintro b a w' ⟨ha, hI⟩ hb_ hon hoff
      refine ⟨_, rfl, fun K hK => ?_⟩
      have e9 : a.tmps[9]? = some (.pointer (some ⟨gu, 0, none⟩)) := by rw [ha]; exact (putSel_off rfl).trans s9
      replace ha := Aside0.mk ha
      refine value_ (w1 := w') (v := .agg (fixC un)) (by rfl) rfl ?_ ?_
      · exact exec_load_fix hI.2.2.1 _ rfl (eval_of e9)
      exact hK.out _ _ ⟨(by rw [ha.out]; exact putSel_upk 2 hb_ rfl rfl rfl), hI⟩
    refine steps_cons ?_ ?_
    · rintro b a w' ⟨ha, hI⟩ hb_ hon hoff
      refine ⟨_, rfl, fun K hK => ?_⟩
      have e74 : a.tmps[74]? = some (.agg (fixC tw)) := by rw [ha]; exact putSel_on (e := (1, 74, .agg (fixC tw))) 1 rfl rfl (hon 1 (by kernel_rfl)) (by rw [hsz]; rfl)
      have e75 : a.tmps[75]? = some (.agg (fixC un)) := by rw [ha]; exact putSel_on (e := (2, 75, .agg (fixC un))) 2 rfl rfl (hon 2 (by kernel_rfl)) (by rw [hsz]; rfl)
      replace ha := Aside0.mk ha
      refine goes_ Tryd.func42 (by kernel_rfl) rfl #[.agg (fixC tw), .agg (fixC un)] (by rfl) rfl rfl (by first | (simp only [List.map_toArray, List.map_cons, List.map_nil, Act.eval, Array.getD_eq_getD_getElem?, Option.getD_some, e74, e75]; done) | (simp only [List.map_toArray, List.map_cons, List.map_nil, Act.eval, Array.getD_eq_getD_getElem?, Option.getD_some, e74, e75]; rfl)) ?_
      refine (cL w').mono ?_
      rintro e w1 ⟨rfl, b1⟩; have hI1 : Below w.heap.size w w1 ∧ Fx gz (fixC gap) w1 ∧ Fx gu (fixC un) w1 ∧ Fx gy (fixC f2) w1 := ⟨below_on hI.1 b1 hI.1.size, hI.2.1.step b1, hI.2.2.1.step b1, hI.2.2.2.step b1⟩
      exact ⟨_, rfl, hK.out _ _ ⟨(by rw [ha.out]; exact putSel_upk 3 hb_ rfl rfl rfl), hI1⟩⟩
    refine steps_cons ?_ ?_
    · rintro b a w' ⟨ha, hI⟩ hb_ hon hoff
      refine ⟨_, rfl, fun K hK => ?_⟩
      have e76 : a.tmps[76]? = some (.int .i64 c2) := by rw [ha]; exact putSel_on (e := (3, 76, .int .i64 c2)) 3 rfl rfl (hon 3 (by kernel_rfl)) (by rw [hsz]; rfl)
      replace ha := Aside0.mk ha
      refine value_ (w1 := w') (v := .int .i64 c2) (by rfl) rfl ?_ ?_
      · go_simp; try rfl
        all_goals (try (simp only [IntKind.wrap_i64]; omega))
      exact hK.out _ _ ⟨(by rw [ha.out]; exact putSel_upk 4 hb_ rfl rfl rfl), hI⟩
    exact steps_nil
  rintro b a w1 hall ⟨ha, hI1⟩
  exact hend a w1 hI1 (by rw [ha]; simp only [putSel, if_true, hall 0 (by kernel_rfl), hall 1 (by kernel_rfl), hall 2 (by kernel_rfl), hall 3 (by kernel_rfl), hall 4 (by kernel_rfl)]) (by rw [ha]; exact (putSel_size b _ a0).2)
end Go.Proofs.YtonjkoeacedaiaaDoor
namespace Go.Proofs.YtonjkoeacedaiaaDoor.S
open Go.RowKit Go.Proofs.YtonjkoeacedaiaaDoor Go.Proofs.YtonjkoeacedaiaaDoor.G Go.Proofs.YtonjkoeacedaiaaDoor.U Go.Proofs.YtonjkoeacedaiaaDoor.R Go.Proofs.YtonjkoeacedaiaaDoor.PU Go.Proofs.YtonjkoeacedaiaaDoorW.PrintWords Go.Proofs.YtonjkoeacedaiaaDoorW.PrintMore
set_option linter.unusedVariables false
set_option linter.unusedSimpArgs false
def unitF (t p : Nat) : Int := if p = 99 + t then 1 else 0
theorem unit_val (t : Nat) (ht : t ≤ 100) : fv (unitF t) 200 = ((10 ^ (100 - t) : Nat) : Int) ∧ Dg (unitF t) := by
  constructor
  · have hlen : (List.replicate (99 + t) (48 : UInt8) ++ (49 :: List.replicate (100 - t) 48)).length = 200 := by simp; omega
    have := fv_list _ hlen (unitF t) (fun p hp => by
      unfold unitF
      simp only [List.getD_eq_getElem?_getD]
      rw [List.getElem?_append, List.length_replicate]
      by_cases h1 : p < 99 + t
      · rw [if_neg (by omega), if_pos h1, List.getElem?_replicate, if_pos h1]
        rfl
      · rw [if_neg h1]
        by_cases h2 : p = 99 + t
        · rw [if_pos h2, h2, Nat.sub_self]
          rfl
        · obtain ⟨i, hi⟩ : ∃ i, p - (99 + t) = i + 1 := ⟨p - (99 + t) - 1, by omega⟩
          rw [if_neg h2, hi, List.getElem?_cons_succ, List.getElem?_replicate, if_pos (by omega)]
          rfl) 200 (Nat.le_refl _)
    rw [this, show 200 - 200 = 0 from rfl, List.drop_zero, val_app, val_cons, val_rep, val_rep, List.length_replicate]
    simp [dv]
  · intro p
    unfold unitF
    split <;> omega
theorem val_snoc (L : List UInt8) (c : UInt8) : val (L ++ [c]) = val L * 10 + dv c := by
  rw [val_app, val_cons]
  simp [val]
theorem last_par {R : List UInt8} {t : Nat} (hd : digs R = true) (ht : t < R.length) (hm : R.length - t ≤ 100) : fixD R (R.length - t) R.length (99 + t) = ((val R : Nat) : Int) % 10 := by
  have hne : R ≠ [] := by intro h; rw [h] at ht; simp at ht
  obtain ⟨E, c, rfl⟩ : ∃ E c, R = E ++ [c] := ⟨R.dropLast, R.getLast hne, (List.dropLast_concat_getLast hne).symm⟩
  have hc := dig_le (digs_at hd c (by simp))
  have hl : (E ++ [c]).length = E.length + 1 := by simp
  rw [hl] at ht hm ⊢
  unfold fixD
  rw [if_pos (by omega), show 99 + t - (100 - (E.length + 1 - t)) = E.length by omega, val_snoc, List.getD_eq_getElem?_getD]
  simp [dv]
  omega
theorem near {X u : Nat} (hu : 0 < u) : 2 * X ≤ 2 * (q X u * u) + u ∧ 2 * (q X u * u) ≤ 2 * X + u ∧ (2 * X = 2 * (q X u * u) + u ∨ 2 * (q X u * u) = 2 * X + u → q X u % 2 = 0) := by
  have h1 := Nat.div_add_mod X u
  have h2 := Nat.mod_lt X hu
  unfold q
  generalize X % u = r at *
  generalize X / u = d at *
  have e : (d + 1) * u = d * u + u := by rw [Nat.add_mul, Nat.one_mul]
  have e2 : u * d = d * u := Nat.mul_comm _ _
  split
  · rename_i h
    rw [e]
    generalize d * u = z at *
    omega
  · rename_i h
    generalize d * u = z at *
    omega
theorem rounds_plain {A R : List UInt8} {sa t : Nat} (ha : Num A sa) (hA : A.length ≤ 60) (hR : Num R t) (hRl : R.length ≤ 100) (ht : t < sa)
    (hV : V R t = q (V A sa) (10 ^ (200 - t)) * 10 ^ (200 - t)) (f g gap : Nat → Int) (hf : f = fixD A (A.length - sa) A.length) (hg : g = fixD R (R.length - t) R.length)
    (hgap : gap = if lessF f g 200 > 0 then dif f g else dif g f) :
    (lessF (twi gap) (unitF t) 200 < 0 ∨ lessF (twi gap) (unitF t) 200 = 0 ∧ g (99 + t) % 2 = 0) ∧ (if lessF f g 200 > 0 then bor f g 200 = 0 else bor g f 200 = 0) ∧ Dg f ∧ Dg g ∧ Dg gap := by
  have hlt := ha.lt
  have hlr := hR.lt
  obtain ⟨f1, f2⟩ := fixD_val A (A.length - sa) ha.dig (by omega) (by omega)
  obtain ⟨g1, g2⟩ := fixD_val R (R.length - t) hR.dig (by omega) (by omega)
  rw [← hf] at f1 f2
  rw [← hg] at g1 g2
  have hpar : g (99 + t) = ((val R : Nat) : Int) % 10 := by rw [hg]; exact last_par hR.dig hlr (by omega)
  rw [show 100 + (A.length - sa) - A.length = 100 - sa by omega] at f1
  rw [show 100 + (R.length - t) - R.length = 100 - t by omega] at g1
  obtain ⟨X, hX⟩ : ∃ X, val A * 10 ^ (100 - sa) = X := ⟨_, rfl⟩
  obtain ⟨u, hu⟩ : ∃ u, 10 ^ (100 - t) = u := ⟨_, rfl⟩
  have hu0 : 0 < u := by rw [← hu]; exact Nat.pow_pos (by decide)
  have hq : val R = q X u := by
    have e1 : V A sa = X * 10 ^ 100 := by unfold V; rw [← hX, Nat.mul_assoc, ← Nat.pow_add]; congr 2; omega
    have e2 : 10 ^ (200 - t) = u * 10 ^ 100 := by rw [← hu, ← Nat.pow_add]; congr 1; omega
    have e3 : V R t = val R * (u * 10 ^ 100) := by unfold V; rw [e2]
    rw [e1, e2, e3, q_mul (Nat.pow_pos (by decide))] at hV
    exact Nat.eq_of_mul_eq_mul_right (Nat.mul_pos hu0 (Nat.pow_pos (by decide))) hV
  rw [hX] at f1
  rw [hu, hq] at g1
  rw [hq] at hpar
  obtain ⟨n1, n2, n3⟩ := near (X := X) hu0
  have hc := lessF_fv f2 g2 200
  rw [f1, g1] at hc
  have hu100 : u ≤ 10 ^ 100 := by rw [← hu]; exact Nat.pow_le_pow_right (by decide) (by omega)
  have hP : 2 * 10 ^ 100 < 10 ^ 200 := by decide
  obtain ⟨w1, w2⟩ := unit_val t (by omega)
  rw [hu] at w1
  have key : ∀ gp : Nat → Int, Dg gp → (fv gp 200 = (X : Int) - ((q X u * u : Nat) : Int) ∨ fv gp 200 = ((q X u * u : Nat) : Int) - (X : Int)) →
      (lessF (twi gp) (unitF t) 200 < 0 ∨ lessF (twi gp) (unitF t) 200 = 0 ∧ g (99 + t) % 2 = 0) := by
    intro gp hd hv
    have t1 := twi_fv hd 200 (Nat.le_refl _)
    have t2 := car_or hd 200
    have t3 := fv_lt (twi_dg hd) 200
    rw [lessF_fv (twi_dg hd) w2 200, w1]
    have hcar : car gp 200 = 0 := by
      rcases t2 with h | h
      · exact h
      · exfalso
        rw [h] at t1
        generalize q X u * u = Y at *
        generalize (10 : Nat) ^ 200 = P at *
        generalize (10 : Nat) ^ 100 = Q at *
        omega
    rw [hcar, Int.zero_mul, Int.add_zero] at t1
    rw [t1]
    unfold isg
    generalize hY : q X u * u = Y at *
    by_cases c1 : 2 * fv gp 200 < (u : Int)
    · left; rw [if_pos c1]; decide
    · right
      have c2 : 2 * fv gp 200 = (u : Int) := by omega
      rw [if_neg c1, if_pos c2]
      refine ⟨rfl, ?_⟩
      have := n3 (by omega)
      omega
  have hcmp : isg (X : Int) ((q X u * u : Nat) : Int) > 0 ↔ q X u * u < X := by
    unfold isg
    split
    · omega
    · split <;> omega
  rw [hc] at hgap ⊢
  by_cases h : isg (X : Int) ((q X u * u : Nat) : Int) > 0
  · rw [if_pos h] at hgap ⊢
    have hlt := hcmp.1 h
    subst hgap
    have hle : fv g 200 ≤ fv f 200 := by rw [f1, g1]; omega
    refine ⟨key _ (dif_dg f2 g2) (Or.inl ?_), bor_end f2 g2 hle, f2, g2, dif_dg f2 g2⟩
    rw [dif_val f2 g2 hle, f1, g1]
  · rw [if_neg h] at hgap ⊢
    have hlt : ¬ q X u * u < X := fun c => h (hcmp.2 c)
    subst hgap
    have hle : fv f 200 ≤ fv g 200 := by rw [f1, g1]; omega
    refine ⟨key _ (dif_dg g2 f2) (Or.inr ?_), bor_end g2 f2 hle, f2, g2, dif_dg g2 f2⟩
    rw [dif_val g2 f2 hle, f1, g1]
end Go.Proofs.YtonjkoeacedaiaaDoor.S
namespace Go.Proofs.YtonjkoeacedaiaaDoor.S
open Go.RowKit Go.Proofs.YtonjkoeacedaiaaDoor.G Go.Proofs.YtonjkoeacedaiaaDoor.U Go.Proofs.YtonjkoeacedaiaaDoor.R Go.Proofs.YtonjkoeacedaiaaDoorW.PrintWords Go.Proofs.YtonjkoeacedaiaaDoorW.PrintLast Go.Proofs.YtonjkoeacedaiaaDoorW.PrintMore
attribute [local go_sem] max2_int min2_int max_two min_two max_three min_three max_four min_four
set_option linter.unusedVariables false
set_option linter.unusedSimpArgs false
def errW : Option Int → Value
  | none => .nilIface
  | some c => .iface 0 (.int .i64 c)
theorem errW_none : errW none = .nilIface := rfl
theorem errW_some (c : Int) : errW (some c) = .iface 0 (.int .i64 c) := rfl
structure S23 where
  f0 : Bool
  f1 : ByteArray
  f2 : Int
end Go.Proofs.YtonjkoeacedaiaaDoor.S
namespace Go.Proofs.YtonjkoeacedaiaaDoor.S
open Go.RowKit Go.Proofs.YtonjkoeacedaiaaDoor.G Go.Proofs.YtonjkoeacedaiaaDoor.U Go.Proofs.YtonjkoeacedaiaaDoor.R Go.Proofs.YtonjkoeacedaiaaDoorW.PrintWords Go.Proofs.YtonjkoeacedaiaaDoorW.PrintLast Go.Proofs.YtonjkoeacedaiaaDoorW.PrintMore
attribute [local go_sem] max2_int min2_int max_two min_two max_three min_three max_four min_four
set_option linter.unusedVariables false
set_option linter.unusedSimpArgs false
def dec_Dec_Right.f (a0_0 : Bool) (a0_1 : ByteArray) (a0_2 : Int) : Option (Bool) := (dec_isDigits.f a0_1).bind fun t105 => (if t105 = true then (if a0_2 ≥ 0 then (if a0_2 < (a0_1.size : Int) then (if (a0_1.size : Int) = (wrap64 (a0_2 + 1)) then (some true) else (if 0 < (a0_1.size : Int) then (some ((bt a0_1 0) != 48)) else (none))) else (some false)) else (some false)) else (some false))
set_option maxHeartbeats 8000000 in
set_option maxRecDepth 100000 in
theorem dec_Dec_Right.calls (a0_0 : Bool) (a0_1 : ByteArray) (a0_2 : Int) (r : Bool) (w : World) (h : dec_Dec_Right.f a0_0 a0_1 a0_2 = some r) :
    Calls Tryd.prog 39 #[.agg #[.bool a0_0, .string a0_1, .int .i64 a0_2]] w fun e w' => e = .returned (.bool r) ∧ Below w.heap.size w w' := by
  have hu23 := Tryd.underlying23
  have HB := Aside0.mk (Below.refl w.heap.size w)
  have H : ((dec_isDigits.f a0_1).bind fun t105 => (if t105 = true then (if a0_2 ≥ 0 then (if a0_2 < (a0_1.size : Int) then (if (a0_1.size : Int) = (wrap64 (a0_2 + 1)) then (some true) else (if 0 < (a0_1.size : Int) then (some ((bt a0_1 0) != 48)) else (none))) else (some false)) else (some false)) else (some false))) = some r := h
  clear h
  replace H := Option.bind_eq_some_iff.mp H
  obtain ⟨t105, A20, H⟩ := H
  replace H : (if t105 = true then (if a0_2 ≥ 0 then (if a0_2 < (a0_1.size : Int) then (if (a0_1.size : Int) = (wrap64 (a0_2 + 1)) then (some true) else (if 0 < (a0_1.size : Int) then (some ((bt a0_1 0) != 48)) else (none))) else (some false)) else (some false)) else (some false)) = some r := H
  have A2 := Aside0.mk A20
  clear A20
  by_cases c3 : t105 = true
  · subst c3
    have H1 : (if a0_2 ≥ 0 then (if a0_2 < (a0_1.size : Int) then (if (a0_1.size : Int) = (wrap64 (a0_2 + 1)) then (some true) else (if 0 < (a0_1.size : Int) then (some ((bt a0_1 0) != 48)) else (none))) else (some false)) else (some false)) = some r := by rw [if_pos rfl] at H; exact H
    clear H
    have H := H1
    clear H1
    by_cases c4 : a0_2 ≥ 0
    · rw [if_pos c4] at H
      have c4b0 : decide (0 ≤ a0_2) = true := decide_eq_true c4
      clear c4
      by_cases c5 : a0_2 < (a0_1.size : Int)
      · rw [if_pos c5] at H
        have c5b0 : decide (a0_2 < (a0_1.size : Int)) = true := decide_eq_true c5
        clear c5
        by_cases c6 : (a0_1.size : Int) = (wrap64 (a0_2 + 1))
        · rw [if_pos c6] at H
          have c6b0 : ((a0_1.size : Int) == (wrap64 (a0_2 + 1))) = true := beq_iff_eq.mpr c6
          have c6b1 : ((a0_1.size : Int) != (wrap64 (a0_2 + 1))) = false := bne_eq_false_iff_eq.mpr c6
          clear c6
          obtain rfl := Option.some.inj H
          go_enter Tryd.func39, Tryd.ntmps39
          go_wp2_with (first | ((with_reducible refine gate_dst (N := 1) rfl ?_); (try (refine gate_guard (by rfl) ?_; dsimp only)); refine box_event ?hg (N := 1) ?hd (cs := #[.bool a0_0, .string a0_1, .int .i64 a0_2]) (t := 23) ?hr ?_; (case hd => rfl); (case hg => rfl); (case hr => first | (go_simp; done) | (go_simp; rfl)); intro gb104 hg w7 hbox hb; have n0_ := Aside0.mk (below_step (by repeat (first | (with_reducible first | exact HB.out | apply below_alloc | apply pw_below_drewN | apply below_drew1) | exact HB.out)) hb); have n1_ := Aside0.mk (hbox); have n2_ := Aside0.mk ((by rw [hg]; exact (below_size (by repeat (first | (with_reducible first | exact HB.out | apply below_alloc | apply pw_below_drewN | apply below_drew1) | exact HB.out))) : w.heap.size ≤ gb104)); have n3_ := Aside0.mk ((by rw [hg]; exact (below_size (by repeat (first | (with_reducible first | exact HB.out | apply below_alloc | apply pw_below_drewN | apply below_drew1) | exact HB.out))) : w.heap.size ≤ gb104)); clear HB; have HB := n0_; have BK104 := n1_; have GW104 := n2_; have GE104 := n3_; clear n0_ n1_ n2_ n3_; clear hb hbox hg; have hcz8_0 : w7.cell? ⟨gb104, 0, none⟩ = some (.bool a0_0) := (blk_cell BK104.out 0).trans rfl; have hcz8_1 : w7.cell? ⟨gb104, 1, none⟩ = some (.string a0_1) := (blk_cell BK104.out 1).trans rfl; have hcz8_2 : w7.cell? ⟨gb104, 2, none⟩ = some (.int .i64 a0_2) := (blk_cell BK104.out 2).trans rfl; have hfz8_0 := blk_frozen BK104.out 0; have hfz8_1 := blk_frozen BK104.out 1; have hfz8_2 := blk_frozen BK104.out 2) | ((with_reducible refine gate_callee (f := 71) rfl ?_); refine goesL_ (some 5) rfl rfl Tryd.func71 (by kernel_rfl) rfl #[.string a0_1] rfl (by (try simp only [List.map_toArray, List.map_cons, List.map_nil]); first | done | rfl | (simp only [List.length_drop, List.length_take]; rfl)) ?_; (with_reducible refine (dec_isDigits.calls a0_1 true _ A2.out).mono ?_); rintro e w9 ⟨rfl, hb⟩; refine ⟨_, rfl, ?_⟩; have n0_ := Aside0.mk (blk_below (g := gb104) (o := .cells #[.bool a0_0, .string a0_1, .int .i64 a0_2] 23 (0, 0)) (by (with_reducible repeat (first | refine blk_drewN ?_ _ | refine blk_drew ?_ | refine blk_alloc ?_ _)); exact BK104.out) hb); have n1_ := Aside0.mk (below_step (by repeat (first | (with_reducible first | exact HB.out | apply below_alloc | apply pw_below_drewN | apply below_drew1 | refine below_set ?_ GE104.out) | exact HB.out)) hb); clear BK104; clear HB; have BK104 := n0_; have HB := n1_; clear n0_ n1_; (try clear hb); (try clear hb2); (try clear hk); (try clear hi); have hcz10_0 : w9.cell? ⟨gb104, 0, none⟩ = some (.bool a0_0) := (blk_cell BK104.out 0).trans rfl; have hcz10_1 : w9.cell? ⟨gb104, 1, none⟩ = some (.string a0_1) := (blk_cell BK104.out 1).trans rfl; have hcz10_2 : w9.cell? ⟨gb104, 2, none⟩ = some (.int .i64 a0_2) := (blk_cell BK104.out 2).trans rfl; have hfz10_0 := blk_frozen BK104.out 0; have hfz10_1 := blk_frozen BK104.out 1; have hfz10_2 := blk_frozen BK104.out 2))
          go_ret
          exact ⟨by first | rfl | (simp [errW_none, errW_some] <;> rfl) | (simp [*, errW_none, errW_some] <;> rfl), by repeat (first | (with_reducible first | exact HB.out | apply below_alloc | apply pw_below_drewN | apply below_drew1 | refine below_set ?_ GE104.out) | exact HB.out)⟩
        · rw [if_neg c6] at H
          have c6b0 : ((a0_1.size : Int) == (wrap64 (a0_2 + 1))) = false := beq_eq_false_iff_ne.mpr c6
          have c6b1 : ((a0_1.size : Int) != (wrap64 (a0_2 + 1))) = true := bne_iff_ne.mpr c6
          by_cases c11 : 0 < (a0_1.size : Int)
          · rw [if_pos c11] at H
            have c11b0 : decide (0 < (a0_1.size : Int)) = true := decide_eq_true c11
            have c11b1 : decide (0 < a0_1.size) = true := decide_eq_true (by omega)
            clear c11
            obtain rfl := Option.some.inj H
            go_enter Tryd.func39, Tryd.ntmps39
            go_wp2_with (first | ((with_reducible refine gate_dst (N := 1) rfl ?_); (try (refine gate_guard (by rfl) ?_; dsimp only)); refine box_event ?hg (N := 1) ?hd (cs := #[.bool a0_0, .string a0_1, .int .i64 a0_2]) (t := 23) ?hr ?_; (case hd => rfl); (case hg => rfl); (case hr => first | (go_simp; done) | (go_simp; rfl)); intro gb104 hg w13 hbox hb; have n0_ := Aside0.mk (below_step (by repeat (first | (with_reducible first | exact HB.out | apply below_alloc | apply pw_below_drewN | apply below_drew1) | exact HB.out)) hb); have n1_ := Aside0.mk (hbox); have n2_ := Aside0.mk ((by rw [hg]; exact (below_size (by repeat (first | (with_reducible first | exact HB.out | apply below_alloc | apply pw_below_drewN | apply below_drew1) | exact HB.out))) : w.heap.size ≤ gb104)); have n3_ := Aside0.mk ((by rw [hg]; exact (below_size (by repeat (first | (with_reducible first | exact HB.out | apply below_alloc | apply pw_below_drewN | apply below_drew1) | exact HB.out))) : w.heap.size ≤ gb104)); clear HB; have HB := n0_; have BK104 := n1_; have GW104 := n2_; have GE104 := n3_; clear n0_ n1_ n2_ n3_; clear hb hbox hg; have hcz14_0 : w13.cell? ⟨gb104, 0, none⟩ = some (.bool a0_0) := (blk_cell BK104.out 0).trans rfl; have hcz14_1 : w13.cell? ⟨gb104, 1, none⟩ = some (.string a0_1) := (blk_cell BK104.out 1).trans rfl; have hcz14_2 : w13.cell? ⟨gb104, 2, none⟩ = some (.int .i64 a0_2) := (blk_cell BK104.out 2).trans rfl; have hfz14_0 := blk_frozen BK104.out 0; have hfz14_1 := blk_frozen BK104.out 1; have hfz14_2 := blk_frozen BK104.out 2) | ((with_reducible refine gate_callee (f := 71) rfl ?_); refine goesL_ (some 5) rfl rfl Tryd.func71 (by kernel_rfl) rfl #[.string a0_1] rfl (by (try simp only [List.map_toArray, List.map_cons, List.map_nil]); first | done | rfl | (simp only [List.length_drop, List.length_take]; rfl)) ?_; (with_reducible refine (dec_isDigits.calls a0_1 true _ A2.out).mono ?_); rintro e w15 ⟨rfl, hb⟩; refine ⟨_, rfl, ?_⟩; have n0_ := Aside0.mk (blk_below (g := gb104) (o := .cells #[.bool a0_0, .string a0_1, .int .i64 a0_2] 23 (0, 0)) (by (with_reducible repeat (first | refine blk_drewN ?_ _ | refine blk_drew ?_ | refine blk_alloc ?_ _)); exact BK104.out) hb); have n1_ := Aside0.mk (below_step (by repeat (first | (with_reducible first | exact HB.out | apply below_alloc | apply pw_below_drewN | apply below_drew1 | refine below_set ?_ GE104.out) | exact HB.out)) hb); clear BK104; clear HB; have BK104 := n0_; have HB := n1_; clear n0_ n1_; (try clear hb); (try clear hb2); (try clear hk); (try clear hi); have hcz16_0 : w15.cell? ⟨gb104, 0, none⟩ = some (.bool a0_0) := (blk_cell BK104.out 0).trans rfl; have hcz16_1 : w15.cell? ⟨gb104, 1, none⟩ = some (.string a0_1) := (blk_cell BK104.out 1).trans rfl; have hcz16_2 : w15.cell? ⟨gb104, 2, none⟩ = some (.int .i64 a0_2) := (blk_cell BK104.out 2).trans rfl; have hfz16_0 := blk_frozen BK104.out 0; have hfz16_1 := blk_frozen BK104.out 1; have hfz16_2 := blk_frozen BK104.out 2; have p12 : 0 ≤ (0 : Int) := (by omega); have q12 : 0 < a0_1.size := (by have : (0 : Int) < (a0_1.size : Int) := of_decide_eq_true (by first | (with_reducible assumption) | assumption); omega); have hx12 : ∀ h : 0 < a0_1.size, ((a0_1[0]'h).toNat : Int) = bt a0_1 0 := bt_at a0_1 0; clear p12; have qi12 : (0 < (a0_1.size : Int)) = True := eq_true (of_decide_eq_true (by first | (with_reducible assumption) | assumption)); replace q12 := eq_true q12))
            go_ret
            exact ⟨by first | rfl | (simp [errW_none, errW_some] <;> rfl) | (simp [*, errW_none, errW_some] <;> rfl), by repeat (first | (with_reducible first | exact HB.out | apply below_alloc | apply pw_below_drewN | apply below_drew1 | refine below_set ?_ GE104.out) | exact HB.out)⟩
          · rw [if_neg c11] at H
            exact absurd H (by simp)
      · rw [if_neg c5] at H
        have c5b0 : decide (a0_2 < (a0_1.size : Int)) = false := decide_eq_false c5
        clear c5
        obtain rfl := Option.some.inj H
        go_enter Tryd.func39, Tryd.ntmps39
        go_wp2_with (first | ((with_reducible refine gate_dst (N := 1) rfl ?_); (try (refine gate_guard (by rfl) ?_; dsimp only)); refine box_event ?hg (N := 1) ?hd (cs := #[.bool a0_0, .string a0_1, .int .i64 a0_2]) (t := 23) ?hr ?_; (case hd => rfl); (case hg => rfl); (case hr => first | (go_simp; done) | (go_simp; rfl)); intro gb104 hg w17 hbox hb; have n0_ := Aside0.mk (below_step (by repeat (first | (with_reducible first | exact HB.out | apply below_alloc | apply pw_below_drewN | apply below_drew1) | exact HB.out)) hb); have n1_ := Aside0.mk (hbox); have n2_ := Aside0.mk ((by rw [hg]; exact (below_size (by repeat (first | (with_reducible first | exact HB.out | apply below_alloc | apply pw_below_drewN | apply below_drew1) | exact HB.out))) : w.heap.size ≤ gb104)); have n3_ := Aside0.mk ((by rw [hg]; exact (below_size (by repeat (first | (with_reducible first | exact HB.out | apply below_alloc | apply pw_below_drewN | apply below_drew1) | exact HB.out))) : w.heap.size ≤ gb104)); clear HB; have HB := n0_; have BK104 := n1_; have GW104 := n2_; have GE104 := n3_; clear n0_ n1_ n2_ n3_; clear hb hbox hg; have hcz18_0 : w17.cell? ⟨gb104, 0, none⟩ = some (.bool a0_0) := (blk_cell BK104.out 0).trans rfl; have hcz18_1 : w17.cell? ⟨gb104, 1, none⟩ = some (.string a0_1) := (blk_cell BK104.out 1).trans rfl; have hcz18_2 : w17.cell? ⟨gb104, 2, none⟩ = some (.int .i64 a0_2) := (blk_cell BK104.out 2).trans rfl; have hfz18_0 := blk_frozen BK104.out 0; have hfz18_1 := blk_frozen BK104.out 1; have hfz18_2 := blk_frozen BK104.out 2) | ((with_reducible refine gate_callee (f := 71) rfl ?_); refine goesL_ (some 5) rfl rfl Tryd.func71 (by kernel_rfl) rfl #[.string a0_1] rfl (by (try simp only [List.map_toArray, List.map_cons, List.map_nil]); first | done | rfl | (simp only [List.length_drop, List.length_take]; rfl)) ?_; (with_reducible refine (dec_isDigits.calls a0_1 true _ A2.out).mono ?_); rintro e w19 ⟨rfl, hb⟩; refine ⟨_, rfl, ?_⟩; have n0_ := Aside0.mk (blk_below (g := gb104) (o := .cells #[.bool a0_0, .string a0_1, .int .i64 a0_2] 23 (0, 0)) (by (with_reducible repeat (first | refine blk_drewN ?_ _ | refine blk_drew ?_ | refine blk_alloc ?_ _)); exact BK104.out) hb); have n1_ := Aside0.mk (below_step (by repeat (first | (with_reducible first | exact HB.out | apply below_alloc | apply pw_below_drewN | apply below_drew1 | refine below_set ?_ GE104.out) | exact HB.out)) hb); clear BK104; clear HB; have BK104 := n0_; have HB := n1_; clear n0_ n1_; (try clear hb); (try clear hb2); (try clear hk); (try clear hi); have hcz20_0 : w19.cell? ⟨gb104, 0, none⟩ = some (.bool a0_0) := (blk_cell BK104.out 0).trans rfl; have hcz20_1 : w19.cell? ⟨gb104, 1, none⟩ = some (.string a0_1) := (blk_cell BK104.out 1).trans rfl; have hcz20_2 : w19.cell? ⟨gb104, 2, none⟩ = some (.int .i64 a0_2) := (blk_cell BK104.out 2).trans rfl; have hfz20_0 := blk_frozen BK104.out 0; have hfz20_1 := blk_frozen BK104.out 1; have hfz20_2 := blk_frozen BK104.out 2))
        go_ret
        exact ⟨by first | rfl | (simp [errW_none, errW_some] <;> rfl) | (simp [*, errW_none, errW_some] <;> rfl), by repeat (first | (with_reducible first | exact HB.out | apply below_alloc | apply pw_below_drewN | apply below_drew1 | refine below_set ?_ GE104.out) | exact HB.out)⟩
    · rw [if_neg c4] at H
      have c4b0 : decide (0 ≤ a0_2) = false := decide_eq_false c4
      clear c4
      obtain rfl := Option.some.inj H
      go_enter Tryd.func39, Tryd.ntmps39
      go_wp2_with (first | ((with_reducible refine gate_dst (N := 1) rfl ?_); (try (refine gate_guard (by rfl) ?_; dsimp only)); refine box_event ?hg (N := 1) ?hd (cs := #[.bool a0_0, .string a0_1, .int .i64 a0_2]) (t := 23) ?hr ?_; (case hd => rfl); (case hg => rfl); (case hr => first | (go_simp; done) | (go_simp; rfl)); intro gb104 hg w21 hbox hb; have n0_ := Aside0.mk (below_step (by repeat (first | (with_reducible first | exact HB.out | apply below_alloc | apply pw_below_drewN | apply below_drew1) | exact HB.out)) hb); have n1_ := Aside0.mk (hbox); have n2_ := Aside0.mk ((by rw [hg]; exact (below_size (by repeat (first | (with_reducible first | exact HB.out | apply below_alloc | apply pw_below_drewN | apply below_drew1) | exact HB.out))) : w.heap.size ≤ gb104)); have n3_ := Aside0.mk ((by rw [hg]; exact (below_size (by repeat (first | (with_reducible first | exact HB.out | apply below_alloc | apply pw_below_drewN | apply below_drew1) | exact HB.out))) : w.heap.size ≤ gb104)); clear HB; have HB := n0_; have BK104 := n1_; have GW104 := n2_; have GE104 := n3_; clear n0_ n1_ n2_ n3_; clear hb hbox hg; have hcz22_0 : w21.cell? ⟨gb104, 0, none⟩ = some (.bool a0_0) := (blk_cell BK104.out 0).trans rfl; have hcz22_1 : w21.cell? ⟨gb104, 1, none⟩ = some (.string a0_1) := (blk_cell BK104.out 1).trans rfl; have hcz22_2 : w21.cell? ⟨gb104, 2, none⟩ = some (.int .i64 a0_2) := (blk_cell BK104.out 2).trans rfl; have hfz22_0 := blk_frozen BK104.out 0; have hfz22_1 := blk_frozen BK104.out 1; have hfz22_2 := blk_frozen BK104.out 2) | ((with_reducible refine gate_callee (f := 71) rfl ?_); refine goesL_ (some 5) rfl rfl Tryd.func71 (by kernel_rfl) rfl #[.string a0_1] rfl (by (try simp only [List.map_toArray, List.map_cons, List.map_nil]); first | done | rfl | (simp only [List.length_drop, List.length_take]; rfl)) ?_; (with_reducible refine (dec_isDigits.calls a0_1 true _ A2.out).mono ?_); rintro e w23 ⟨rfl, hb⟩; refine ⟨_, rfl, ?_⟩; have n0_ := Aside0.mk (blk_below (g := gb104) (o := .cells #[.bool a0_0, .string a0_1, .int .i64 a0_2] 23 (0, 0)) (by (with_reducible repeat (first | refine blk_drewN ?_ _ | refine blk_drew ?_ | refine blk_alloc ?_ _)); exact BK104.out) hb); have n1_ := Aside0.mk (below_step (by repeat (first | (with_reducible first | exact HB.out | apply below_alloc | apply pw_below_drewN | apply below_drew1 | refine below_set ?_ GE104.out) | exact HB.out)) hb); clear BK104; clear HB; have BK104 := n0_; have HB := n1_; clear n0_ n1_; (try clear hb); (try clear hb2); (try clear hk); (try clear hi); have hcz24_0 : w23.cell? ⟨gb104, 0, none⟩ = some (.bool a0_0) := (blk_cell BK104.out 0).trans rfl; have hcz24_1 : w23.cell? ⟨gb104, 1, none⟩ = some (.string a0_1) := (blk_cell BK104.out 1).trans rfl; have hcz24_2 : w23.cell? ⟨gb104, 2, none⟩ = some (.int .i64 a0_2) := (blk_cell BK104.out 2).trans rfl; have hfz24_0 := blk_frozen BK104.out 0; have hfz24_1 := blk_frozen BK104.out 1; have hfz24_2 := blk_frozen BK104.out 2))
      go_ret
      exact ⟨by first | rfl | (simp [errW_none, errW_some] <;> rfl) | (simp [*, errW_none, errW_some] <;> rfl), by repeat (first | (with_reducible first | exact HB.out | apply below_alloc | apply pw_below_drewN | apply below_drew1 | refine below_set ?_ GE104.out) | exact HB.out)⟩
  · replace c3 := Bool.eq_false_iff.mpr c3
    subst c3
    have H1 : (some false) = some r := by rw [if_neg (show ¬ (false = true) by decide)] at H; exact H
    clear H
    have H := H1
    clear H1
    obtain rfl := Option.some.inj H
    go_enter Tryd.func39, Tryd.ntmps39
    go_wp2_with (first | ((with_reducible refine gate_dst (N := 1) rfl ?_); (try (refine gate_guard (by rfl) ?_; dsimp only)); refine box_event ?hg (N := 1) ?hd (cs := #[.bool a0_0, .string a0_1, .int .i64 a0_2]) (t := 23) ?hr ?_; (case hd => rfl); (case hg => rfl); (case hr => first | (go_simp; done) | (go_simp; rfl)); intro gb104 hg w25 hbox hb; have n0_ := Aside0.mk (below_step (by repeat (first | (with_reducible first | exact HB.out | apply below_alloc | apply pw_below_drewN | apply below_drew1) | exact HB.out)) hb); have n1_ := Aside0.mk (hbox); have n2_ := Aside0.mk ((by rw [hg]; exact (below_size (by repeat (first | (with_reducible first | exact HB.out | apply below_alloc | apply pw_below_drewN | apply below_drew1) | exact HB.out))) : w.heap.size ≤ gb104)); have n3_ := Aside0.mk ((by rw [hg]; exact (below_size (by repeat (first | (with_reducible first | exact HB.out | apply below_alloc | apply pw_below_drewN | apply below_drew1) | exact HB.out))) : w.heap.size ≤ gb104)); clear HB; have HB := n0_; have BK104 := n1_; have GW104 := n2_; have GE104 := n3_; clear n0_ n1_ n2_ n3_; clear hb hbox hg; have hcz26_0 : w25.cell? ⟨gb104, 0, none⟩ = some (.bool a0_0) := (blk_cell BK104.out 0).trans rfl; have hcz26_1 : w25.cell? ⟨gb104, 1, none⟩ = some (.string a0_1) := (blk_cell BK104.out 1).trans rfl; have hcz26_2 : w25.cell? ⟨gb104, 2, none⟩ = some (.int .i64 a0_2) := (blk_cell BK104.out 2).trans rfl; have hfz26_0 := blk_frozen BK104.out 0; have hfz26_1 := blk_frozen BK104.out 1; have hfz26_2 := blk_frozen BK104.out 2) | ((with_reducible refine gate_callee (f := 71) rfl ?_); refine goesL_ (some 5) rfl rfl Tryd.func71 (by kernel_rfl) rfl #[.string a0_1] rfl (by (try simp only [List.map_toArray, List.map_cons, List.map_nil]); first | done | rfl | (simp only [List.length_drop, List.length_take]; rfl)) ?_; (with_reducible refine (dec_isDigits.calls a0_1 false _ A2.out).mono ?_); rintro e w27 ⟨rfl, hb⟩; refine ⟨_, rfl, ?_⟩; have n0_ := Aside0.mk (blk_below (g := gb104) (o := .cells #[.bool a0_0, .string a0_1, .int .i64 a0_2] 23 (0, 0)) (by (with_reducible repeat (first | refine blk_drewN ?_ _ | refine blk_drew ?_ | refine blk_alloc ?_ _)); exact BK104.out) hb); have n1_ := Aside0.mk (below_step (by repeat (first | (with_reducible first | exact HB.out | apply below_alloc | apply pw_below_drewN | apply below_drew1 | refine below_set ?_ GE104.out) | exact HB.out)) hb); clear BK104; clear HB; have BK104 := n0_; have HB := n1_; clear n0_ n1_; (try clear hb); (try clear hb2); (try clear hk); (try clear hi)))
    go_ret
    exact ⟨by first | rfl | (simp [errW_none, errW_some] <;> rfl) | (simp [*, errW_none, errW_some] <;> rfl), by repeat (first | (with_reducible first | exact HB.out | apply below_alloc | apply pw_below_drewN | apply below_drew1 | refine below_set ?_ GE104.out) | exact HB.out)⟩
end Go.Proofs.YtonjkoeacedaiaaDoor.S
namespace Go.Proofs.YtonjkoeacedaiaaDoor
open Go.RowKit Go.Proofs.YtonjkoeacedaiaaDoorW.PrintLast
open Go.Proofs.YtonjkoeacedaiaaDoorW.PrintWords (gate_dst blk_cell)
open Go.Proofs.YtonjkoeacedaiaaDoor.S (Dg bor dif subSt dif_at bor_or car twi twSt twi_at car_or unitF)
set_option linter.unusedVariables false
set_option linter.unusedSimpArgs false
def Dv (g : Nat) (n : Bool) (d : ByteArray) (k : Int) (W : World) : Prop := W.heap[g]? = some (.cells #[.bool n, .string d, .int .i64 k] 23 (0, 0))
theorem Dv.step {g : Nat} {n : Bool} {d : ByteArray} {k : Int} {W W1 : World} (h : Dv g n d k W) (c : Below W.heap.size W W1) : Dv g n d k W1 := below_blockOf c (Nat.le_refl _) h
theorem Dv.get {g : Nat} {n : Bool} {d : ByteArray} {k : Int} {W : World} (h : Dv g n d k W) : W.cell? ⟨g, 0, none⟩ = some (.bool n) ∧ W.cell? ⟨g, 1, none⟩ = some (.string d) ∧ W.cell? ⟨g, 2, none⟩ = some (.int .i64 k) :=
  ⟨(Lib.cell_of_heap h 0).trans rfl, (Lib.cell_of_heap h 1).trans rfl, (Lib.cell_of_heap h 2).trans rfl⟩
structure Rw (w : World) (n : Bool) (d : ByteArray) (k : Int) (W : World) : Prop where
  box : Dv w.heap.size n d k W
  bel : Below w.heap.size w W
  tab : G.Tab_ W
theorem Rw.step {w W W1 : World} {n : Bool} {d : ByteArray} {k : Int} (h : Rw w n d k W) (c : Below W.heap.size W W1) : Rw w n d k W1 := ⟨h.box.step c, below_on h.bel c h.bel.size, h.tab.step c⟩
theorem Rw.start (w : World) (n : Bool) (d : ByteArray) (k : Int) (hT : G.Tab_ w) : Rw w n d k (w.alloc (.cells #[.bool n, .string d, .int .i64 k] 23)) :=
  ⟨heap_alloc_new w _, (Below.refl w.heap.size w).alloc (Nat.le_refl _) _, hT.step ((Below.refl w.heap.size w).alloc (Nat.le_refl _) _)⟩
theorem Rw.calls {w W : World} {n : Bool} {d : ByteArray} {k : Int} {P : Program} {f : FuncId} {args : Array Value} {r : Value} (h : Rw w n d k W) (c : Calls P f args W fun e w' => e = .returned r ∧ Below W.heap.size W w') :
    Calls P f args W fun e w' => e = .returned r ∧ Rw w n d k w' ∧ Below W.heap.size W w' := c.mono fun e w' ⟨he, hb⟩ => ⟨he, h.step hb, hb⟩
theorem setRow_blk {W : World} {g h : Nat} {X : Array Value} (hne : g ≠ h) : (W.setRow h X).heap[g]? = W.heap[g]? := by
  simp [World.setRow, Array.getElem?_modify]
  intro e
  exact absurd e.symm hne
theorem Fx.row_far {W : World} {g h : Nat} {X Y : Array Value} (hf : Fx g X W) (hne : g ≠ h) : Fx g X (W.setRow h Y) := ⟨(setRow_blk hne).trans hf.blk, hf.sz⟩
theorem Fx.row_new {W : World} {g : Nat} {X Y : Array Value} (hf : Fx g X W) (hY : Y.size = 200) : Fx g Y (W.setRow g Y) := by
  refine ⟨?_, hY⟩
  have := hf.blk
  simp [World.setRow, Array.getElem?_modify, this]
theorem below_row {B : Nat} {w W : World} {g : Nat} (h : Below B w W) (hg : B ≤ g) (Y : Array Value) : Below B w (W.setRow g Y) :=
  ⟨h.os, h.tape, h.output, by simpa [World.setRow] using h.size, fun j hj => (setRow_blk (by omega)).trans (h.block j hj)⟩
theorem Fx.lt {W : World} {g : Nat} {X : Array Value} (h : Fx g X W) : g < W.heap.size := (Array.getElem?_eq_some_iff.1 h.blk).1
theorem unit_set (t : Nat) (ht : t ≤ 100) : (fixC (fun _ => 0)).setIfInBounds (99 + t) (.int .i64 1) = fixC (unitF t) := by
  rw [fixC_set _ _ _ (by omega)]
  rfl
theorem new_block {W : World} (o : Obj) : Below W.heap.size W (W.alloc o) := (Below.refl W.heap.size W).alloc (Nat.le_refl _) o
set_option maxRecDepth 100000 in
set_option maxHeartbeats 4000000 in
theorem rounds_not (n : Bool) (d : ByteArray) (k sc : Int) (r1 : Bool) (hr : r1 = false ∨ 60 < sc)
    (c1 : ∀ W, Calls Tryd.prog 18 #[decV n d k] W fun e w' => e = .returned (.bool r1) ∧ Below W.heap.size W w') (w : World) (hT : G.Tab_ w) :
    Calls Tryd.prog 10 #[decV n d k, .int .i64 sc] w fun e w' => e = .returned (.bool true) ∧ Below w.heap.size w w' := by
  have hS := Rw.start w n d k hT
  have cH := fun W (h : Rw w n d k W) => h.calls (head2_any W h.tab)
  have cA := fun W (h : Rw w n d k W) => h.calls (c1 W)
  obtain ⟨p0, p1, p2⟩ := hS.box.get
  unfold decV at *
  clear c1
  rcases r1 with _ | _
  · go_enter Tryd.func10, Tryd.ntmps10
    go_wp2_with (first
      | (go_at_call 34; ((with_reducible refine (cH _ hS).mono ?_); rintro e W1 ⟨rfl, hH1, b1⟩; obtain ⟨p0, p1, p2⟩ := hH1.box.get))
      | (go_at_call 18; ((with_reducible refine (cA _ hH1).mono ?_); rintro e W2 ⟨rfl, hH2, b2⟩)))
    go_ret
    exact ⟨rfl, hH2.bel⟩
  · have hs : 60 < sc := by simpa using hr
    have q0 : decide (sc > 60) = true := decide_eq_true hs
    have q1 : decide (60 < sc) = true := decide_eq_true hs
    go_enter Tryd.func10, Tryd.ntmps10
    go_wp2_with (first
      | (go_at_call 34; ((with_reducible refine (cH _ hS).mono ?_); rintro e W1 ⟨rfl, hH1, b1⟩; obtain ⟨p0, p1, p2⟩ := hH1.box.get))
      | (go_at_call 18; ((with_reducible refine (cA _ hH1).mono ?_); rintro e W2 ⟨rfl, hH2, b2⟩)))
    go_ret
    exact ⟨rfl, hH2.bel⟩
attribute [local go_sem high] R.eqA23
set_option maxRecDepth 100000 in
set_option maxHeartbeats 4000000 in
theorem rounds_whole (n : Bool) (d : ByteArray) (k sc : Int) (t : Int) (hs : sc ≤ 60) (ht : max sc 0 = t) (hk : k ≤ t)
    (c1 : ∀ W, Calls Tryd.prog 18 #[decV n d k] W fun e w' => e = .returned (.bool true) ∧ Below W.heap.size W w')
    (c2 : ∀ W, Calls Tryd.prog 40 #[decV n d k, .int .i64 sc] W fun e w' => e = .returned (decV n d k) ∧ Below W.heap.size W w') (w : World) (hT : G.Tab_ w) :
    Calls Tryd.prog 10 #[decV n d k, .int .i64 sc] w fun e w' => e = .returned (.bool true) ∧ Below w.heap.size w w' := by
  have hS := Rw.start w n d k hT
  have cH := fun W (h : Rw w n d k W) => h.calls (head2_any W h.tab)
  have cA := fun W (h : Rw w n d k W) => h.calls (c1 W)
  have cR := fun W (h : Rw w n d k W) => h.calls (c2 W)
  obtain ⟨p0, p1, p2⟩ := hS.box.get
  unfold decV at *
  clear c1 c2
  have q0 : decide (sc > 60) = false := decide_eq_false (by omega)
  have q1 : decide (60 < sc) = false := decide_eq_false (by omega)
  go_enter Tryd.func10, Tryd.ntmps10
  go_upto_region 6 with (first
    | (go_at_call 34; ((with_reducible refine (cH _ hS).mono ?_); rintro e W1 ⟨rfl, hH1, b1⟩; obtain ⟨p0, p1, p2⟩ := hH1.box.get))
    | (go_at_call 18; ((with_reducible refine (cA _ hH1).mono ?_); rintro e W2 ⟨rfl, hH2, b2⟩; obtain ⟨p0, p1, p2⟩ := hH2.box.get))
    | (go_at_call 40; ((with_reducible refine (cR _ hH2).mono ?_); rintro e W3 ⟨rfl, hH3, b3⟩; obtain ⟨p0, p1, p2⟩ := hH3.box.get)))
  have hst := new_block (W := W3) (.cells #[.bool n, .string d, .int .i64 k] 23)
  have hH4 := hH3.step hst
  have hD4 : Dv W3.heap.size n d k (W3.alloc (.cells #[.bool n, .string d, .int .i64 k] 23)) := heap_alloc_new W3 _
  generalize W3.alloc (.cells #[.bool n, .string d, .int .i64 k] 23) = W4 at *
  generalize W3.heap.size = g5 at *
  obtain ⟨p0, p1, p2⟩ := hH4.box.get
  obtain ⟨s0, s1, s2⟩ := hD4.get
  clear cH cA cR hH1 hH2 hH3 b1 b2 b3 hst
  have q2 : decide (k ≤ t) = true := decide_eq_true hk
  have q3 : (n == n) = true := by simp
  have q4 : (d.toList == d.toList) = true := by simp
  have q5 : (k == k) = true := by simp
  go_wp2
  go_ret
  exact ⟨rfl, hH4.bel⟩
set_option maxRecDepth 100000 in
set_option maxHeartbeats 8000000 in
theorem rounds_yes (n : Bool) (d : ByteArray) (k sc : Int) (t : Nat) (hs : sc ≤ 60) (ht : max sc 0 = (t : Int)) (ht60 : t ≤ 60) (hk : (t : Int) < k) (R : ByteArray) (hR : R.size ≤ 100) (f1 f2 gap : Nat → Int) (d1 : Dg f1) (d2 : Dg f2) (d3 : Dg gap)
    (hgap : gap = if lessF f1 f2 200 > 0 then dif f1 f2 else dif f2 f1) (hb : if lessF f1 f2 200 > 0 then bor f1 f2 200 = 0 else bor f2 f1 200 = 0)
    (c2 : Int) (hc2 : lessF (twi gap) (unitF t) 200 = c2) (hend : c2 < 0 ∨ c2 = 0 ∧ f2 (99 + t) % 2 = 0)
    (c1 : ∀ W, Calls Tryd.prog 18 #[decV n d k] W fun e w' => e = .returned (.bool true) ∧ Below W.heap.size W w')
    (cr : ∀ W, Calls Tryd.prog 40 #[decV n d k, .int .i64 sc] W fun e w' => e = .returned (decV n R t) ∧ Below W.heap.size W w')
    (cq : ∀ W, Calls Tryd.prog 39 #[decV n R t] W fun e w' => e = .returned (.bool true) ∧ Below W.heap.size W w')
    (o1 : ∀ W, Calls Tryd.prog 41 #[decV n d k] W fun e w' => e = .returned (.agg (fixC f1)) ∧ Below W.heap.size W w')
    (o2 : ∀ W, Calls Tryd.prog 41 #[decV n R t] W fun e w' => e = .returned (.agg (fixC f2)) ∧ Below W.heap.size W w') (w : World) (hT : G.Tab_ w) :
    Calls Tryd.prog 10 #[decV n d k, .int .i64 sc] w fun e w' => e = .returned (.bool true) ∧ Below w.heap.size w w' := by
  have hS := Rw.start w n d k hT
  have cH := fun W (h : Rw w n d k W) => h.calls (head2_any W h.tab)
  have cA := fun W (h : Rw w n d k W) => h.calls (c1 W)
  have cR := fun W (h : Rw w n d k W) => h.calls (cr W)
  have cQ := fun W (h : Rw w n d k W) => h.calls (cq W)
  have cX := fun W (h : Rw w n d k W) => h.calls (o1 W)
  have cY := fun W (h : Rw w n d k W) => h.calls (o2 W)
  obtain ⟨p0, p1, p2⟩ := hS.box.get
  unfold decV at *
  clear c1 cr cq o1 o2
  have q0 : decide (sc > 60) = false := decide_eq_false (by omega)
  have q1 : decide (60 < sc) = false := decide_eq_false (by omega)
  go_enter Tryd.func10, Tryd.ntmps10
  go_upto_region 6 with (first
    | (go_at_call 34; ((with_reducible refine (cH _ hS).mono ?_); rintro e W1 ⟨rfl, hH1, b1⟩; obtain ⟨p0, p1, p2⟩ := hH1.box.get))
    | (go_at_call 18; ((with_reducible refine (cA _ hH1).mono ?_); rintro e W2 ⟨rfl, hH2, b2⟩; obtain ⟨p0, p1, p2⟩ := hH2.box.get))
    | (go_at_call 40; ((with_reducible refine (cR _ hH2).mono ?_); rintro e W3 ⟨rfl, hH3, b3⟩; obtain ⟨p0, p1, p2⟩ := hH3.box.get)))
  have hst := new_block (W := W3) (.cells #[.bool n, .string R, .int .i64 (t : Int)] 23)
  have hH4 := hH3.step hst
  have hD4 : Dv W3.heap.size n R t (W3.alloc (.cells #[.bool n, .string R, .int .i64 (t : Int)] 23)) := heap_alloc_new W3 _
  generalize W3.alloc (.cells #[.bool n, .string R, .int .i64 (t : Int)] 23) = W4 at *
  generalize W3.heap.size = g5 at *
  obtain ⟨p0, p1, p2⟩ := hH4.box.get
  obtain ⟨s0, s1, s2⟩ := hD4.get
  clear cH cA cR hH1 hH2 hH3 b1 b2 b3 hst
  have q2 : decide (k ≤ (t : Int)) = false := decide_eq_false (by omega)
  have q3 : decide ((R.size : Int) > 100) = false := decide_eq_false (by omega)
  have q4 : decide ((100 : Int) < (R.size : Int)) = false := decide_eq_false (by omega)
  have q5 : decide ((R.size : Int) ≤ 100) = true := decide_eq_true (by omega)
  go_upto_region 11 with ((go_at_call 39; ((with_reducible refine (cQ _ hH4).mono ?_); rintro e W5 ⟨rfl, hH5, b5⟩; have hD5 := hD4.step b5; obtain ⟨p0, p1, p2⟩ := hH5.box.get; obtain ⟨s0, s1, s2⟩ := hD5.get)))
  clear cQ q0 q1 q2 q3 q4 q5 hH4 hD4
  have hs1 := fixC_size f1
  have hs2 := fixC_size f2
  have hsz := fixC_size (fun _ => 0)
  have hv1 := fixC_one f1
  have hv2 := fixC_one f2
  have hvz := fixC_one (fun _ => 0)
  have hB5 := hH5.bel
  go_upto_region 12 with ((go_at_call 41; ((with_reducible refine (cX _ hH5).mono ?_); rintro e W6 ⟨rfl, hH6, b6⟩; have st6 := run_storeCells_new (P := Tryd.prog) W6 69 Tryd.zeroCells69 (fixC f1) (by rw [hs1]; exact fixInfo) (by rw [hs1, zc_size]) hv1)))
  have hX7 := Fx.new (W := W6) hs1
  have hH7 := hH6.step (new_block (W := W6) (.cells (fixC f1) 69))
  have hD7 := (hD5.step b6).step (new_block (W := W6) (.cells (fixC f1) 69))
  generalize W6.alloc (.cells (fixC f1) 69) = W7 at *
  generalize W6.heap.size = gx at *
  clear st6 hH5 hD5 b5 hH6 b6 cX hv1 p0 p1 p2 s0 s1 s2 hB5
  obtain ⟨s0, s1, s2⟩ := hD7.get
  go_upto_region 13 with ((go_at_call 41; ((with_reducible refine (cY _ hH7).mono ?_); rintro e W8 ⟨rfl, hH8, b8⟩; have st8 := run_storeCells_new (P := Tryd.prog) W8 69 Tryd.zeroCells69 (fixC f2) (by rw [hs2]; exact fixInfo) (by rw [hs2, zc_size]) hv2)))
  have hY9 := Fx.new (W := W8) hs2
  have hX9 := (hX7.step b8).step (new_block (W := W8) (.cells (fixC f2) 69))
  have hH9 := hH8.step (new_block (W := W8) (.cells (fixC f2) 69))
  generalize W8.alloc (.cells (fixC f2) 69) = W9 at *
  generalize W8.heap.size = gy at *
  clear st8 hH7 hD7 hH8 b8 cY hv2 s0 s1 s2 hX7
  have st9 := run_storeCells_new (P := Tryd.prog) W9 69 Tryd.zeroCells69 (fixC fun _ => 0) (by rw [hsz]; exact fixInfo) (by rw [hsz, zc_size]) hvz
  go_upto_region 14 with ((with_reducible refine gate_dst (N := 58) rfl ?_); refine wpl_build_fix (Z := fixC fun _ => 0) rfl rfl rfl ?_)
  have hZ10 := Fx.new (W := W9) hsz
  have hX10 := hX9.step (new_block (W := W9) (.cells (fixC fun _ => 0) 69))
  have hY10 := hY9.step (new_block (W := W9) (.cells (fixC fun _ => 0) 69))
  have hB10 := (hH9.step (new_block (W := W9) (.cells (fixC fun _ => 0) 69))).bel
  have hgx : gx < W9.heap.size := hX9.lt
  have hgy : gy < W9.heap.size := hY9.lt
  have hgw : w.heap.size ≤ W9.heap.size := hH9.bel.size
  generalize W9.alloc (.cells (fixC fun _ => 0) 69) = W10 at *
  generalize W9.heap.size = gz at *
  clear st9 hX9 hY9 hH9
  have hgap2 : (if lessF f1 f2 200 > 0 then fixC (dif f1 f2) else fixC (dif f2 f1)) = fixC gap := by rw [hgap]; split <;> rfl
  have hsg := fixC_size gap
  have cS : (lessF f1 f2 200 > 0 → ∀ W, Calls Tryd.prog 43 #[.agg (fixC f1), .agg (fixC f2)] W fun e w' => e = .returned (.agg (fixC gap)) ∧ Below W.heap.size W w') ∧ (¬ lessF f1 f2 200 > 0 → ∀ W, Calls Tryd.prog 43 #[.agg (fixC f2), .agg (fixC f1)] W fun e w' => e = .returned (.agg (fixC gap)) ∧ Below W.heap.size W w') := by
    constructor
    · intro h W
      rw [if_pos h] at hb hgap2
      have := sub_any f1 f2 d1 d2 hb W
      rw [hgap2] at this
      exact this
    · intro h W
      rw [if_neg h] at hb hgap2
      have := sub_any f2 f1 d2 d1 hb W
      rw [hgap2] at this
      exact this
  have cL := fun W => less_any f1 f2 W
  have cT := fun W => twice_any gap d3 W
  have cE := fun W => less_any (twi gap) (unitF t) W
  rw [hc2] at cE
  clear hb hgap2 hgap hc2 d1 d3
  generalize hc1 : lessF f1 f2 200 = c1 at *
  clear hc1
  obtain ⟨cS1, cS2⟩ := cS
  have hrow : ∀ W, Fx gz (fixC fun _ => 0) W → (storeCells ⟨gz, 0, none⟩ (fixC gap).toList).run Tryd.prog W = .ok () (W.setRow gz (fixC gap)) := fun W h => by
    have := run_storeCells_from (P := Tryd.prog) gz 69 (fixC gap).toList 0 (fixC fun _ => 0) W h.blk (by rw [Array.length_toList, fixC_size, fixC_size]) (fun v hv => fixC_one' _ v hv)
    rwa [show (((fixC fun _ => 0).toList.take 0 ++ (fixC gap).toList).toArray) = fixC gap by simp] at this
  by_cases hc : c1 > 0
  · have q0 : decide (c1 > 0) = true := decide_eq_true hc
    have q1 : decide (0 < c1) = true := decide_eq_true hc
    have cS := cS1 hc
    clear cS1 cS2
    go_upto_region 17 with (first
      | ((with_reducible refine gate_dst (N := 59) rfl ?_); refine wpl_load_fix hX10 _ rfl rfl rfl ?_)
      | ((with_reducible refine gate_dst (N := 60) rfl ?_); refine wpl_load_fix hY10 _ rfl rfl rfl ?_)
      | (go_at_call 42; ((with_reducible refine (cL _).mono ?_); rintro e W11 ⟨rfl, b11⟩; have hX11 := hX10.step b11; have hY11 := hY10.step b11; have hZ11 := hZ10.step b11; have hB11 := below_on hB10 b11 hB10.size))
      | ((with_reducible refine gate_dst (N := 63) rfl ?_); refine wpl_load_fix hX11 _ rfl rfl rfl ?_)
      | ((with_reducible refine gate_dst (N := 64) rfl ?_); refine wpl_load_fix hY11 _ rfl rfl rfl ?_)
      | (go_at_call 43; ((with_reducible refine (cS _).mono ?_); rintro e W12 ⟨rfl, b12⟩; have hX12 := hX11.step b12; have hY12 := hY11.step b12; have hZ12 := hZ11.step b12; have hB12 := below_on hB11 b12 hB11.size; have hsc := hrow W12 hZ12)))
    have hG13 := hZ12.row_new hsg
    have hY13 := hY12.row_far (Y := fixC gap) (show gy ≠ gz by omega)
    have hB13 := below_row hB12 (show w.heap.size ≤ gz by omega) (fixC gap)
    generalize W12.setRow gz (fixC gap) = W13 at *
    clear hsc hX12 hY12 hZ12 hB12 hX11 hY11 hZ11 hB11 hX10 hY10 hZ10 hB10 b11 b12 cL cS hrow q0 q1
    have st13 := run_storeCells_new (P := Tryd.prog) W13 69 Tryd.zeroCells69 (fixC fun _ => 0) (by rw [hsz]; exact fixInfo) (by rw [hsz, zc_size]) hvz
    go_upto_region 18 with ((with_reducible refine gate_dst (N := 69) rfl ?_); refine wpl_build_fix (Z := fixC fun _ => 0) rfl rfl rfl ?_)
    have hU14 := Fx.new (W := W13) hsz
    have hG14 := hG13.step (new_block (W := W13) (.cells (fixC fun _ => 0) 69))
    have hY14 := hY13.step (new_block (W := W13) (.cells (fixC fun _ => 0) 69))
    have hB14 := below_on hB13 (new_block (W := W13) (.cells (fixC fun _ => 0) 69)) hB13.size
    have hgz := hG13.lt
    have hgy2 := hY13.lt
    have hgw2 := hB13.size
    generalize W13.alloc (.cells (fixC fun _ => 0) 69) = W14 at *
    generalize W13.heap.size = gu at *
    clear st13 hG13 hY13 hB13
    have u0 : W14.cell? ⟨gu, 99 + t, none⟩ = some (.int .i64 0) := (Lib.cell_of_heap hU14.blk (99 + t)).trans (fixC_at _ _ (by omega))
    have v0 := Lib.frozen_of_heap hU14.blk (99 + t)
    have hidx : ((99 : Int) + (t : Int)).toNat = 99 + t := by omega
    have hi0 : (0 : Int) ≤ (99 : Int) + (t : Int) := by omega
    have hi2 : (99 : Int) + (t : Int) < 200 := by omega
    go_upto_region 19 with (fail)
    have hU15 : Fx gu (fixC (unitF t)) (W14.setCell ⟨gu, 99 + t, none⟩ (.int .i64 1)) := ⟨by rw [← unit_set t (by omega)]; exact heap_set_same hU14.blk, fixC_size _⟩
    have hG15 : Fx gz (fixC gap) (W14.setCell ⟨gu, 99 + t, none⟩ (.int .i64 1)) := ⟨(Below.heap_setCell W14 ⟨gu, 99 + t, none⟩ _ gz (by show gz ≠ gu; omega)).trans hG14.blk, hsg⟩
    have hY15 : Fx gy (fixC f2) (W14.setCell ⟨gu, 99 + t, none⟩ (.int .i64 1)) := ⟨(Below.heap_setCell W14 ⟨gu, 99 + t, none⟩ _ gy (by show gy ≠ gu; omega)).trans hY14.blk, hs2⟩
    have hB15 := hB14.setCell (p := ⟨gu, 99 + t, none⟩) (by show w.heap.size ≤ gu; omega) (.int .i64 1)
    generalize W14.setCell ⟨gu, 99 + t, none⟩ (.int .i64 1) = W15 at *
    clear u0 v0 hU14 hG14 hY14 hB14
    have bd := (Below.refl W15.heap.size W15).drew
    refine rnd_end w f2 gap (twi gap) (unitF t) c2 gy gz gu cT cE _ rfl rfl rfl W15 ⟨hB15.drew, hG15.step bd, hU15.step bd, hY15.step bd⟩ _ ?_
    intro a9 W16 hI16 ha9 hd9
    have y0 : W16.cell? ⟨gy, 99 + t, none⟩ = some (.int .i64 (f2 (99 + t))) := (Lib.cell_of_heap hI16.2.2.2.blk (99 + t)).trans (fixC_at _ _ (by omega))
    have y1 := (d2 (99 + t)).1
    have y2 := (d2 (99 + t)).2
    have hbe := hI16.1
    clear hI16 hd9 hG15 hU15 hY15 hB15 bd cT cE d2 hs1 hs2 hsg hsz hvz
    rw [ha9]
    simp only [putSel, if_true, Act.put, List.setIfInBounds_toArray, List.set_cons_zero, List.set_cons_succ]
    clear ha9
    generalize f2 (99 + t) = y at *
    rcases hend with h1 | ⟨h1, h2⟩
    · have q2 : decide (c2 < 0) = true := decide_eq_true h1
      go_wp2
      go_ret
      exact ⟨rfl, hbe⟩
    · subst h1
      have h3 : Int.tmod y 2 = 0 := by rw [Int.tmod_eq_emod_of_nonneg y1]; exact h2
      go_wp2
      go_ret
      exact ⟨rfl, hbe⟩
  · have q0 : decide (c1 > 0) = false := decide_eq_false hc
    have q1 : decide (0 < c1) = false := decide_eq_false hc
    have cS := cS2 hc
    clear cS1 cS2
    go_upto_region 17 with (first
      | ((with_reducible refine gate_dst (N := 59) rfl ?_); refine wpl_load_fix hX10 _ rfl rfl rfl ?_)
      | ((with_reducible refine gate_dst (N := 60) rfl ?_); refine wpl_load_fix hY10 _ rfl rfl rfl ?_)
      | (go_at_call 42; ((with_reducible refine (cL _).mono ?_); rintro e W11 ⟨rfl, b11⟩; have hX11 := hX10.step b11; have hY11 := hY10.step b11; have hZ11 := hZ10.step b11; have hB11 := below_on hB10 b11 hB10.size))
      | ((with_reducible refine gate_dst (N := 66) rfl ?_); refine wpl_load_fix hY11 _ rfl rfl rfl ?_)
      | ((with_reducible refine gate_dst (N := 67) rfl ?_); refine wpl_load_fix hX11 _ rfl rfl rfl ?_)
      | (go_at_call 43; ((with_reducible refine (cS _).mono ?_); rintro e W12 ⟨rfl, b12⟩; have hX12 := hX11.step b12; have hY12 := hY11.step b12; have hZ12 := hZ11.step b12; have hB12 := below_on hB11 b12 hB11.size; have hsc := hrow W12 hZ12)))
    have hG13 := hZ12.row_new hsg
    have hY13 := hY12.row_far (Y := fixC gap) (show gy ≠ gz by omega)
    have hB13 := below_row hB12 (show w.heap.size ≤ gz by omega) (fixC gap)
    generalize W12.setRow gz (fixC gap) = W13 at *
    clear hsc hX12 hY12 hZ12 hB12 hX11 hY11 hZ11 hB11 hX10 hY10 hZ10 hB10 b11 b12 cL cS hrow q0 q1
    have st13 := run_storeCells_new (P := Tryd.prog) W13 69 Tryd.zeroCells69 (fixC fun _ => 0) (by rw [hsz]; exact fixInfo) (by rw [hsz, zc_size]) hvz
    go_upto_region 18 with ((with_reducible refine gate_dst (N := 69) rfl ?_); refine wpl_build_fix (Z := fixC fun _ => 0) rfl rfl rfl ?_)
    have hU14 := Fx.new (W := W13) hsz
    have hG14 := hG13.step (new_block (W := W13) (.cells (fixC fun _ => 0) 69))
    have hY14 := hY13.step (new_block (W := W13) (.cells (fixC fun _ => 0) 69))
    have hB14 := below_on hB13 (new_block (W := W13) (.cells (fixC fun _ => 0) 69)) hB13.size
    have hgz := hG13.lt
    have hgy2 := hY13.lt
    have hgw2 := hB13.size
    generalize W13.alloc (.cells (fixC fun _ => 0) 69) = W14 at *
    generalize W13.heap.size = gu at *
    clear st13 hG13 hY13 hB13
    have u0 : W14.cell? ⟨gu, 99 + t, none⟩ = some (.int .i64 0) := (Lib.cell_of_heap hU14.blk (99 + t)).trans (fixC_at _ _ (by omega))
    have v0 := Lib.frozen_of_heap hU14.blk (99 + t)
    have hidx : ((99 : Int) + (t : Int)).toNat = 99 + t := by omega
    have hi0 : (0 : Int) ≤ (99 : Int) + (t : Int) := by omega
    have hi2 : (99 : Int) + (t : Int) < 200 := by omega
    go_upto_region 19 with (fail)
    have hU15 : Fx gu (fixC (unitF t)) (W14.setCell ⟨gu, 99 + t, none⟩ (.int .i64 1)) := ⟨by rw [← unit_set t (by omega)]; exact heap_set_same hU14.blk, fixC_size _⟩
    have hG15 : Fx gz (fixC gap) (W14.setCell ⟨gu, 99 + t, none⟩ (.int .i64 1)) := ⟨(Below.heap_setCell W14 ⟨gu, 99 + t, none⟩ _ gz (by show gz ≠ gu; omega)).trans hG14.blk, hsg⟩
    have hY15 : Fx gy (fixC f2) (W14.setCell ⟨gu, 99 + t, none⟩ (.int .i64 1)) := ⟨(Below.heap_setCell W14 ⟨gu, 99 + t, none⟩ _ gy (by show gy ≠ gu; omega)).trans hY14.blk, hs2⟩
    have hB15 := hB14.setCell (p := ⟨gu, 99 + t, none⟩) (by show w.heap.size ≤ gu; omega) (.int .i64 1)
    generalize W14.setCell ⟨gu, 99 + t, none⟩ (.int .i64 1) = W15 at *
    clear u0 v0 hU14 hG14 hY14 hB14
    have bd := (Below.refl W15.heap.size W15).drew
    refine rnd_end w f2 gap (twi gap) (unitF t) c2 gy gz gu cT cE _ rfl rfl rfl W15 ⟨hB15.drew, hG15.step bd, hU15.step bd, hY15.step bd⟩ _ ?_
    intro a9 W16 hI16 ha9 hd9
    have y0 : W16.cell? ⟨gy, 99 + t, none⟩ = some (.int .i64 (f2 (99 + t))) := (Lib.cell_of_heap hI16.2.2.2.blk (99 + t)).trans (fixC_at _ _ (by omega))
    have y1 := (d2 (99 + t)).1
    have y2 := (d2 (99 + t)).2
    have hbe := hI16.1
    clear hI16 hd9 hG15 hU15 hY15 hB15 bd cT cE d2 hs1 hs2 hsg hsz hvz
    rw [ha9]
    simp only [putSel, if_true, Act.put, List.setIfInBounds_toArray, List.set_cons_zero, List.set_cons_succ]
    clear ha9
    generalize f2 (99 + t) = y at *
    rcases hend with h1 | ⟨h1, h2⟩
    · have q2 : decide (c2 < 0) = true := decide_eq_true h1
      go_wp2
      go_ret
      exact ⟨rfl, hbe⟩
    · subst h1
      have h3 : Int.tmod y 2 = 0 := by rw [Int.tmod_eq_emod_of_nonneg y1]; exact h2
      go_wp2
      go_ret
      exact ⟨rfl, hbe⟩
end Go.Proofs.YtonjkoeacedaiaaDoor
namespace Go.Proofs.YtonjkoeacedaiaaDoor
open Go.RowKit Go.Proofs.YtonjkoeacedaiaaDoorW.PrintWords Go.Proofs.YtonjkoeacedaiaaDoorW.PrintLast
set_option linter.unusedVariables false
set_option linter.unusedSimpArgs false
def cmp_end.T : Bool × List (List Nat × List Nat) := (true, [([], []), ([], []), ([0, 1], [0, 1]), ([], []), ([2, 3], [2, 3]), ([4, 2], [4]), ([5], [5]), ([5], [5]), ([6, 7, 5, 5], [5, 6, 7]), ([5], [5]), ([9, 5], [5, 9]), ([8, 10, 5], [5, 8, 10]), ([5, 11], [5, 11]), ([12, 8], [12]), ([13], [13]), ([14, 13, 13], [13, 14]), ([13], [13]), ([13], [13]), ([16, 17, 13], [13, 16, 17]), ([15, 18, 13], [13, 15, 18]), ([13, 19], [13, 19]), ([20, 15, 0, 1, 2, 3, 4, 5, 6, 7, 8, 9, 10, 11, 12, 13, 14, 15, 16, 17, 18, 19, 20], [20])])
def cmp_end.B : List Nat := [0, 0, 3, 0, 15, 31, 63, 63, 255, 63, 575, 2047, 4095, 8191, 16383, 32767, 16383, 16383, 212991, 524287, 1048575, 2097151]
theorem cmp_end.tab : rtab .any (opsOf Tryd.f13 17) = cmp_end.T := by kernel_rfl
theorem cmp_end.bits : waitsOk cmp_end.T.2 cmp_end.B = true := by kernel_rfl
set_option maxRecDepth 100000 in
set_option maxHeartbeats 4000000 in
theorem cmp_end (w : World) (n1 n2 : Bool) (d1 d2 : ByteArray) (k1 k2 c : Int) (z : Bool) (X Z : Array Value) (gx : Nat) (hZ : fixC (fun _ => 0) = Z) (hneg : IntKind.i64.wrap (-c) = -c) (cM : ∀ W, Two w n1 n2 d1 d2 k1 k2 W → Calls Tryd.prog 48 #[.agg #[.bool n1, .string d1, .int .i64 k1], .agg #[.bool n2, .string d2, .int .i64 k2]] W fun e w' => e = .returned (.int .i64 c) ∧ Two w n1 n2 d1 d2 k1 k2 w' ∧ Below W.heap.size W w') (cN : ∀ W, Two w n1 n2 d1 d2 k1 k2 W → Calls Tryd.prog 48 #[.agg #[.bool n2, .string d2, .int .i64 k2], .agg #[.bool n1, .string d1, .int .i64 k1]] W fun e w' => e = .returned (.int .i64 (-c)) ∧ Two w n1 n2 d1 d2 k1 k2 w' ∧ Below W.heap.size W w') (cZ : ∀ W, Two w n1 n2 d1 d2 k1 k2 W → Calls Tryd.prog 32 #[.agg #[.bool n1, .string d1, .int .i64 k1]] W fun e w' => e = .returned (.bool z) ∧ Two w n1 n2 d1 d2 k1 k2 w' ∧ Below W.heap.size W w') (hE : ∀ W, (Op.equal 69 (.agg X) (.agg Z)).run Tryd.prog W = .ok z W) (a0 : Act) (s2 : a0.tmps[2]? = some (.pointer (some ⟨w.heap.size, 0, none⟩))) (s3 : a0.tmps[3]? = some (.pointer (some ⟨w.heap.size + 1, 0, none⟩))) (s5 : a0.tmps[5]? = some (.pointer (some ⟨gx, 0, none⟩))) (s10 : a0.tmps[10]? = some (.int .i64 c)) (hsz : a0.tmps.size = Tryd.f13.ntmps) (W : World) (hI : Two w n1 n2 d1 d2 k1 k2 W.drew ∧ Fx gx X W.drew) (Q : Exit → Act → World → Prop) (hend : ∀ (a9 : Act) w', Two w n1 n2 d1 d2 k1 k2 w' ∧ Fx gx X w' → a9 = putSel a0 (fun _ => true) [(0, 54, .agg #[.bool n1, .string d1, .int .i64 k1]), (1, 55, .agg #[.bool n2, .string d2, .int .i64 k2]), (2, 56, .int .i64 c), (3, 57, .int .i64 c), (4, 58, .bool true), (5, 59, .bool true), (6, 60, .agg #[.bool n2, .string d2, .int .i64 k2]), (7, 61, .agg #[.bool n1, .string d1, .int .i64 k1]), (8, 62, .int .i64 (-c)), (9, 63, .int .i64 c), (10, 64, .int .i64 (-c)), (11, 65, .bool true), (12, 66, .bool true), (13, 67, .bool true), (14, 68, .agg #[.bool n1, .string d1, .int .i64 k1]), (15, 69, .bool z), (16, 70, .agg X), (17, 71, .agg Z), (18, 72, .bool z), (19, 73, .bool true), (20, 74, .bool true), (21, 4, .bool true)] → a9.defers = a0.defers → a9.tmps[4]? = some (.bool true) → Q .normal a9 w') :
    (Code.region 17 #[{ dst := some 54, op := Op.load 23 (Operand.tmp 2), type := 23, pos := "law.go:158", after := #[], guard := none }, { dst := some 55, op := Op.load 23 (Operand.tmp 3), type := 23, pos := "law.go:158", after := #[], guard := none }, { dst := some 56, op := Op.call { callee := Callee.value (Operand.func 48), args := #[Operand.tmp 54, Operand.tmp 55], argTypes := #[23, 23] }, type := 3, pos := "law.go:158", after := #[{ on := 0, ground := Ground.data }, { on := 1, ground := Ground.data }], guard := none }, { dst := some 57, op := Op.move (Operand.tmp 10), type := 3, pos := "law.go:158", after := #[], guard := none }, { dst := some 58, op := Op.binOp BinOp.eql 3 (Operand.tmp 56) (Operand.tmp 57) 3, type := 4, pos := "law.go:158", after := #[{ on := 2, ground := Ground.data }, { on := 3, ground := Ground.data }], guard := none }, { dst := some 59, op := Op.move (Operand.tmp 58), type := 4, pos := "law.go:158", after := #[{ on := 4, ground := Ground.data }, { on := 2, ground := Ground.chain }], guard := none }, { dst := some 60, op := Op.load 23 (Operand.tmp 3), type := 23, pos := "law.go:158", after := #[{ on := 5, ground := Ground.guard }], guard := some (5, true) }, { dst := some 61, op := Op.load 23 (Operand.tmp 2), type := 23, pos := "law.go:158", after := #[{ on := 5, ground := Ground.guard }], guard := some (5, true) }, { dst := some 62, op := Op.call { callee := Callee.value (Operand.func 48), args := #[Operand.tmp 60, Operand.tmp 61], argTypes := #[23, 23] }, type := 3, pos := "law.go:158", after := #[{ on := 6, ground := Ground.data }, { on := 7, ground := Ground.data }, { on := 5, ground := Ground.chain }, { on := 5, ground := Ground.guard }], guard := some (5, true) }, { dst := some 63, op := Op.move (Operand.tmp 10), type := 3, pos := "law.go:158", after := #[{ on := 5, ground := Ground.guard }], guard := some (5, true) }, { dst := some 64, op := Op.unOp UnOp.neg 3 (Operand.tmp 63), type := 3, pos := "law.go:158", after := #[{ on := 9, ground := Ground.data }, { on := 5, ground := Ground.guard }], guard := some (5, true) }, { dst := some 65, op := Op.binOp BinOp.eql 3 (Operand.tmp 62) (Operand.tmp 64) 3, type := 4, pos := "law.go:158", after := #[{ on := 8, ground := Ground.data }, { on := 10, ground := Ground.data }, { on := 5, ground := Ground.guard }], guard := some (5, true) }, { dst := some 66, op := Op.pick (Operand.tmp 59) (Operand.tmp 65) (Operand.const (Value.bool false)), type := 4, pos := "law.go:158", after := #[{ on := 5, ground := Ground.data }, { on := 11, ground := Ground.data }], guard := none }, { dst := some 67, op := Op.move (Operand.tmp 66), type := 4, pos := "law.go:158", after := #[{ on := 12, ground := Ground.data }, { on := 8, ground := Ground.chain }], guard := none }, { dst := some 68, op := Op.load 23 (Operand.tmp 2), type := 23, pos := "law.go:158", after := #[{ on := 13, ground := Ground.guard }], guard := some (13, true) }, { dst := some 69, op := Op.call { callee := Callee.value (Operand.func 32), args := #[Operand.tmp 68], argTypes := #[23] }, type := 4, pos := "law.go:158", after := #[{ on := 14, ground := Ground.data }, { on := 13, ground := Ground.chain }, { on := 13, ground := Ground.guard }], guard := some (13, true) }, { dst := some 70, op := Op.load 69 (Operand.tmp 5), type := 69, pos := "law.go:158", after := #[{ on := 13, ground := Ground.guard }], guard := some (13, true) }, { dst := some 71, op := Op.build 69 #[], type := 69, pos := "law.go:158", after := #[{ on := 13, ground := Ground.guard }], guard := some (13, true) }, { dst := some 72, op := Op.binOp BinOp.eql 69 (Operand.tmp 70) (Operand.tmp 71) 69, type := 4, pos := "law.go:158", after := #[{ on := 16, ground := Ground.data }, { on := 17, ground := Ground.data }, { on := 13, ground := Ground.guard }], guard := some (13, true) }, { dst := some 73, op := Op.binOp BinOp.eql 4 (Operand.tmp 69) (Operand.tmp 72) 4, type := 4, pos := "law.go:158", after := #[{ on := 15, ground := Ground.data }, { on := 18, ground := Ground.data }, { on := 13, ground := Ground.guard }], guard := some (13, true) }, { dst := some 74, op := Op.pick (Operand.tmp 67) (Operand.tmp 73) (Operand.const (Value.bool false)), type := 4, pos := "law.go:158", after := #[{ on := 13, ground := Ground.data }, { on := 19, ground := Ground.data }], guard := none }, { dst := some 4, op := Op.assign (Operand.tmp 74), type := 4, pos := "law.go:158", after := #[{ on := 20, ground := Ground.data }, { on := 15, ground := Ground.chain }, { on := 0, ground := Ground.phase }, { on := 1, ground := Ground.phase }, { on := 2, ground := Ground.phase }, { on := 3, ground := Ground.phase }, { on := 4, ground := Ground.phase }, { on := 5, ground := Ground.phase }, { on := 6, ground := Ground.phase }, { on := 7, ground := Ground.phase }, { on := 8, ground := Ground.phase }, { on := 9, ground := Ground.phase }, { on := 10, ground := Ground.phase }, { on := 11, ground := Ground.phase }, { on := 12, ground := Ground.phase }, { on := 13, ground := Ground.phase }, { on := 14, ground := Ground.phase }, { on := 15, ground := Ground.phase }, { on := 16, ground := Ground.phase }, { on := 17, ground := Ground.phase }, { on := 18, ground := Ground.phase }, { on := 19, ground := Ground.phase }, { on := 20, ground := Ground.phase }], guard := none }] true).wp Tryd.prog Q a0 W := by
  refine start_ (n := 22) (S := fun w' => True) (ds := []) #[false, false, false, false, false, false, false, false, false, false, false, false, false, false, false, false, false, false, false, false, false, false] (by kernel_rfl) rfl rfl trivial (fun hHeld => ?_)
  refine with_tabW cmp_end.tab cmp_end.bits (fun HT_ HW_ => ?_)
  refine inv_at [0, 1, 2, 3, 4, 5, 6, 7, 8, 9, 10, 11, 12, 13, 14, 15, 16, 17, 18, 19, 20, 21] (fun a0_ b a w' => a = putSel a0_ b [(0, 54, .agg #[.bool n1, .string d1, .int .i64 k1]), (1, 55, .agg #[.bool n2, .string d2, .int .i64 k2]), (2, 56, .int .i64 c), (3, 57, .int .i64 c), (4, 58, .bool true), (5, 59, .bool true), (6, 60, .agg #[.bool n2, .string d2, .int .i64 k2]), (7, 61, .agg #[.bool n1, .string d1, .int .i64 k1]), (8, 62, .int .i64 (-c)), (9, 63, .int .i64 c), (10, 64, .int .i64 (-c)), (11, 65, .bool true), (12, 66, .bool true), (13, 67, .bool true), (14, 68, .agg #[.bool n1, .string d1, .int .i64 k1]), (15, 69, .bool z), (16, 70, .agg X), (17, 71, .agg Z), (18, 72, .bool z), (19, 73, .bool true), (20, 74, .bool true), (21, 4, .bool true)] ∧ (Two w n1 n2 d1 d2 k1 k2 w' ∧ Fx gx X w')) HT_.out HW_.out (by kernel_rfl) (by kernel_rfl) ?_ ?_ ?_
  · exact ⟨(by simp only [putSel, Bool.false_eq_true, if_false]), hI⟩
  · clear hI hend hHeld
    refine steps_cons ?_ ?_
    · rintro b a w' ⟨ha, hI⟩ hb_ hon hoff
      refine ⟨_, rfl, fun K hK => ?_⟩
      have e2 : a.tmps[2]? = some (.pointer (some ⟨w.heap.size, 0, none⟩)) := by rw [ha]; exact (putSel_off rfl).trans s2
      replace ha := Aside0.mk ha
      obtain ⟨p0, p1, p2, p3, p4, p5⟩ := hI.1.get
      refine value_ (w1 := w') (v := .agg #[.bool n1, .string d1, .int .i64 k1]) (by rfl) rfl ?_ ?_
      · go_simp; try rfl
        all_goals (try (simp only [IntKind.wrap_i64]; omega))
      exact hK.out _ _ ⟨(by rw [ha.out]; exact putSel_upk 0 hb_ rfl rfl rfl), hI⟩
    refine steps_cons ?_ ?_
    · rintro b a w' ⟨ha, hI⟩ hb_ hon hoff
      refine ⟨_, rfl, fun K hK => ?_⟩
      have e3 : a.tmps[3]? = some (.pointer (some ⟨w.heap.size + 1, 0, none⟩)) := by rw [ha]; exact (putSel_off rfl).trans s3
      replace ha := Aside0.mk ha
      obtain ⟨p0, p1, p2, p3, p4, p5⟩ := hI.1.get
      refine value_ (w1 := w') (v := .agg #[.bool n2, .string d2, .int .i64 k2]) (by rfl) rfl ?_ ?_
      · go_simp; try rfl
        all_goals (try (simp only [IntKind.wrap_i64]; omega))
      exact hK.out _ _ ⟨(by rw [ha.out]; exact putSel_upk 1 hb_ rfl rfl rfl), hI⟩
    refine steps_cons ?_ ?_
    · rintro b a w' ⟨ha, hI⟩ hb_ hon hoff
      refine ⟨_, rfl, fun K hK => ?_⟩
      have e54 : a.tmps[54]? = some (.agg #[.bool n1, .string d1, .int .i64 k1]) := by rw [ha]; exact putSel_on (e := (0, 54, .agg #[.bool n1, .string d1, .int .i64 k1])) 0 rfl rfl (hon 0 (by kernel_rfl)) (by rw [hsz]; rfl)
      have e55 : a.tmps[55]? = some (.agg #[.bool n2, .string d2, .int .i64 k2]) := by rw [ha]; exact putSel_on (e := (1, 55, .agg #[.bool n2, .string d2, .int .i64 k2])) 1 rfl rfl (hon 1 (by kernel_rfl)) (by rw [hsz]; rfl)
      replace ha := Aside0.mk ha
      obtain ⟨p0, p1, p2, p3, p4, p5⟩ := hI.1.get
      refine goes_ Tryd.func48 (by kernel_rfl) rfl #[.agg #[.bool n1, .string d1, .int .i64 k1], .agg #[.bool n2, .string d2, .int .i64 k2]] (by rfl) rfl rfl (by first | (simp only [List.map_toArray, List.map_cons, List.map_nil, Act.eval, Array.getD_eq_getD_getElem?, Option.getD_some, e54, e55]; done) | (simp only [List.map_toArray, List.map_cons, List.map_nil, Act.eval, Array.getD_eq_getD_getElem?, Option.getD_some, e54, e55]; rfl)) ?_
      refine (cM _ hI.1).mono ?_
      rintro e w1 ⟨rfl, h1, b1⟩; have hI1 : Two w n1 n2 d1 d2 k1 k2 w1 ∧ Fx gx X w1 := ⟨h1, hI.2.step b1⟩
      exact ⟨_, rfl, hK.out _ _ ⟨(by rw [ha.out]; exact putSel_upk 2 hb_ rfl rfl rfl), hI1⟩⟩
    refine steps_cons ?_ ?_
    · rintro b a w' ⟨ha, hI⟩ hb_ hon hoff
      refine ⟨_, rfl, fun K hK => ?_⟩
      have e10 : a.tmps[10]? = some (.int .i64 c) := by rw [ha]; exact (putSel_off rfl).trans s10
      replace ha := Aside0.mk ha
      obtain ⟨p0, p1, p2, p3, p4, p5⟩ := hI.1.get
      refine value_ (w1 := w') (v := .int .i64 c) (by rfl) rfl ?_ ?_
      · go_simp; try rfl
        all_goals (try (simp only [IntKind.wrap_i64]; omega))
      exact hK.out _ _ ⟨(by rw [ha.out]; exact putSel_upk 3 hb_ rfl rfl rfl), hI⟩
    refine steps_cons ?_ ?_
    · rintro b a w' ⟨ha, hI⟩ hb_ hon hoff
      refine ⟨_, rfl, fun K hK => ?_⟩
      have e56 : a.tmps[56]? = some (.int .i64 c) := by rw [ha]; exact putSel_on (e := (2, 56, .int .i64 c)) 2 rfl rfl (hon 2 (by kernel_rfl)) (by rw [hsz]; rfl)
      have e57 : a.tmps[57]? = some (.int .i64 c) := by rw [ha]; exact putSel_on (e := (3, 57, .int .i64 c)) 3 rfl rfl (hon 3 (by kernel_rfl)) (by rw [hsz]; rfl)
      replace ha := Aside0.mk ha
      obtain ⟨p0, p1, p2, p3, p4, p5⟩ := hI.1.get
      refine value_ (w1 := w') (v := .bool true) (by rfl) rfl ?_ ?_
      · go_simp; try rfl
        all_goals (try (simp only [IntKind.wrap_i64]; omega))
      exact hK.out _ _ ⟨(by rw [ha.out]; exact putSel_upk 4 hb_ rfl rfl rfl), hI⟩
    refine steps_cons ?_ ?_
    · rintro b a w' ⟨ha, hI⟩ hb_ hon hoff
      refine ⟨_, rfl, fun K hK => ?_⟩
      have e58 : a.tmps[58]? = some (.bool true) := by rw [ha]; exact putSel_on (e := (4, 58, .bool true)) 4 rfl rfl (hon 4 (by kernel_rfl)) (by rw [hsz]; rfl)
      replace ha := Aside0.mk ha
      obtain ⟨p0, p1, p2, p3, p4, p5⟩ := hI.1.get
      refine value_ (w1 := w') (v := .bool true) (by rfl) rfl ?_ ?_
      · go_simp; try rfl
        all_goals (try (simp only [IntKind.wrap_i64]; omega))
      exact hK.out _ _ ⟨(by rw [ha.out]; exact putSel_upk 5 hb_ rfl rfl rfl), hI⟩
    refine steps_cons ?_ ?_
    · rintro b a w' ⟨ha, hI⟩ hb_ hon hoff
      refine ⟨_, rfl, fun K hK => ?_⟩
      have e3 : a.tmps[3]? = some (.pointer (some ⟨w.heap.size + 1, 0, none⟩)) := by rw [ha]; exact (putSel_off rfl).trans s3
      have e59 : a.tmps[59]? = some (.bool true) := by rw [ha]; exact putSel_on (e := (5, 59, .bool true)) 5 rfl rfl (hon 5 (by kernel_rfl)) (by rw [hsz]; rfl)
      replace ha := Aside0.mk ha
      obtain ⟨p0, p1, p2, p3, p4, p5⟩ := hI.1.get
      refine value_ (w1 := w') (v := .agg #[.bool n2, .string d2, .int .i64 k2]) (wanted_on rfl rfl rfl e59) rfl ?_ ?_
      · go_simp; try rfl
        all_goals (try (simp only [IntKind.wrap_i64]; omega))
      exact hK.out _ _ ⟨(by rw [ha.out]; exact putSel_upk 6 hb_ rfl rfl rfl), hI⟩
    refine steps_cons ?_ ?_
    · rintro b a w' ⟨ha, hI⟩ hb_ hon hoff
      refine ⟨_, rfl, fun K hK => ?_⟩
      have e2 : a.tmps[2]? = some (.pointer (some ⟨w.heap.size, 0, none⟩)) := by rw [ha]; exact (putSel_off rfl).trans s2
      have e59 : a.tmps[59]? = some (.bool true) := by rw [ha]; exact putSel_on (e := (5, 59, .bool true)) 5 rfl rfl (hon 5 (by kernel_rfl)) (by rw [hsz]; rfl)
      replace ha := Aside0.mk ha
      obtain ⟨p0, p1, p2, p3, p4, p5⟩ := hI.1.get
      refine value_ (w1 := w') (v := .agg #[.bool n1, .string d1, .int .i64 k1]) (wanted_on rfl rfl rfl e59) rfl ?_ ?_
      · go_simp; try rfl
        all_goals (try (simp only [IntKind.wrap_i64]; omega))
      exact hK.out _ _ ⟨(by rw [ha.out]; exact putSel_upk 7 hb_ rfl rfl rfl), hI⟩
    refine steps_cons ?_ ?_
    · rintro b a w' ⟨ha, hI⟩ hb_ hon hoff
      refine ⟨_, rfl, fun K hK => ?_⟩
      have e60 : a.tmps[60]? = some (.agg #[.bool n2, .string d2, .int .i64 k2]) := by rw [ha]; exact putSel_on (e := (6, 60, .agg #[.bool n2, .string d2, .int .i64 k2])) 6 rfl rfl (hon 6 (by kernel_rfl)) (by rw [hsz]; rfl)
      have e61 : a.tmps[61]? = some (.agg #[.bool n1, .string d1, .int .i64 k1]) := by rw [ha]; exact putSel_on (e := (7, 61, .agg #[.bool n1, .string d1, .int .i64 k1])) 7 rfl rfl (hon 7 (by kernel_rfl)) (by rw [hsz]; rfl)
      have e59 : a.tmps[59]? = some (.bool true) := by rw [ha]; exact putSel_on (e := (5, 59, .bool true)) 5 rfl rfl (hon 5 (by kernel_rfl)) (by rw [hsz]; rfl)
      replace ha := Aside0.mk ha
      obtain ⟨p0, p1, p2, p3, p4, p5⟩ := hI.1.get
      refine goes_ Tryd.func48 (by kernel_rfl) rfl #[.agg #[.bool n2, .string d2, .int .i64 k2], .agg #[.bool n1, .string d1, .int .i64 k1]] (wanted_on rfl rfl rfl e59) rfl rfl (by first | (simp only [List.map_toArray, List.map_cons, List.map_nil, Act.eval, Array.getD_eq_getD_getElem?, Option.getD_some, e60, e61]; done) | (simp only [List.map_toArray, List.map_cons, List.map_nil, Act.eval, Array.getD_eq_getD_getElem?, Option.getD_some, e60, e61]; rfl)) ?_
      refine (cN _ hI.1).mono ?_
      rintro e w1 ⟨rfl, h1, b1⟩; have hI1 : Two w n1 n2 d1 d2 k1 k2 w1 ∧ Fx gx X w1 := ⟨h1, hI.2.step b1⟩
      exact ⟨_, rfl, hK.out _ _ ⟨(by rw [ha.out]; exact putSel_upk 8 hb_ rfl rfl rfl), hI1⟩⟩
    refine steps_cons ?_ ?_
    · rintro b a w' ⟨ha, hI⟩ hb_ hon hoff
      refine ⟨_, rfl, fun K hK => ?_⟩
      have e10 : a.tmps[10]? = some (.int .i64 c) := by rw [ha]; exact (putSel_off rfl).trans s10
      have e59 : a.tmps[59]? = some (.bool true) := by rw [ha]; exact putSel_on (e := (5, 59, .bool true)) 5 rfl rfl (hon 5 (by kernel_rfl)) (by rw [hsz]; rfl)
      replace ha := Aside0.mk ha
      obtain ⟨p0, p1, p2, p3, p4, p5⟩ := hI.1.get
      refine value_ (w1 := w') (v := .int .i64 c) (wanted_on rfl rfl rfl e59) rfl ?_ ?_
      · go_simp; try rfl
        all_goals (try (simp only [IntKind.wrap_i64]; omega))
      exact hK.out _ _ ⟨(by rw [ha.out]; exact putSel_upk 9 hb_ rfl rfl rfl), hI⟩
    refine steps_cons ?_ ?_
    · rintro b a w' ⟨ha, hI⟩ hb_ hon hoff
      refine ⟨_, rfl, fun K hK => ?_⟩
      have e63 : a.tmps[63]? = some (.int .i64 c) := by rw [ha]; exact putSel_on (e := (9, 63, .int .i64 c)) 9 rfl rfl (hon 9 (by kernel_rfl)) (by rw [hsz]; rfl)
      have e59 : a.tmps[59]? = some (.bool true) := by rw [ha]; exact putSel_on (e := (5, 59, .bool true)) 5 rfl rfl (hon 5 (by kernel_rfl)) (by rw [hsz]; rfl)
      replace ha := Aside0.mk ha
      obtain ⟨p0, p1, p2, p3, p4, p5⟩ := hI.1.get
      refine value_ (w1 := w') (v := .int .i64 (-c)) (wanted_on rfl rfl rfl e59) rfl ?_ ?_
      · go_simp; try rfl
        all_goals (try (simp only [IntKind.wrap_i64]; omega))
      exact hK.out _ _ ⟨(by rw [ha.out]; exact putSel_upk 10 hb_ rfl rfl rfl), hI⟩
    refine steps_cons ?_ ?_
    · rintro b a w' ⟨ha, hI⟩ hb_ hon hoff
      refine ⟨_, rfl, fun K hK => ?_⟩
      have e62 : a.tmps[62]? = some (.int .i64 (-c)) := by rw [ha]; exact putSel_on (e := (8, 62, .int .i64 (-c))) 8 rfl rfl (hon 8 (by kernel_rfl)) (by rw [hsz]; rfl)
      have e64 : a.tmps[64]? = some (.int .i64 (-c)) := by rw [ha]; exact putSel_on (e := (10, 64, .int .i64 (-c))) 10 rfl rfl (hon 10 (by kernel_rfl)) (by rw [hsz]; rfl)
      have e59 : a.tmps[59]? = some (.bool true) := by rw [ha]; exact putSel_on (e := (5, 59, .bool true)) 5 rfl rfl (hon 5 (by kernel_rfl)) (by rw [hsz]; rfl)
      replace ha := Aside0.mk ha
      obtain ⟨p0, p1, p2, p3, p4, p5⟩ := hI.1.get
      refine value_ (w1 := w') (v := .bool true) (wanted_on rfl rfl rfl e59) rfl ?_ ?_
      · go_simp; try rfl
        all_goals (try (simp only [IntKind.wrap_i64]; omega))
      exact hK.out _ _ ⟨(by rw [ha.out]; exact putSel_upk 11 hb_ rfl rfl rfl), hI⟩
    refine steps_cons ?_ ?_
    · rintro b a w' ⟨ha, hI⟩ hb_ hon hoff
      refine ⟨_, rfl, fun K hK => ?_⟩
      have e59 : a.tmps[59]? = some (.bool true) := by rw [ha]; exact putSel_on (e := (5, 59, .bool true)) 5 rfl rfl (hon 5 (by kernel_rfl)) (by rw [hsz]; rfl)
      have e65 : a.tmps[65]? = some (.bool true) := by rw [ha]; exact putSel_on (e := (11, 65, .bool true)) 11 rfl rfl (hon 11 (by kernel_rfl)) (by rw [hsz]; rfl)
      replace ha := Aside0.mk ha
      obtain ⟨p0, p1, p2, p3, p4, p5⟩ := hI.1.get
      refine value_ (w1 := w') (v := .bool true) (by rfl) rfl ?_ ?_
      · go_simp; try rfl
        all_goals (try (simp only [IntKind.wrap_i64]; omega))
      exact hK.out _ _ ⟨(by rw [ha.out]; exact putSel_upk 12 hb_ rfl rfl rfl), hI⟩
    refine steps_cons ?_ ?_
    · rintro b a w' ⟨ha, hI⟩ hb_ hon hoff
      refine ⟨_, rfl, fun K hK => ?_⟩
      have e66 : a.tmps[66]? = some (.bool true) := by rw [ha]; exact putSel_on (e := (12, 66, .bool true)) 12 rfl rfl (hon 12 (by kernel_rfl)) (by rw [hsz]; rfl)
      replace ha := Aside0.mk ha
      obtain ⟨p0, p1, p2, p3, p4, p5⟩ := hI.1.get
      refine value_ (w1 := w') (v := .bool true) (by rfl) rfl ?_ ?_
      · go_simp; try rfl
        all_goals (try (simp only [IntKind.wrap_i64]; omega))
      exact hK.out _ _ ⟨(by rw [ha.out]; exact putSel_upk 13 hb_ rfl rfl rfl), hI⟩
    refine steps_cons ?_ ?_
    · rintro b a w' ⟨ha, hI⟩ hb_ hon hoff
      refine ⟨_, rfl, fun K hK => ?_⟩
      have e2 : a.tmps[2]? = some (.pointer (some ⟨w.heap.size, 0, none⟩)) := by rw [ha]; exact (putSel_off rfl).trans s2
      have e67 : a.tmps[67]? = some (.bool true) := by rw [ha]; exact putSel_on (e := (13, 67, .bool true)) 13 rfl rfl (hon 13 (by kernel_rfl)) (by rw [hsz]; rfl)
      replace ha := Aside0.mk ha
      obtain ⟨p0, p1, p2, p3, p4, p5⟩ := hI.1.get
      refine value_ (w1 := w') (v := .agg #[.bool n1, .string d1, .int .i64 k1]) (wanted_on rfl rfl rfl e67) rfl ?_ ?_
      · go_simp; try rfl
        all_goals (try (simp only [IntKind.wrap_i64]; omega))
      exact hK.out _ _ ⟨(by rw [ha.out]; exact putSel_upk 14 hb_ rfl rfl rfl), hI⟩
    refine steps_cons ?_ ?_
    · rintro b a w' ⟨ha, hI⟩ hb_ hon hoff
      refine ⟨_, rfl, fun K hK => ?_⟩
      have e68 : a.tmps[68]? = some (.agg #[.bool n1, .string d1, .int .i64 k1]) := by rw [ha]; exact putSel_on (e := (14, 68, .agg #[.bool n1, .string d1, .int .i64 k1])) 14 rfl rfl (hon 14 (by kernel_rfl)) (by rw [hsz]; rfl)
      have e67 : a.tmps[67]? = some (.bool true) := by rw [ha]; exact putSel_on (e := (13, 67, .bool true)) 13 rfl rfl (hon 13 (by kernel_rfl)) (by rw [hsz]; rfl)
      replace ha := Aside0.mk ha
      obtain ⟨p0, p1, p2, p3, p4, p5⟩ := hI.1.get
      refine goes_ Tryd.func32 (by kernel_rfl) rfl #[.agg #[.bool n1, .string d1, .int .i64 k1]] (wanted_on rfl rfl rfl e67) rfl rfl (by first | (simp only [List.map_toArray, List.map_cons, List.map_nil, Act.eval, Array.getD_eq_getD_getElem?, Option.getD_some, e68]; done) | (simp only [List.map_toArray, List.map_cons, List.map_nil, Act.eval, Array.getD_eq_getD_getElem?, Option.getD_some, e68]; rfl)) ?_
      refine (cZ _ hI.1).mono ?_
      rintro e w1 ⟨rfl, h1, b1⟩; have hI1 : Two w n1 n2 d1 d2 k1 k2 w1 ∧ Fx gx X w1 := ⟨h1, hI.2.step b1⟩
      exact ⟨_, rfl, hK.out _ _ ⟨(by rw [ha.out]; exact putSel_upk 15 hb_ rfl rfl rfl), hI1⟩⟩
    refine steps_cons ?_ ?_
    · rintro b a w' ⟨ha, hI⟩ hb_ hon hoff
      refine ⟨_, rfl, fun K hK => ?_⟩
      have e5 : a.tmps[5]? = some (.pointer (some ⟨gx, 0, none⟩)) := by rw [ha]; exact (putSel_off rfl).trans s5
      have e67 : a.tmps[67]? = some (.bool true) := by rw [ha]; exact putSel_on (e := (13, 67, .bool true)) 13 rfl rfl (hon 13 (by kernel_rfl)) (by rw [hsz]; rfl)
      replace ha := Aside0.mk ha
      obtain ⟨p0, p1, p2, p3, p4, p5⟩ := hI.1.get
      refine value_ (w1 := w') (v := .agg X) (wanted_on rfl rfl rfl e67) rfl ?_ ?_
      · exact exec_load_fix hI.2 _ rfl (eval_of e5)
      exact hK.out _ _ ⟨(by rw [ha.out]; exact putSel_upk 16 hb_ rfl rfl rfl), hI⟩
    refine steps_cons ?_ ?_
    · rintro b a w' ⟨ha, hI⟩ hb_ hon hoff
      refine ⟨_, rfl, fun K hK => ?_⟩
      have e67 : a.tmps[67]? = some (.bool true) := by rw [ha]; exact putSel_on (e := (13, 67, .bool true)) 13 rfl rfl (hon 13 (by kernel_rfl)) (by rw [hsz]; rfl)
      replace ha := Aside0.mk ha
      obtain ⟨p0, p1, p2, p3, p4, p5⟩ := hI.1.get
      refine value_ (w1 := w') (v := .agg Z) (wanted_on rfl rfl rfl e67) rfl ?_ ?_
      · exact exec_build_fix hZ _ rfl
      exact hK.out _ _ ⟨(by rw [ha.out]; exact putSel_upk 17 hb_ rfl rfl rfl), hI⟩
    refine steps_cons ?_ ?_
    · rintro b a w' ⟨ha, hI⟩ hb_ hon hoff
      refine ⟨_, rfl, fun K hK => ?_⟩
      have e70 : a.tmps[70]? = some (.agg X) := by rw [ha]; exact putSel_on (e := (16, 70, .agg X)) 16 rfl rfl (hon 16 (by kernel_rfl)) (by rw [hsz]; rfl)
      have e71 : a.tmps[71]? = some (.agg Z) := by rw [ha]; exact putSel_on (e := (17, 71, .agg Z)) 17 rfl rfl (hon 17 (by kernel_rfl)) (by rw [hsz]; rfl)
      have e67 : a.tmps[67]? = some (.bool true) := by rw [ha]; exact putSel_on (e := (13, 67, .bool true)) 13 rfl rfl (hon 13 (by kernel_rfl)) (by rw [hsz]; rfl)
      replace ha := Aside0.mk ha
      obtain ⟨p0, p1, p2, p3, p4, p5⟩ := hI.1.get
      refine value_ (w1 := w') (v := .bool z) (wanted_on rfl rfl rfl e67) rfl ?_ ?_
      · exact exec_eql_fix (hE w') _ _ _ rfl (eval_of e70) (eval_of e71)
      exact hK.out _ _ ⟨(by rw [ha.out]; exact putSel_upk 18 hb_ rfl rfl rfl), hI⟩
    refine steps_cons ?_ ?_
    · rintro b a w' ⟨ha, hI⟩ hb_ hon hoff
      refine ⟨_, rfl, fun K hK => ?_⟩
      have e69 : a.tmps[69]? = some (.bool z) := by rw [ha]; exact putSel_on (e := (15, 69, .bool z)) 15 rfl rfl (hon 15 (by kernel_rfl)) (by rw [hsz]; rfl)
      have e72 : a.tmps[72]? = some (.bool z) := by rw [ha]; exact putSel_on (e := (18, 72, .bool z)) 18 rfl rfl (hon 18 (by kernel_rfl)) (by rw [hsz]; rfl)
      have e67 : a.tmps[67]? = some (.bool true) := by rw [ha]; exact putSel_on (e := (13, 67, .bool true)) 13 rfl rfl (hon 13 (by kernel_rfl)) (by rw [hsz]; rfl)
      replace ha := Aside0.mk ha
      obtain ⟨p0, p1, p2, p3, p4, p5⟩ := hI.1.get
      refine value_ (w1 := w') (v := .bool true) (wanted_on rfl rfl rfl e67) rfl ?_ ?_
      · go_simp; try rfl
        all_goals (try (simp only [IntKind.wrap_i64]; omega))
      exact hK.out _ _ ⟨(by rw [ha.out]; exact putSel_upk 19 hb_ rfl rfl rfl), hI⟩
    refine steps_cons ?_ ?_
    · rintro b a w' ⟨ha, hI⟩ hb_ hon hoff
      refine ⟨_, rfl, fun K hK => ?_⟩
      have e67 : a.tmps[67]? = some (.bool true) := by rw [ha]; exact putSel_on (e := (13, 67, .bool true)) 13 rfl rfl (hon 13 (by kernel_rfl)) (by rw [hsz]; rfl)
      have e73 : a.tmps[73]? = some (.bool true) := by rw [ha]; exact putSel_on (e := (19, 73, .bool true)) 19 rfl rfl (hon 19 (by kernel_rfl)) (by rw [hsz]; rfl)
      replace ha := Aside0.mk ha
      obtain ⟨p0, p1, p2, p3, p4, p5⟩ := hI.1.get
      refine value_ (w1 := w') (v := .bool true) (by rfl) rfl ?_ ?_
      · go_simp; try rfl
        all_goals (try (simp only [IntKind.wrap_i64]; omega))
      exact hK.out _ _ ⟨(by rw [ha.out]; exact putSel_upk 20 hb_ rfl rfl rfl), hI⟩
    refine steps_cons ?_ ?_
    · rintro b a w' ⟨ha, hI⟩ hb_ hon hoff
      refine ⟨_, rfl, fun K hK => ?_⟩
      have e74 : a.tmps[74]? = some (.bool true) := by rw [ha]; exact putSel_on (e := (20, 74, .bool true)) 20 rfl rfl (hon 20 (by kernel_rfl)) (by rw [hsz]; rfl)
      replace ha := Aside0.mk ha
      obtain ⟨p0, p1, p2, p3, p4, p5⟩ := hI.1.get
      refine value_ (w1 := w') (v := .bool true) (by rfl) rfl ?_ ?_
      · go_simp; try rfl
        all_goals (try (simp only [IntKind.wrap_i64]; omega))
      exact hK.out _ _ ⟨(by rw [ha.out]; exact putSel_upk 21 hb_ rfl rfl rfl), hI⟩
    exact steps_nil
  rintro b a w1 hall ⟨ha, hI1⟩
  exact hend a w1 hI1 (by rw [ha]; simp only [putSel, if_true, hall 0 (by kernel_rfl), hall 1 (by kernel_rfl), hall 2 (by kernel_rfl), hall 3 (by kernel_rfl), hall 4 (by kernel_rfl), hall 5 (by kernel_rfl), hall 6 (by kernel_rfl), hall 7 (by kernel_rfl), hall 8 (by kernel_rfl), hall 9 (by kernel_rfl), hall 10 (by kernel_rfl), hall 11 (by kernel_rfl), hall 12 (by kernel_rfl), hall 13 (by kernel_rfl), hall 14 (by kernel_rfl), hall 15 (by kernel_rfl), hall 16 (by kernel_rfl), hall 17 (by kernel_rfl), hall 18 (by kernel_rfl), hall 19 (by kernel_rfl), hall 20 (by kernel_rfl), hall 21 (by kernel_rfl)]) (by rw [ha]; exact (putSel_size b _ a0).2) (by rw [ha]; exact putSel_on (e := (21, 4, .bool true)) 21 rfl rfl (hall 21 (by kernel_rfl)) (by rw [hsz]; rfl))
end Go.Proofs.YtonjkoeacedaiaaDoor
namespace Go.Proofs.YtonjkoeacedaiaaDoor
open Go.RowKit Go.Proofs.YtonjkoeacedaiaaDoorW.PrintLast
open Go.Proofs.YtonjkoeacedaiaaDoorW.PrintWords (gate_dst)
set_option linter.unusedVariables false
set_option linter.unusedSimpArgs false
end Go.Proofs.YtonjkoeacedaiaaDoor
namespace Go.Proofs.YtonjkoeacedaiaaDoor.S
open Go.RowKit Go.Proofs.YtonjkoeacedaiaaDoor Go.Proofs.YtonjkoeacedaiaaDoor.G Go.Proofs.YtonjkoeacedaiaaDoor.U Go.Proofs.YtonjkoeacedaiaaDoor.R Go.Proofs.YtonjkoeacedaiaaDoor.PU Go.Proofs.YtonjkoeacedaiaaDoorW.PrintWords Go.Proofs.YtonjkoeacedaiaaDoorW.PrintMore
set_option linter.unusedVariables false
set_option linter.unusedSimpArgs false
theorem of_calls (n : Bool) {A : List UInt8} {a : Nat} (hA : Num A a) (h60 : A.length ≤ 60) (W : World) :
    Calls Tryd.prog 41 #[decV n ⟨A.toArray⟩ a] W fun e w' => e = .returned (.agg (fixC (fixD A (A.length - a) A.length))) ∧ Below W.heap.size W w' := by
  have hz : (⟨A.toArray⟩ : ByteArray).size = A.length := sz _
  have h := fix_any n ⟨A.toArray⟩ a W (by rw [hz]; exact hA.lt) (by rw [hz]; exact h60) (fun c hc => dig_le (digs_at hA.dig c hc))
  rw [hz] at h
  exact h
end Go.Proofs.YtonjkoeacedaiaaDoor.S
namespace Go.Proofs.YtonjkoeacedaiaaDoor.S
open Go.RowKit Go.Proofs.YtonjkoeacedaiaaDoor Go.Proofs.YtonjkoeacedaiaaDoor.G Go.Proofs.YtonjkoeacedaiaaDoor.U Go.Proofs.YtonjkoeacedaiaaDoor.R Go.Proofs.YtonjkoeacedaiaaDoor.PU Go.Proofs.YtonjkoeacedaiaaDoorW.PrintWords Go.Proofs.YtonjkoeacedaiaaDoorW.PrintMore
set_option linter.unusedVariables false
set_option linter.unusedSimpArgs false
theorem rnd_ok {A : List UInt8} {sa : Nat} (ha : Num A sa) (hA : A.length ≤ 60) : rndOk ⟨A.toArray⟩ (sa : Int) = true := by
  have hz : (⟨A.toArray⟩ : ByteArray).size = A.length := sz _
  have hlt := ha.lt
  have hdB : digB ⟨A.toArray⟩ = true := ha.dig
  unfold rndOk
  rw [hdB, hz]
  simp
  omega
theorem max_if (s : Int) : (if s < 0 then (0 : Int) else s) = max s 0 := by
  split <;> omega
theorem round_same (n : Bool) {A : List UInt8} {sa : Nat} (ha : Num A sa) (hA : A.length ≤ 60) (s : Int) (hs : (sa : Int) ≤ max s 0) : dec_Dec_Round.f n ⟨A.toArray⟩ (sa : Int) s = some (n, ⟨A.toArray⟩, (sa : Int)) := by
  unfold dec_Dec_Round.f
  rw [if_pos (rnd_ok ha hA), max_if, if_pos hs]
theorem isDigits_rnd (s : ByteArray) (hs : s.size ≤ 1000) : dec_isDigits.f s = some (!(bl s).isEmpty && (bl s).all isDig) := by
  unfold dec_isDigits.f
  rw [tl]
  by_cases h0 : bl s = []
  · rw [if_pos h0, h0]; rfl
  · rw [if_neg h0]
    have hT : strings_Trim.f s ⟨#[48, 49, 50, 51, 52, 53, 54, 55, 56, 57]⟩ = some ⟨(Lib.trimS (bl s) [48, 49, 50, 51, 52, 53, 54, 55, 56, 57]).toArray⟩ := by
      unfold strings_Trim.f
      rw [if_pos ⟨by omega, by decide, by decide⟩]
    rw [hT, Option.bind_some, tl, bl_mk]
    congr 1
    have hc : ∀ c : UInt8, ([48, 49, 50, 51, 52, 53, 54, 55, 56, 57] : List UInt8).contains c = isDig c := fun c => by
      have h : ∀ n : Nat, n < 256 → ([48, 49, 50, 51, 52, 53, 54, 55, 56, 57] : List UInt8).contains (UInt8.ofNat n) = isDig (UInt8.ofNat n) := by decide +kernel
      have := h c.toNat c.toNat_lt
      rwa [show UInt8.ofNat c.toNat = c by simp] at this
    have h1 : (bl s).isEmpty = false := by simpa using h0
    rw [h1, Bool.not_false, Bool.true_and]
    unfold Lib.trimS Lib.trimLeftS Lib.trimRightS
    rw [show (fun x => ([48, 49, 50, 51, 52, 53, 54, 55, 56, 57] : List UInt8).contains x) = isDig from funext hc]
    by_cases ha : (bl s).all isDig = true
    · rw [ha]
      have e : (bl s).reverse.dropWhile isDig = [] := by
        rw [dwn]
        intro x hx
        exact List.all_eq_true.1 ha x (List.mem_reverse.1 hx)
      rw [e]; rfl
    · have ha' : (bl s).all isDig = false := by simpa using ha
      rw [ha', beq_eq_false_iff_ne]
      intro e
      apply ha
      rw [List.all_eq_true]
      intro x hx
      have e2 := dwn.1 e
      by_cases hxd : isDig x = true
      · exact hxd
      · exfalso
        have hm : x ∈ ((bl s).reverse.dropWhile isDig).reverse := by
          rw [List.mem_reverse]
          have hsp := List.takeWhile_append_dropWhile (p := isDig) (l := (bl s).reverse)
          have hx2 : x ∈ (bl s).reverse := List.mem_reverse.2 hx
          rw [← hsp] at hx2
          rcases List.mem_append.1 hx2 with h | h
          · exact absurd (List.all_eq_true.1 (List.all_takeWhile) x h) hxd
          · exact h
        exact hxd (e2 x hm)
theorem isDigits_num {N : List UInt8} (hd : digs N = true) (hl : 0 < N.length) (hm : N.length ≤ 1000) : dec_isDigits.f ⟨N.toArray⟩ = some true := by
  have hz : (⟨N.toArray⟩ : ByteArray).size = N.length := sz _
  rw [isDigits_rnd _ (by rw [hz]; omega)]
  show some (!N.isEmpty && digs N) = some true
  have h1 : N.isEmpty = false := by
    cases N with
    | nil => simp at hl
    | cons _ _ => rfl
  rw [h1, hd]; rfl
theorem roundL_short {D : List UInt8} {k s : Nat} (h : digs D = true) (hk : k < D.length) (hs : s < k) : (roundL D k s).length ≤ D.length := by
  have h1 := incL_ok (digs_of fun c hc => digs_at h c (List.mem_of_mem_take (i := D.length - (k - s)) hc))
  have h2 : (D.take (D.length - (k - s))).length = D.length - (k - s) := by rw [List.length_take]; omega
  unfold roundL
  split
  · have := h1.2.2.2
    omega
  · omega
theorem round_less (n : Bool) {A : List UInt8} {sa : Nat} (ha : Num A sa) (hA : A.length ≤ 60) (s : Int) (t : Nat) (ht : max s 0 = (t : Int)) (hk : t < sa) :
    ∃ R : List UInt8, dec_Dec_Round.f n ⟨A.toArray⟩ (sa : Int) s = some (n, ⟨R.toArray⟩, (t : Int)) ∧ Num R t ∧ R.length ≤ 60 ∧ (R.length = t + 1 ∨ R.head? ≠ some 48) ∧ V R t = q (V A sa) (10 ^ (200 - t)) * 10 ^ (200 - t) := by
  have hlt := ha.lt
  obtain ⟨h1, h2, h3, h4⟩ := roundL_ok ha.dig hlt hk
  have hm := make0_ok n ⟨(roundL A sa t).toArray⟩ t (by rw [bl_mk]; exact h3) (by rw [bl_mk]; omega)
  rw [bl_mk] at hm
  have hl := (stripTo_len (t + 1) (roundL A sa t)).1
  refine ⟨stripTo (t + 1) (roundL A sa t), ?_, ⟨stripTo_digs _ _ h2, (stripTo_len _ _).2 h3, by omega⟩, by have := roundL_short ha.dig hlt hk; omega, stripTo_norm _ _ h3, ?_⟩
  · unfold dec_Dec_Round.f
    rw [if_pos (rnd_ok ha hA), max_if, ht, if_neg (by omega), Int.toNat_natCast, Int.toNat_natCast]
    exact hm
  · unfold V
    rw [strip_val, h1, show 10 ^ (200 - t) = 10 ^ (sa - t) * 10 ^ (200 - sa) by rw [← Nat.pow_add]; congr 1; omega, q_mul (Nat.pow_pos (by decide))]
theorem dright_ok (neg : Bool) {N : List UInt8} {sc : Nat} (h : Num N sc) (hn : N.length = sc + 1 ∨ N.head? ≠ some 48) : dec_Dec_Right.f neg ⟨N.toArray⟩ sc = some true := by
  have hl := h.lt
  have hmx := h.max
  have hz : (⟨N.toArray⟩ : ByteArray).size = N.length := sz _
  have hD := isDigits_num h.dig (by omega) (by omega)
  unfold dec_Dec_Right.f
  rw [hD, Option.bind_some, if_pos rfl, if_pos (by omega), hz, if_pos (by omega), w64 _ (by omega) (by omega)]
  by_cases h1 : (N.length : Int) = (sc : Int) + 1
  · rw [if_pos h1]
  · rw [if_neg h1, if_pos (by omega)]
    cases N with
    | nil => simp at hl
    | cons c t =>
      have hb : bt ⟨(c :: t).toArray⟩ 0 = c.toNat := bt_nat _ 0 c rfl
      rw [hb]
      congr 1
      rw [bne_iff_ne]
      intro he
      rcases hn with h2 | h2
      · omega
      · exact h2 (by rw [show c = 48 from UInt8.toNat_inj.1 (by show c.toNat = 48; omega)]; rfl)
theorem rounds_walk (n : Bool) (A : ByteArray) (sa sc : Int) (w : World) (hT : Tab_ w) : Calls Tryd.prog 10 #[.agg #[.bool n, .string A, .int .i64 sa], .int .i64 sc] w fun e w' => e = .returned (.bool true) ∧ Below w.heap.size w w' := by
  obtain ⟨A, rfl⟩ : ∃ l : List UInt8, A = ⟨l.toArray⟩ := ⟨bl A, (mk_bl A).symm⟩
  obtain ⟨ba, ea, fa⟩ := right_any n A sa 200 (by decide)
  have c1 := fun W => polyglotlaw02_Right.calls 200 n ⟨A.toArray⟩ sa ba W ea
  by_cases hr : ba = false ∨ 60 < sc
  · exact rounds_not n ⟨A.toArray⟩ sa sc ba hr c1 w hT
  · obtain rfl : ba = true := by cases ba <;> simp_all
    have hs : sc ≤ 60 := by omega
    obtain ⟨a, rfl, hA, hAl⟩ := fa rfl
    obtain ⟨t, ht⟩ := Int.eq_ofNat_of_zero_le (show 0 ≤ max sc 0 by omega)
    by_cases hk : a ≤ t
    · have e := round_same n hA hAl sc (by omega)
      exact rounds_whole n ⟨A.toArray⟩ a sc t hs ht (by omega) c1 (fun W => dec_Dec_Round.calls n ⟨A.toArray⟩ a sc n ⟨A.toArray⟩ a W e) w hT
    · obtain ⟨R, e, hR, hRl, hRn, hV⟩ := round_less n hA hAl sc t ht (by omega)
      have hz : (⟨R.toArray⟩ : ByteArray).size = R.length := sz _
      have hd := dright_ok n hR hRn
      obtain ⟨g1, g2, g3, g4, g5⟩ := rounds_plain hA hAl hR (by omega) (by omega) hV _ _ _ rfl rfl rfl
      exact rounds_yes n ⟨A.toArray⟩ a sc t hs ht (by omega) (by omega) ⟨R.toArray⟩ (by rw [hz]; omega) _ _ _ g3 g4 g5 rfl g2 _ rfl g1 c1 (fun W => dec_Dec_Round.calls n ⟨A.toArray⟩ a sc n ⟨R.toArray⟩ t W e) (fun W => dec_Dec_Right.calls n ⟨R.toArray⟩ t true W hd) (of_calls n hA hAl) (of_calls n hR hRl) w hT
end Go.Proofs.YtonjkoeacedaiaaDoor.S
namespace Go.Proofs.YtonjkoeacedaiaaDoor.decRounds
open Go.ChangeShapes Go.WideShapes Go.ChangeAt Go.RowKit Go.Proofs.YtonjkoeacedaiaaDoor.E
open Go.ChangeMaps (open_string shut_string)
set_option linter.unusedVariables false
set_option linter.unusedSimpArgs false
theorem laid_met (os : Os) : laidMet Tryd.prog Rows.decRoundsRow.laid ((laidWorld os).forCall (fun _ _ => 0) ⟨#[], #[.agg #[.bool false, .string ByteArray.empty, .int .i64 0], .int .i64 0], []⟩).memory :=
  laidMet_of_run3 8 (by kernel_rfl) (by kernel_rfl) (by kernel_rfl)
set_option maxRecDepth 100000 in
theorem reads (os : Os) {H : Type} (enc : TypeId × Value → H) : ∃ places, DataW.whole enc Tryd.prog ((laidWorld os).forCall (fun _ _ => 0) ⟨#[], #[.agg #[.bool false, .string ByteArray.empty, .int .i64 0], .int .i64 0], []⟩).memory Tryd.f10.params.toList Rows.decRoundsSpec.vars false #[Value.agg #[.bool false, .string ByteArray.empty, .int .i64 0], Value.int .i64 0].toList 8 = some ([.agg [.lit (.bool false), .lit (.string []), .lit (.int .i64 0)], .lit (.int .i64 0)], [], places) :=
  ⟨[], by kernel_rfl⟩
set_option maxRecDepth 100000 in
theorem contract (H : Type) (enc : TypeId × Value → H) (W : World) (base : Nat) (args : Array Value) (ds gs : List (DataW H)) (before : List MemPlace)
    (hval : ∀ (j : Nat) t v, Tryd.f10.params[j]? = some t → args[j]? = some v → Value.okWide Tryd.prog W .any base t v)
    (hW : DataW.Whole enc Tryd.prog Tryd.f10.params.toList Rows.decRoundsSpec.vars false W args.toList ds gs before) (hL : laidMetH Tryd.prog Rows.decRoundsRow.laid W) (hS : W.ShapedOpen Tryd.prog) :
    Calls Tryd.prog 10 args W fun e W' => ∃ v, e = .returned v ∧ Rows.decRoundsSpec.post enc Tryd.prog Tryd.f10 false true false false W args v W' := by
  have hW' := hW
  obtain ⟨p, q, hA0, hV, rfl, hfz, hnd⟩ := hW
  have hA : DataW.TrodAll enc Tryd.prog W 0 (fun _ => true) true Tryd.f10.params.toList args.toList ds p := hA0
  rw [Tryd.params10] at hA hval
  have hAk := hA
  have hlt : ∀ x ∈ p, x.block < W.heap.size := fun x hx => by simpa using hW'.lt x (List.mem_append.2 (Or.inl hx))
  obtain ⟨v0, vs0, d0, ds0, p0, q0, hargs, rfl, rfl, h0, r0⟩ := trodAll_cons hA
  obtain ⟨v1, vs1, d1, ds1, p1, q1, rfl, rfl, rfl, h1, r1⟩ := trodAll_cons r0
  obtain ⟨rfl, rfl, rfl⟩ := trodAll_nil r1
  obtain rfl : args = #[v0, v1] := by cases args; simp_all
  obtain ⟨rfl, rfl⟩ := trodVars_none hV
  obtain ⟨n0, s0, k0, rfl, rfl, rfl⟩ := open_dec (hval 0 23 v0 rfl rfl) h0
  obtain ⟨n1, rfl, rfl, rfl, hm1⟩ := open_int Tryd.underlying3 (hval 1 3 v1 rfl rfl) h1
  clear hA0
  simp only [List.append_nil] at hW' hAk hlt
  have hT := tab_of hS
  refine (S.rounds_walk n0 s0 k0 n1 W hT).mono fun e W' ⟨he, hb⟩ => ?_
  subst he
  exact ⟨_, rfl, _, _, _, [], _, [], hW', trodAll_mk1 (shut_bool Tryd.underlying4 _), args_below laidOut hb _ _ _ _ (by decide +kernel) hAk hlt, rfl, hb.frame _, fun h => by cases h⟩
set_option maxRecDepth 100000 in
theorem lifted (os : Os) (started : os.Started) (H : Type) (enc : TypeId × Value → H) (F : Stop.Interp) :
    ReturnsInHanded {} Tryd.checked os 10 .any ((OpenSpec.ofChange Rows.decRoundsSpec).preRow enc Tryd.prog Tryd.f10 Rows.decRoundsRow.domain false Rows.decRoundsRow.laid) (((OpenSpec.ofChange Rows.decRoundsSpec).at F).post enc Tryd.prog Tryd.f10 false true false false) := by
  obtain ⟨places, hx⟩ := reads os enc
  refine returnsInHanded_of_row (C := Tryd.checked) (s := OpenSpec.ofChange Rows.decRoundsSpec) own started (by kernel_rfl) Tryd.func10
    (witness_row_atRef (enc := enc) (C := Tryd.checked) false (laidWorld os) #[.agg #[.bool false, .string ByteArray.empty, .int .i64 0], .int .i64 0] rfl (by kernel_rfl) (by kernel_rfl) (by kernel_rfl)
      (OpenSpec.preRow_of_cond 8 hx (by kernel_rfl) (fun k hk => by cases hk) (by kernel_rfl) (laid_met os))) ?_
  intro W base args ds gs before hval hW _ _ _ hL hS _
  exact contract H enc W base args ds gs before hval hW hL hS
theorem said : Rows.DecRoundsSaid :=
  OpenClaim.holds_of_cond 10 Tryd.f10 rfl rfl rfl rfl rfl rfl rfl ⟨rfl, rfl, rfl, rfl, rfl⟩ rfl rfl rfl rfl rfl (by kernel_rfl) Tryd.func10 (by kernel_rfl)
    (of_decide_eq_true (by kernel_rfl)) (by unfold Func.isWrapper; first | (rw [if_pos (by decide +kernel)]; kernel_rfl) | (rw [if_neg (by decide +kernel)]; exact ⟨rfl, rfl⟩))
    (fun os started H enc _ F => by rw [OpenClaim.pre_eq_preRow]; exact lifted os started H enc F)
theorem plain (f : FuncId) (fn : Func) (hf : Tryd.pinned.checked.prog.funcNamed "polyglot/polyglotlaw02.DecRounds" = some f) (hfn : Tryd.pinned.checked.prog.funcs[f]? = some fn) :
    false = Tryd.pinned.checked.prog.looks [] ∧ ∀ (j : Nat) t, fn.params[j]? = some t → Tryd.pinned.checked.prog.wantsStandIn t = false := by
  obtain rfl : f = 10 := Option.some.inj ((show Tryd.prog.funcNamed "polyglot/polyglotlaw02.DecRounds" = some 10 by kernel_rfl).symm.trans hf) |>.symm
  obtain rfl : fn = Tryd.f10 := (Option.some.inj (Tryd.func10.symm.trans hfn)).symm
  refine ⟨by kernel_rfl, fun j t ht => ?_⟩
  rw [Tryd.params10] at ht
  have hmem := Array.mem_of_getElem? ht
  have hall : ∀ t ∈ (#[23, 3] : Array TypeId), Tryd.prog.wantsStandIn t = false := by
    intro t ht
    simp at ht
    rcases ht with rfl | rfl
    all_goals kernel_rfl
  exact hall t hmem
end Go.Proofs.YtonjkoeacedaiaaDoor.decRounds
namespace Go.Proofs.YtonjkoeacedaiaaDoor
theorem decRounds_holds : Rows.DecRoundsCardSaid :=
  Claim7.holds_tied_plain_at .later [] _ _ _ _ decRounds.said (fun _ h => by cases h) (by kernel_rfl) (fun _ h => by cases h) decRounds_row_tie rfl ⟨rfl, rfl⟩ (by kernel_rfl) rfl decRounds.plain (by kernel_rfl)
end Go.Proofs.YtonjkoeacedaiaaDoor
