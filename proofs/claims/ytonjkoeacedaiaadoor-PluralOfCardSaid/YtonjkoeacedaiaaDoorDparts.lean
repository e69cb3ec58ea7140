/- The walk of the law's parts (layer 4). -/
import Derived.Test.YtonjkoeacedaiaaDoorDfix
import Derived.Test.YtonjkoeacedaiaaDoorWMore
namespace Go.Proofs.YtonjkoeacedaiaaDoor
open Go.RowKit
set_option linter.unusedVariables false
set_option linter.unusedSimpArgs false

def moreB (f : Nat → Int) : Nat → Bool
  | 0 => false
  | i + 1 => moreB f i || (decide (i < 98) && decide (0 < f i))
def wholeB (f : Nat → Int) : Nat → Bool
  | 0 => true
  | i + 1 => wholeB f i && (decide (i < 100) || decide (f i = 0))
theorem run_index_fix (c : Array Value) (i : Nat) (x : Int) (hc : c.size = 200) (h : c[i]? = some (.int .i64 x)) (hi : i < 200) (W : World) :
    (Instr.index 69 (.agg c) (.int .i64 (i : Int))).run Tryd.prog W = .ok (.int .i64 x) W := by
  have h2 : c[i]! = .int .i64 x := by rw [Array.getElem!_eq_getD, Array.getD_eq_getD_getElem?, h]; rfl
  simp [Instr.index, run_underlying Tryd.underlying69, asIntOf, go_sem, hi]
  rw [h]
  rfl

theorem fixD_bd {D : List UInt8} (hd : ∀ c ∈ D, 48 ≤ c.toNat ∧ c.toNat ≤ 57) (m p i : Nat) (hi : i ≤ D.length) : 0 ≤ fixD D m i p ∧ fixD D m i p ≤ 9 := by
  unfold fixD
  split
  · rename_i h
    have hlt : p - (100 - m) < D.length := by omega
    have e : D.getD (p - (100 - m)) 0 = D[p - (100 - m)] := by rw [List.getD_eq_getElem?_getD, List.getElem?_eq_getElem hlt]; rfl
    have := hd _ (List.getElem_mem hlt)
    rw [e]
    omega
  · omega
set_option maxRecDepth 100000 in
set_option maxHeartbeats 2000000 in
theorem parts_any (n : Bool) (d : ByteArray) (k : Nat) (w : World) (hk : k < d.size) (hs : d.size ≤ 60) (hd : ∀ c ∈ d.data.toList, 48 ≤ c.toNat ∧ c.toNat ≤ 57) :
    Calls Tryd.prog 55 #[decV n d k] w fun e w' => e = .returned (.tuple #[.int .i64 (10 * fixD d.data.toList (d.size - k) d.size 98 + fixD d.data.toList (d.size - k) d.size 99), .bool (moreB (fixD d.data.toList (d.size - k) d.size) 200), .bool (wholeB (fixD d.data.toList (d.size - k) d.size) 200)]) ∧ Below w.heap.size w w' := by
  have hbd := fun p => fixD_bd hd (d.size - k) p d.size (by rw [Lib.size_eq]; exact Nat.le_refl _)
  have cF := fun W => fix_any n d k W hk hs hd
  unfold decV at *
  have hix := fun i (hi : i < 200) W => run_index_fix _ i _ (fixA_size d.data.toList (d.size - k) d.size) (fixA_at _ _ _ _ hi) hi W
  have hsz := fixA_size d.data.toList (d.size - k) d.size
  have hone : (fixA d.data.toList (d.size - k) d.size).all (·.oneCell') = true := by simp [fixA, Value.oneCell']
  have hat := fun i (hi : i < 200) => fixA_at d.data.toList (d.size - k) d.size i hi
  generalize fixD d.data.toList (d.size - k) d.size = F at *
  generalize fixA d.data.toList (d.size - k) d.size = A at *
  have bA := (Below.refl w.heap.size w).alloc (Nat.le_refl _) (.cells #[.bool n, .string d, .int .i64 k] 23)
  go_enter Tryd.func55, Tryd.ntmps55
  go_wp2_with (first | (go_at_call 41; (with_reducible refine (cF _).mono ?_); rintro e W1 ⟨rfl, b1⟩; have hst := run_storeCells_new (P := Tryd.prog) W1 69 Tryd.zeroCells69 A (by rw [hsz]; exact fixInfo) (by rw [hsz, zc_size]) hone))
  have hnew := heap_alloc_new W1 (.cells A 69)
  have bW : Below w.heap.size w (W1.alloc (.cells A 69)) := (below_step bA b1 (by simp)).alloc (by have := b1.size; simp at this; omega) _
  have hg : w.heap.size < W1.heap.size := by have := b1.size; simp at this; omega
  generalize (W1.alloc (.cells A 69)) = W2 at *
  generalize W1.heap.size = g at *
  clear hst b1 bA cF
  refine wp_load_mid (P := Tryd.prog) 69 _ rfl g 0 rfl A.toList _ (fun j v hv => by rw [Nat.zero_add, Lib.cell_of_heap hnew]; simpa using hv) Tryd.underlying69 rfl (by rw [Array.length_toList, hsz]; exact fixInfo) ?_
  go_wp2
  have HN := Lib.hid hnew; clear hnew
  have HW := Lib.hid bW; clear bW
  have Hat := Lib.hid hat; clear hat
  go_loopg [13, 6, 7] 200 (fun gk v13 v6 v7 wx => ∃ i : Nat, v13 = .int .i64 i ∧ v6 = .bool (moreB F i) ∧ v7 = .bool (wholeB F i) ∧ i ≤ 200 ∧ 200 ≤ i + gk ∧ Below w.heap.size w wx ∧ wx.heap[g]? = some (.cells A 69 (0, 0)))
  case atStart => exact ⟨0, rfl, rfl, rfl, by omega, by omega, HW.out, HN.out⟩
  case round =>
    obtain ⟨i, rfl, rfl, rfl, hi, hfu, hbw, hB⟩ := hrel
    clear HW HN
    by_cases hp : i < 200
    · obtain ⟨f, rfl⟩ : ∃ f, gk = f + 1 := ⟨gk - 1, by omega⟩
      have hx := hix i hp
      have hm1 : moreB F (i + 1) = (moreB F i || (decide (i < 98) && decide (0 < F i))) := rfl
      have hw1 : wholeB F (i + 1) = (wholeB F i && (decide (i < 100) || decide (F i = 0))) := rfl
      obtain ⟨M, hM⟩ : ∃ M, moreB F i = M := ⟨_, rfl⟩
      obtain ⟨B, hBb⟩ : ∃ M, wholeB F i = M := ⟨_, rfl⟩
      rw [hM] at hm1 ⊢
      rw [hBb] at hw1 ⊢
      clear hM hBb
      have hb0 := hbd i
      have hc : (i < 98 ∨ (¬ i < 98 ∧ i < 100) ∨ (¬ i < 98 ∧ ¬ i < 100)) := by omega
      have hf : (0 < F i ∧ F i ≠ 0) ∨ (¬ 0 < F i ∧ F i = 0) := by omega
      have HM := Lib.hid hm1; clear hm1
      have HW1 := Lib.hid hw1; clear hw1
      have HC := Lib.hid hc
      have HF := Lib.hid hf
      rcases M with _ | _ <;> rcases B with _ | _ <;> rcases hf with ⟨f1, f2⟩ | ⟨f1, f2⟩ <;> rcases hc with c1 | ⟨c1, c2⟩ | ⟨c1, c2⟩
      all_goals
        first
        | have e98 : decide ((i : Int) < 98) = true := decide_eq_true (by omega)
          have e100 : decide ((i : Int) < 100) = true := decide_eq_true (by omega)
          have n98 : decide (i < 98) = true := decide_eq_true (by omega)
          have n100 : decide (i < 100) = true := decide_eq_true (by omega)
        | have e98 : decide ((i : Int) < 98) = false := decide_eq_false (by omega)
          have e100 : decide ((i : Int) < 100) = true := decide_eq_true (by omega)
          have n98 : decide (i < 98) = false := decide_eq_false (by omega)
          have n100 : decide (i < 100) = true := decide_eq_true (by omega)
        | have e98 : decide ((i : Int) < 98) = false := decide_eq_false (by omega)
          have e100 : decide ((i : Int) < 100) = false := decide_eq_false (by omega)
          have n98 : decide (i < 98) = false := decide_eq_false (by omega)
          have n100 : decide (i < 100) = false := decide_eq_false (by omega)
        first
        | have p0 : decide (F i > 0) = true := decide_eq_true (by omega)
          have z0 : (F i == 0) = false := beq_eq_false_iff_ne.2 f2
          have q0 : decide (0 < F i) = true := decide_eq_true f1
          have zz : decide (F i = 0) = false := decide_eq_false f2
        | have p0 : decide (F i > 0) = false := decide_eq_false (by omega)
          have z0 : (F i == 0) = true := beq_iff_eq.2 f2
          have q0 : decide (0 < F i) = false := decide_eq_false f1
          have zz : decide (F i = 0) = true := decide_eq_true f2
        clear f1 f2 c1
        try clear c2
        go_wp2
        go_roundg f
        case measure => omega
        case rel =>
          refine ⟨i + 1, by go_num, ?_, ?_, by omega, by omega, ?_, ?_⟩
          · rw [HM.out, n98, q0]; first | rfl | (simp [e98, p0]; done)
          · rw [HW1.out, n100, zz]; first | rfl | (simp [e100, z0]; done)
          · first | exact hbw | exact hbw.drew | exact hbw.drew.drew
          · first | exact hB | simpa using hB
    · obtain rfl : i = 200 := by omega
      have c98 := (Lib.cell_of_heap hB 98).trans (Hat.out 98 (by omega))
      have c99 := (Lib.cell_of_heap hB 99).trans (Hat.out 99 (by omega))
      obtain ⟨h98, h98'⟩ := hbd 98
      obtain ⟨h99, h99'⟩ := hbd 99
      go_wp2
      go_returns
      exact ⟨by first | rfl | (simp; done), by first | exact hbw | exact hbw.drew | exact hbw.drew.drew⟩
end Go.Proofs.YtonjkoeacedaiaaDoor
