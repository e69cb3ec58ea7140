/- Walks of plural's functions on a number: of, is, last, in, one, slavic and the rules. -/
import Derived.Test.YtonjkoeacedaiaaDoorDsmall
import Derived.Deep.RegionHeld3
import Derived.Deep.DrawnRows
import Derived.Handy
namespace Go.Proofs.YtonjkoeacedaiaaDoor
open Go.RowKit
set_option linter.unusedVariables false
set_option linter.unusedSimpArgs false
attribute [local go_sem ↓] Go.wp_at_zero Go.wp_at_succ

/-- What rules ask of a number, as a value. -/
def numV (L : List UInt8) (v : Int) (b : Bool) : Value := .agg #[.string ⟨L.toArray⟩, .int .i64 v, .bool b]

theorem below_step {w W W1 : World} {B : Nat} (h : Below w.heap.size w W) (b : Below B W W1) (hB : w.heap.size ≤ B) : Below w.heap.size w W1 := h.trans (b.mono hB)

theorem below_cellOf {W W1 : World} {B : Nat} {a : Addr} {v : Value} (b : Below B W W1) (hB : W.heap.size ≤ B) (h : W.cell? a = some v) : W1.cell? a = some v :=
  (b.cell (Nat.lt_of_lt_of_le (World.block_lt_of_cell? _ _ h) hB)).trans h
theorem below_blockOf {W W1 : World} {B k : Nat} {o : Obj} (b : Below B W W1) (hB : W.heap.size ≤ B) (h : W.heap[k]? = some o) : W1.heap[k]? = some o :=
  (b.block k (Nat.lt_of_lt_of_le (Array.getElem?_eq_some_iff.1 h).1 hB)).trans h
/-- What a cell holds, if it is there. -/
def got (w : World) (a : Addr) : Value := (w.cell? a).getD (.bool false)
theorem got_of {w : World} {a : Addr} (h : (w.cell? a).isSome = true) : w.cell? a = some (got w a) := by
  obtain ⟨v, hv⟩ := Option.isSome_iff_exists.1 h
  simp [got, hv]
theorem got_below {W W1 : World} {B : Nat} {a : Addr} (b : Below B W W1) (hB : W.heap.size ≤ B) (h : W.cell? a = some (got W a)) : W1.cell? a = some (got W1 a) :=
  got_of (by rw [below_cellOf b hB h]; rfl)
theorem below_frozenOf {W W1 : World} {B : Nat} {a : Addr} {v : Value} {z : Bool} (b : Below B W W1) (hB : W.heap.size ≤ B) (hc : W.cell? a = some v) (h : W.frozen? a = z) : W1.frozen? a = z :=
  (b.frozen (Nat.lt_of_lt_of_le (World.block_lt_of_cell? _ _ hc) hB)).trans h
theorem got_set {W : World} {a b : Addr} {v : Value} (h : W.cell? b = some (got W b)) : (W.setCell a v).cell? b = some (got (W.setCell a v) b) := by
  refine got_of ?_
  by_cases e : a = b
  · subst e; rw [World.cell?_setCell_same W a v h]; rfl
  · rw [World.cell?_setCell_other W a b v e, h]; rfl
theorem far_set {W : World} {a b : Addr} {v x : Value} (h : W.cell? b = some x) (hne : a.block ≠ b.block) : (W.setCell a v).cell? b = some x := by rw [World.cell?_setCell_far W a b v hne]; exact h
theorem fro_set {W : World} {a b : Addr} {v : Value} (h : W.frozen? b = false) : (W.setCell a v).frozen? b = false := by rw [World.frozen?_setCell]; exact h
theorem held3 {w W W1 : World} {B : Nat} {a0 a1 a2 r0 r1 r2 : Addr} {v0 v1 v2 : Value} (b : Below B W W1) (hB : W.heap.size ≤ B)
    (h : W.cell? a0 = some v0 ∧ W.cell? a1 = some v1 ∧ W.cell? a2 = some v2 ∧ W.cell? r0 = some (got W r0) ∧ W.cell? r1 = some (got W r1) ∧ W.cell? r2 = some (got W r2) ∧ W.frozen? r0 = false ∧ W.frozen? r1 = false ∧ W.frozen? r2 = false ∧ Below w.heap.size w W) :
    W1.cell? a0 = some v0 ∧ W1.cell? a1 = some v1 ∧ W1.cell? a2 = some v2 ∧ W1.cell? r0 = some (got W1 r0) ∧ W1.cell? r1 = some (got W1 r1) ∧ W1.cell? r2 = some (got W1 r2) ∧ W1.frozen? r0 = false ∧ W1.frozen? r1 = false ∧ W1.frozen? r2 = false ∧ Below w.heap.size w W1 :=
  ⟨below_cellOf b hB h.1, below_cellOf b hB h.2.1, below_cellOf b hB h.2.2.1, got_below b hB h.2.2.2.1, got_below b hB h.2.2.2.2.1, got_below b hB h.2.2.2.2.2.1, below_frozenOf b hB h.2.2.2.1 h.2.2.2.2.2.2.1, below_frozenOf b hB h.2.2.2.2.1 h.2.2.2.2.2.2.2.1, below_frozenOf b hB h.2.2.2.2.2.1 h.2.2.2.2.2.2.2.2.1, below_step h.2.2.2.2.2.2.2.2.2 b (Nat.le_trans h.2.2.2.2.2.2.2.2.2.size hB)⟩

theorem held3_set {w W : World} {i0 i1 i2 : Nat} {v0 v1 v2 x y z : Value}
    (h : W.cell? ⟨w.heap.size, 0, none⟩ = some v0 ∧ W.cell? ⟨w.heap.size, 1, none⟩ = some v1 ∧ W.cell? ⟨w.heap.size, 2, none⟩ = some v2 ∧ W.cell? ⟨w.heap.size + 1, 0, none⟩ = some (got W ⟨w.heap.size + 1, 0, none⟩) ∧ W.cell? ⟨w.heap.size + 1, 1, none⟩ = some (got W ⟨w.heap.size + 1, 1, none⟩) ∧ W.cell? ⟨w.heap.size + 1, 2, none⟩ = some (got W ⟨w.heap.size + 1, 2, none⟩) ∧ W.frozen? ⟨w.heap.size + 1, 0, none⟩ = false ∧ W.frozen? ⟨w.heap.size + 1, 1, none⟩ = false ∧ W.frozen? ⟨w.heap.size + 1, 2, none⟩ = false ∧ Below w.heap.size w W) :
    let W1 := ((W.setCell ⟨w.heap.size + 1, i0, none⟩ x).setCell ⟨w.heap.size + 1, i1, none⟩ y).setCell ⟨w.heap.size + 1, i2, none⟩ z
    W1.cell? ⟨w.heap.size, 0, none⟩ = some v0 ∧ W1.cell? ⟨w.heap.size, 1, none⟩ = some v1 ∧ W1.cell? ⟨w.heap.size, 2, none⟩ = some v2 ∧ W1.cell? ⟨w.heap.size + 1, 0, none⟩ = some (got W1 ⟨w.heap.size + 1, 0, none⟩) ∧ W1.cell? ⟨w.heap.size + 1, 1, none⟩ = some (got W1 ⟨w.heap.size + 1, 1, none⟩) ∧ W1.cell? ⟨w.heap.size + 1, 2, none⟩ = some (got W1 ⟨w.heap.size + 1, 2, none⟩) ∧ W1.frozen? ⟨w.heap.size + 1, 0, none⟩ = false ∧ W1.frozen? ⟨w.heap.size + 1, 1, none⟩ = false ∧ W1.frozen? ⟨w.heap.size + 1, 2, none⟩ = false ∧ Below w.heap.size w W1 :=
  have hne : w.heap.size + 1 ≠ w.heap.size := Nat.succ_ne_self _
  ⟨far_set (far_set (far_set h.1 hne) hne) hne, far_set (far_set (far_set h.2.1 hne) hne) hne, far_set (far_set (far_set h.2.2.1 hne) hne) hne, got_set (got_set (got_set h.2.2.2.1)), got_set (got_set (got_set h.2.2.2.2.1)), got_set (got_set (got_set h.2.2.2.2.2.1)), fro_set (fro_set (fro_set h.2.2.2.2.2.2.1)), fro_set (fro_set (fro_set h.2.2.2.2.2.2.2.1)), fro_set (fro_set (fro_set h.2.2.2.2.2.2.2.2.1)), ((h.2.2.2.2.2.2.2.2.2.setCell (Nat.le_succ _) x).setCell (Nat.le_succ _) y).setCell (Nat.le_succ _) z⟩
theorem got_same {W : World} {a : Addr} {v u : Value} (h : W.cell? a = some u) : got (W.setCell a v) a = v := by unfold got; rw [World.cell?_setCell_same W a v h]; rfl
theorem got_other {W : World} {a b : Addr} {v : Value} (h : a ≠ b) : got (W.setCell a v) b = got W b := by unfold got; rw [World.cell?_setCell_other W a b v h]
theorem held3_ret {w W : World} {v0 v1 v2 x y z : Value}
    (h : W.cell? ⟨w.heap.size, 0, none⟩ = some v0 ∧ W.cell? ⟨w.heap.size, 1, none⟩ = some v1 ∧ W.cell? ⟨w.heap.size, 2, none⟩ = some v2 ∧ W.cell? ⟨w.heap.size + 1, 0, none⟩ = some (got W ⟨w.heap.size + 1, 0, none⟩) ∧ W.cell? ⟨w.heap.size + 1, 1, none⟩ = some (got W ⟨w.heap.size + 1, 1, none⟩) ∧ W.cell? ⟨w.heap.size + 1, 2, none⟩ = some (got W ⟨w.heap.size + 1, 2, none⟩) ∧ W.frozen? ⟨w.heap.size + 1, 0, none⟩ = false ∧ W.frozen? ⟨w.heap.size + 1, 1, none⟩ = false ∧ W.frozen? ⟨w.heap.size + 1, 2, none⟩ = false ∧ Below w.heap.size w W) :
    let W1 := ((W.setCell ⟨w.heap.size + 1, 0, none⟩ x).setCell ⟨w.heap.size + 1, 1, none⟩ y).setCell ⟨w.heap.size + 1, 2, none⟩ z
    Ending.returned (.agg #[got W1 ⟨w.heap.size + 1, 0, none⟩, got W1 ⟨w.heap.size + 1, 1, none⟩, got W1 ⟨w.heap.size + 1, 2, none⟩]) = .returned (.agg #[x, y, z]) ∧ Below w.heap.size w W1 := by
  intro W1
  have e0 : got W1 ⟨w.heap.size + 1, 0, none⟩ = x := by rw [got_other (by simp), got_other (by simp)]; exact got_same h.2.2.2.1
  have e1 : got W1 ⟨w.heap.size + 1, 1, none⟩ = y := by rw [got_other (by simp)]; exact got_same (got_set h.2.2.2.2.1)
  have e2 : got W1 ⟨w.heap.size + 1, 2, none⟩ = z := got_same (got_set (got_set h.2.2.2.2.2.1))
  rw [e0, e1, e2]
  exact ⟨rfl, (held3_set h).2.2.2.2.2.2.2.2.2⟩

theorem of_any (n : Bool) (d : ByteArray) (k : Nat) (w : World) (hk : k ≤ d.size) (hs : d.size ≤ 4611686018427387904) :
    Calls Tryd.prog 54 #[decV n d k] w fun e w' => e = .returned (numV (Lib.trimLeftB (d.data.toList.take (d.size - k)) 48) k (Lib.trimB (d.data.toList.drop (d.size - k)) 48).isEmpty) ∧ Below w.heap.size w w' := by
  have cW := fun w => whole_any n d k w hk hs
  have cP := fun w => part_any n d k w hk hs
  have e1 : (d.extract 0 (d.size - k)).data.toList = d.data.toList.take (d.size - k) := by simp
  have e2 : (d.extract (d.size - k) d.size).data.toList = d.data.toList.drop (d.size - k) := by
    have := Lib.size_eq d
    simp
    rw [List.take_of_length_le (by rw [List.length_drop]; omega)]
  have cL := fun w => trimL0 (d.extract 0 (d.size - k)) w
  have cT := fun w => trim0 (d.extract (d.size - k) d.size) w (by simp; omega)
  rw [e1] at cL
  rw [e2] at cT
  clear e1 e2
  unfold numV
  generalize d.extract 0 (d.size - k) = x1 at *
  generalize d.extract (d.size - k) d.size = x2 at *
  generalize Lib.trimLeftB (d.data.toList.take (d.size - k)) 48 = x3 at *
  generalize Lib.trimB (d.data.toList.drop (d.size - k)) 48 = x4 at *
  unfold decV at *
  have bA := ((Below.refl w.heap.size w).alloc (Nat.le_refl _) (.cells #[.bool n, .string d, .int .i64 k] 23)).alloc (by simp) (.cells #[.string ⟨#[]⟩, .int .i64 0, .bool false] 90)
  have bAd := bA.drew
  go_enter Tryd.func54, Tryd.ntmps54
  go_wp2
  go_region_held3 (fun w' => w'.cell? ⟨w.heap.size, 0, none⟩ = some (.bool n) ∧ w'.cell? ⟨w.heap.size, 1, none⟩ = some (.string d) ∧ w'.cell? ⟨w.heap.size, 2, none⟩ = some (.int .i64 k) ∧ w'.cell? ⟨w.heap.size + 1, 0, none⟩ = some (got w' ⟨w.heap.size + 1, 0, none⟩) ∧ w'.cell? ⟨w.heap.size + 1, 1, none⟩ = some (got w' ⟨w.heap.size + 1, 1, none⟩) ∧ w'.cell? ⟨w.heap.size + 1, 2, none⟩ = some (got w' ⟨w.heap.size + 1, 2, none⟩) ∧ w'.frozen? ⟨w.heap.size + 1, 0, none⟩ = false ∧ w'.frozen? ⟨w.heap.size + 1, 1, none⟩ = false ∧ w'.frozen? ⟨w.heap.size + 1, 2, none⟩ = false ∧ Below w.heap.size w w')
   (first | exact ⟨by go_keep, by go_keep, by go_keep, got_of (by go_keep), got_of (by go_keep), got_of (by go_keep), by go_keep, by go_keep, by go_keep, bAd⟩ | exact h10 | exact held3_set h10)
   (first
    | (go_at_call 30; refine (cW _).mono ?_; rintro e W1 ⟨rfl, b1⟩; have h10 := held3 b1 (Nat.le_refl _) (by assumption))
    | (go_at_call 31; refine (cP _).mono ?_; rintro e W1 ⟨rfl, b1⟩; have h10 := held3 b1 (Nat.le_refl _) (by assumption))
    | (go_at_call 88; refine (cL _).mono ?_; rintro e W1 ⟨rfl, b1⟩; have h10 := held3 b1 (Nat.le_refl _) (by assumption))
    | (go_at_call 65; refine (cT _).mono ?_; rintro e W1 ⟨rfl, b1⟩; have h10 := held3 b1 (Nat.le_refl _) (by assumption)))
  go_wp2
  refine bodyPost_ret (by simp [*, results, Tryd.results54, go_sem]; rfl) rfl ?_
  exact held3_ret h10
end Go.Proofs.YtonjkoeacedaiaaDoor
