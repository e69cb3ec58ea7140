/- The walk of plural.Rank. -/
import Derived.Test.YtonjkoeacedaiaaDoorDof2
namespace Go.Proofs.YtonjkoeacedaiaaDoor
open Go.RowKit
set_option linter.unusedVariables false
set_option linter.unusedSimpArgs false
attribute [local go_sem ↓] Go.wp_at_zero Go.wp_at_succ

def rankT (x : Int) : Int := if x = 1 then 2 else if x = 2 then 3 else if x = 3 then 4 else 0
def rankC (lang : ByteArray) (L : List UInt8) (b : Bool) : Int :=
  if b then (if lang.toList == [102, 114] then (if L == [49] then 2 else 0) else if !(lang.toList == [101, 110]) || inB (lastV 2 L) 11 13 then 0 else rankT (lastV 1 L)) else 0
/-- A number that lies in the block j. -/
def NIn (w : World) (j : Nat) (L : List UInt8) (v : Int) (b : Bool) (W : World) : Prop :=
  W.cell? ⟨j, 0, none⟩ = some (.string ⟨L.toArray⟩) ∧ W.cell? ⟨j, 1, none⟩ = some (.int .i64 v) ∧ W.cell? ⟨j, 2, none⟩ = some (.bool b) ∧ Below w.heap.size w W
theorem NIn.get {w W : World} {j : Nat} {L : List UInt8} {v : Int} {b : Bool} (h : NIn w j L v b W) : W.cell? ⟨j, 0, none⟩ = some (.string ⟨L.toArray⟩) ∧ W.cell? ⟨j, 1, none⟩ = some (.int .i64 v) ∧ W.cell? ⟨j, 2, none⟩ = some (.bool b) := ⟨h.1, h.2.1, h.2.2.1⟩
theorem NIn.drew {w W : World} {j : Nat} {L : List UInt8} {v : Int} {b : Bool} (h : NIn w j L v b W) : NIn w j L v b W.drew := ⟨cell_dr h.1, cell_dr h.2.1, cell_dr h.2.2.1, h.2.2.2.drew⟩
theorem NIn.step {w W W1 : World} {j : Nat} {L : List UInt8} {v : Int} {b : Bool} (h : NIn w j L v b W) (c : Below W.heap.size W W1) : NIn w j L v b W1 :=
  ⟨below_cellOf c (Nat.le_refl _) h.1, below_cellOf c (Nat.le_refl _) h.2.1, below_cellOf c (Nat.le_refl _) h.2.2.1, below_step h.2.2.2 c h.2.2.2.size⟩
theorem NIn.calls {w W : World} {j : Nat} {L : List UInt8} {v : Int} {b : Bool} {P : Program} {f : FuncId} {args : Array Value} {r : Value} (h : NIn w j L v b W) (c : Calls P f args W fun e w' => e = .returned r ∧ Below W.heap.size W w') : Calls P f args W fun e w' => e = .returned r ∧ NIn w j L v b w' :=
  c.mono fun e w' ⟨he, hb⟩ => ⟨he, h.step hb⟩
theorem NIn.start {w w0 W1 : World} {L : List UInt8} {v : Int} {b : Bool} (bA : Below w.heap.size w w0) (b1 : Below w0.heap.size w0 W1) : NIn w W1.heap.size L v b (W1.alloc (.cells #[.string ⟨L.toArray⟩, .int .i64 v, .bool b] 90)) :=
  ⟨(Lib.cell_of_heap (heap_alloc_new W1 _) 0).trans (by rfl), (Lib.cell_of_heap (heap_alloc_new W1 _) 1).trans (by rfl), (Lib.cell_of_heap (heap_alloc_new W1 _) 2).trans (by rfl), (bA.trans (b1.mono bA.size)).alloc (Nat.le_trans bA.size b1.size) _⟩
theorem last1_bd (L : List UInt8) (h : Dg L) : 0 ≤ lastV 1 L ∧ lastV 1 L ≤ 9 := by
  unfold lastV
  have hm : ∀ c ∈ L.drop (L.length - 1), 48 ≤ c.toNat ∧ c.toNat ≤ 57 := fun c hc => h.dig c (List.mem_of_mem_drop hc)
  have hl : (L.drop (L.length - 1)).length ≤ 1 := by rw [List.length_drop]; omega
  generalize L.drop (L.length - 1) = T at *
  match T, hl with
  | [], _ => simp
  | [c], _ => have := hm c (by simp); simp; omega

theorem rank_index (x : Int) (h0 : 0 ≤ x) (h9 : x ≤ 9) (W : World) : (Instr.index 98 (.agg #[.int .i64 0, .int .i64 2, .int .i64 3, .int .i64 4, .int .i64 0, .int .i64 0, .int .i64 0, .int .i64 0, .int .i64 0, .int .i64 0]) (.int .i64 x)).run Tryd.prog W = .ok (.int .i64 (rankT x)) W := by
  rcases (show x = 0 ∨ x = 1 ∨ x = 2 ∨ x = 3 ∨ x = 4 ∨ x = 5 ∨ x = 6 ∨ x = 7 ∨ x = 8 ∨ x = 9 by omega) with rfl | rfl | rfl | rfl | rfl | rfl | rfl | rfl | rfl | rfl
  all_goals
    simp [Instr.index, run_underlying Tryd.underlying98, asIntOf, go_sem, rankT]

set_option maxRecDepth 100000 in
set_option maxHeartbeats 4000000 in
theorem rank_any (lang : ByteArray) (n : Bool) (d : ByteArray) (k : Nat) (L : List UInt8) (b : Bool) (hDg : Dg L) (w : World)
    (cO : ∀ W, Calls Tryd.prog 54 #[decV n d k] W fun e w' => e = .returned (numV L k b) ∧ Below W.heap.size W w') :
    Calls Tryd.prog 21 #[.string lang, decV n d k] w fun e w' => e = .returned (.int .i64 (rankC lang L b)) ∧ Below w.heap.size w w' := by
  have c1 := fun j W (n : NIn w j L k b W) => n.calls (last1 L k b W hDg)
  have c2 := fun j W (n : NIn w j L k b W) => n.calls (last2 L k b W hDg)
  have i2 := fun j W (n : NIn w j L k b W) => n.calls (same_below (in_B (lastV 2 L) 11 13 W))
  have cI := fun j W (n : NIn w j L k b W) => n.calls (is_any L [49] k b W)
  have cOn := fun j W (n : NIn w j L k b W) => n.calls (same_below (one_any (L == [49]) W))
  obtain ⟨hx0, hx9⟩ := last1_bd L hDg
  simp only [show Lib.trimLeftB [49] 48 = [49] from rfl] at cI
  have hix := fun W => rank_index (lastV 1 L) hx0 hx9 W
  obtain ⟨F, hF⟩ : ∃ F, (lang.toList == [102, 114]) = F := ⟨_, rfl⟩
  obtain ⟨E, hE⟩ : ∃ F, (lang.toList == [101, 110]) = F := ⟨_, rfl⟩
  unfold rankC
  rw [hF, hE]
  generalize (L == [49]) = I1 at *
  generalize inB (lastV 2 L) 11 13 = J at *
  generalize lastV 2 L = x2 at *
  generalize lastV 1 L = x1 at *
  clear hDg
  have bA := (Below.refl w.heap.size w).alloc (Nat.le_refl _) (.cells #[.bool n, .string d, .int .i64 k] 23)
  unfold decV numV at *
  rcases b with _ | _
  rotate_left
  rcases F with _ | _
  rotate_left
  rcases I1 with _ | _
  rotate_left 3
  rcases E with _ | _
  rotate_left
  rcases J with _ | _
  all_goals
    go_enter Tryd.func21, Tryd.ntmps21
    go_wp2_with (first
      | (go_at_call 54; (with_reducible refine (cO _).mono ?_); rintro e W1 ⟨rfl, b1⟩; have hNt := NIn.start (L := L) (v := (k : Int)) (b := true) bA b1; have hNf := NIn.start (L := L) (v := (k : Int)) (b := false) bA b1; have kk := c1 W1.heap.size; have kk2 := c2 W1.heap.size; have kk3 := i2 W1.heap.size; have kk4 := cI W1.heap.size; have kk5 := cOn W1.heap.size)
      | (go_at_call 59; ((with_reducible refine (kk _ (by first | assumption | (refine NIn.drew ?_; assumption))).mono ?_); rintro e W2 ⟨rfl, hN1⟩; obtain ⟨n0, n1, n2⟩ := hN1.get))
      | (go_at_call 59; ((with_reducible refine (kk2 _ (by first | assumption | (refine NIn.drew ?_; assumption))).mono ?_); rintro e W2 ⟨rfl, hN1⟩; obtain ⟨n0, n1, n2⟩ := hN1.get))
      | (go_at_call 58; ((with_reducible refine (kk3 _ (by first | assumption | (refine NIn.drew ?_; assumption))).mono ?_); rintro e W2 ⟨rfl, hN1⟩; obtain ⟨n0, n1, n2⟩ := hN1.get))
      | (go_at_call 57; ((with_reducible refine (kk4 _ (by first | assumption | (refine NIn.drew ?_; assumption))).mono ?_); rintro e W2 ⟨rfl, hN1⟩; obtain ⟨n0, n1, n2⟩ := hN1.get))
      | (go_at_call 56; ((with_reducible refine (kk5 _ (by first | assumption | (refine NIn.drew ?_; assumption))).mono ?_); rintro e W2 ⟨rfl, hN1⟩; obtain ⟨n0, n1, n2⟩ := hN1.get)))
    go_ret
    first | exact ⟨rfl, hN1.2.2.2.alloc hN1.2.2.2.size _⟩ | exact ⟨rfl, hN1.2.2.2⟩ | exact ⟨rfl, hNt.2.2.2⟩ | exact ⟨rfl, hNf.2.2.2⟩
end Go.Proofs.YtonjkoeacedaiaaDoor
