/- Walks of plural's languages. -/
import Derived.Test.YtonjkoeacedaiaaDoorDrules
namespace Go.Proofs.YtonjkoeacedaiaaDoor
open Go.RowKit
set_option linter.unusedVariables false
set_option linter.unusedSimpArgs false
attribute [local go_sem ↓] Go.wp_at_zero Go.wp_at_succ

def inB (x a b : Int) : Bool := decide (a ≤ x) && decide (x ≤ b)
def slavB (L : List UInt8) : Bool := inB (lastV 1 L) 2 4 && !inB (lastV 2 L) 12 14
theorem in_B (x a b : Int) (w : World) : Calls Tryd.prog 58 #[.int .i64 x, .int .i64 a, .int .i64 b] w fun e w' => e = .returned (.bool (inB x a b)) ∧ w' = w := in_any x a b w
/-- A number as it may be: digits alone, not too many. -/
structure Dg (L : List UInt8) : Prop where
  len : L.length ≤ 1000000
  dig : ∀ c ∈ L, 48 ≤ c.toNat ∧ c.toNat ≤ 57
theorem last1 (L : List UInt8) (v : Int) (b : Bool) (w : World) (h : Dg L) : Calls Tryd.prog 59 #[numV L v b, .int .i64 1] w fun e w' => e = .returned (.int .i64 (lastV 1 L)) ∧ Below w.heap.size w w' := last_any L v b 1 w (by omega) h.len h.dig
theorem last2 (L : List UInt8) (v : Int) (b : Bool) (w : World) (h : Dg L) : Calls Tryd.prog 59 #[numV L v b, .int .i64 2] w fun e w' => e = .returned (.int .i64 (lastV 2 L)) ∧ Below w.heap.size w w' := last_any L v b 2 w (by omega) h.len h.dig

/-- A world of the call of a function on a number that lies in its first block. -/
def NAt (w : World) (L : List UInt8) (v : Int) (b : Bool) (W : World) : Prop :=
  W.cell? ⟨w.heap.size, 0, none⟩ = some (.string ⟨L.toArray⟩) ∧ W.cell? ⟨w.heap.size, 1, none⟩ = some (.int .i64 v) ∧ W.cell? ⟨w.heap.size, 2, none⟩ = some (.bool b) ∧ Below w.heap.size w W
theorem NAt.get {w W : World} {L : List UInt8} {v : Int} {b : Bool} (h : NAt w L v b W) : W.cell? ⟨w.heap.size, 0, none⟩ = some (.string ⟨L.toArray⟩) ∧ W.cell? ⟨w.heap.size, 1, none⟩ = some (.int .i64 v) ∧ W.cell? ⟨w.heap.size, 2, none⟩ = some (.bool b) := ⟨h.1, h.2.1, h.2.2.1⟩
theorem NAt.drew {w W : World} {L : List UInt8} {v : Int} {b : Bool} (h : NAt w L v b W) : NAt w L v b W.drew := ⟨by simpa using h.1, by simpa using h.2.1, by simpa using h.2.2.1, h.2.2.2.drew⟩
theorem NAt.start (w : World) (L : List UInt8) (v : Int) (b : Bool) : NAt w L v b (w.alloc (.cells #[.string ⟨L.toArray⟩, .int .i64 v, .bool b] 90)) :=
  ⟨by simp, by simp, by simp, (Below.refl _ _).alloc (Nat.le_refl _) _⟩
theorem NAt.step {w W W1 : World} {L : List UInt8} {v : Int} {b : Bool} (h : NAt w L v b W) (c : Below W.heap.size W W1) : NAt w L v b W1 :=
  ⟨below_cellOf c (Nat.le_refl _) h.1, below_cellOf c (Nat.le_refl _) h.2.1, below_cellOf c (Nat.le_refl _) h.2.2.1, below_step h.2.2.2 c h.2.2.2.size⟩
theorem NAt.calls {w W : World} {L : List UInt8} {v : Int} {b : Bool} {P : Program} {f : FuncId} {args : Array Value} {r : Value} (h : NAt w L v b W) (c : Calls P f args W fun e w' => e = .returned r ∧ Below W.heap.size W w') : Calls P f args W fun e w' => e = .returned r ∧ NAt w L v b w' :=
  c.mono fun e w' ⟨he, hb⟩ => ⟨he, h.step hb⟩
theorem same_below {P : Program} {f : FuncId} {args : Array Value} {r : Value} {W : World} (c : Calls P f args W fun e w' => e = .returned r ∧ w' = W) : Calls P f args W fun e w' => e = .returned r ∧ Below W.heap.size W w' :=
  c.mono fun e w' ⟨he, hw⟩ => ⟨he, hw ▸ Below.refl _ _⟩

theorem slavic_any (L : List UInt8) (v : Int) (b : Bool) (w : World) (h : Dg L) : Calls Tryd.prog 117 #[numV L v b] w fun e w' => e = .returned (.bool (slavB L)) ∧ Below w.heap.size w w' := by
  have c1 := fun W (n : NAt w L v b W) => n.calls (last1 L v b W h)
  have c2 := fun W (n : NAt w L v b W) => n.calls (last2 L v b W h)
  have i1 := fun W (n : NAt w L v b W) => n.calls (same_below (in_B (lastV 1 L) 2 4 W))
  have i2 := fun W (n : NAt w L v b W) => n.calls (same_below (in_B (lastV 2 L) 12 14 W))
  unfold slavB
  generalize lastV 1 L = l1 at *
  generalize lastV 2 L = l2 at *
  generalize inB l1 2 4 = B1 at *
  generalize inB l2 12 14 = B2 at *
  have hN0 := NAt.start w L v b
  unfold numV at *
  cases B1 <;> cases B2
  all_goals
    go_enter Tryd.func117, Tryd.ntmps117
    go_wp2_with (first
      | (go_at_call 59; ((with_reducible refine (c1 _ (by first | assumption | (refine NAt.drew ?_; assumption))).mono ?_); rintro e W1 ⟨rfl, hN1⟩; obtain ⟨n0, n1, n2⟩ := hN1.get))
      | (go_at_call 59; ((with_reducible refine (c2 _ (by first | assumption | (refine NAt.drew ?_; assumption))).mono ?_); rintro e W1 ⟨rfl, hN1⟩; obtain ⟨n0, n1, n2⟩ := hN1.get))
      | (go_at_call 58; ((with_reducible refine (i1 _ (by first | assumption | (refine NAt.drew ?_; assumption))).mono ?_); rintro e W1 ⟨rfl, hN1⟩; obtain ⟨n0, n1, n2⟩ := hN1.get))
      | (go_at_call 58; ((with_reducible refine (i2 _ (by first | assumption | (refine NAt.drew ?_; assumption))).mono ?_); rintro e W1 ⟨rfl, hN1⟩; obtain ⟨n0, n1, n2⟩ := hN1.get)))
    go_ret
    exact ⟨rfl, hN1.2.2.2⟩
/-! ### generated -/
def polC (L : List UInt8) (v : Int) : Int := if v == 0 then (if L == [49] then 2 else if slavB L then 4 else 5) else 0
def rusC (L : List UInt8) (v : Int) : Int := if v == 0 then (if lastV 1 L == 1 && !(lastV 2 L == 11) then 2 else if slavB L then 4 else 5) else 0
def czeC (L : List UInt8) (v : Int) : Int := if v == 0 then (if L == [49] then 2 else if L.length == 1 && inB (lastV 1 L) 2 4 then 4 else 0) else 5
def araC (L : List UInt8) (b : Bool) : Int := if b then (if L == [] then 1 else if L == [49] then 2 else if L == [50] then 3 else if inB (lastV 2 L) 3 10 then 4 else if inB (lastV 2 L) 11 99 then 5 else 0) else 0
def enC (L : List UInt8) (v : Int) : Int := if v == 0 && L == [49] then 2 else 0
def frC (L : List UInt8) : Int := if L == [] || L == [49] then 2 else 0
def esC (L : List UInt8) (b : Bool) : Int := if b && L == [49] then 2 else 0
set_option maxHeartbeats 4000000 in
theorem polish_any (L : List UInt8) (v : Int) (b : Bool) (w : World) (h : Dg L) : Calls Tryd.prog 81 #[numV L v b] w fun e w' => e = .returned (.int .i64 (polC L v)) ∧ Below w.heap.size w w' := by
  have c0 := fun W (n : NAt w L v b W) => n.calls (is_any L [49] v b W)
  have c1 := fun W (n : NAt w L v b W) => n.calls (slavic_any L v b W h)
  have hN0 := NAt.start w L v b
  simp only [show Lib.trimLeftB [48] 48 = [] from rfl, show Lib.trimLeftB [49] 48 = [49] from rfl, show Lib.trimLeftB [50] 48 = [50] from rfl] at *
  unfold polC
  generalize slavB L = S at *
  generalize (L == [49]) = I1 at *
  clear h
  unfold numV at *
  obtain ⟨V, hV⟩ : ∃ V, (v == 0) = V := ⟨_, rfl⟩
  rw [hV]
  cases V <;> cases S <;> cases I1
  all_goals
    go_enter Tryd.func81, Tryd.ntmps81
    go_wp2_with (first
      | (go_at_call 57; ((with_reducible refine (c0 _ (by first | assumption | (refine NAt.drew ?_; assumption))).mono ?_); rintro e W1 ⟨rfl, hN1⟩; obtain ⟨n0, n1, n2⟩ := hN1.get))
      | (go_at_call 117; ((with_reducible refine (c1 _ (by first | assumption | (refine NAt.drew ?_; assumption))).mono ?_); rintro e W1 ⟨rfl, hN1⟩; obtain ⟨n0, n1, n2⟩ := hN1.get)))
    go_returns
    first | exact ⟨rfl, hN1.2.2.2⟩ | exact ⟨rfl, hN0.2.2.2⟩ | exact ⟨by simp [*], hN1.2.2.2⟩ | exact ⟨by simp [*], hN0.2.2.2⟩
set_option maxHeartbeats 4000000 in
theorem russian_any (L : List UInt8) (v : Int) (b : Bool) (w : World) (h : Dg L) : Calls Tryd.prog 82 #[numV L v b] w fun e w' => e = .returned (.int .i64 (rusC L v)) ∧ Below w.heap.size w w' := by
  have c0 := fun W (n : NAt w L v b W) => n.calls (last1 L v b W h)
  have c1 := fun W (n : NAt w L v b W) => n.calls (last2 L v b W h)
  have c2 := fun W (n : NAt w L v b W) => n.calls (slavic_any L v b W h)
  have hN0 := NAt.start w L v b
  unfold rusC
  generalize slavB L = S at *
  generalize lastV 1 L = x1 at *
  generalize lastV 2 L = x2 at *
  clear h
  unfold numV at *
  obtain ⟨V, hV⟩ : ∃ V, (v == 0) = V := ⟨_, rfl⟩
  rw [hV]
  obtain ⟨E1, hE1⟩ : ∃ V, (x1 == 1) = V := ⟨_, rfl⟩
  obtain ⟨E2, hE2⟩ : ∃ V, (x2 == 11) = V := ⟨_, rfl⟩
  rw [hE1, hE2]
  cases V <;> cases S <;> cases E1 <;> cases E2
  all_goals
    go_enter Tryd.func82, Tryd.ntmps82
    go_wp2_with (first
      | (go_at_call 59; ((with_reducible refine (c0 _ (by first | assumption | (refine NAt.drew ?_; assumption))).mono ?_); rintro e W1 ⟨rfl, hN1⟩; obtain ⟨n0, n1, n2⟩ := hN1.get))
      | (go_at_call 59; ((with_reducible refine (c1 _ (by first | assumption | (refine NAt.drew ?_; assumption))).mono ?_); rintro e W1 ⟨rfl, hN1⟩; obtain ⟨n0, n1, n2⟩ := hN1.get))
      | (go_at_call 117; ((with_reducible refine (c2 _ (by first | assumption | (refine NAt.drew ?_; assumption))).mono ?_); rintro e W1 ⟨rfl, hN1⟩; obtain ⟨n0, n1, n2⟩ := hN1.get)))
    go_returns
    first | exact ⟨rfl, hN1.2.2.2⟩ | exact ⟨rfl, hN0.2.2.2⟩ | exact ⟨by simp [*], hN1.2.2.2⟩ | exact ⟨by simp [*], hN0.2.2.2⟩
set_option maxHeartbeats 4000000 in
theorem czech_any (L : List UInt8) (v : Int) (b : Bool) (w : World) (h : Dg L) : Calls Tryd.prog 83 #[numV L v b] w fun e w' => e = .returned (.int .i64 (czeC L v)) ∧ Below w.heap.size w w' := by
  have c0 := fun W (n : NAt w L v b W) => n.calls (is_any L [49] v b W)
  have c1 := fun W (n : NAt w L v b W) => n.calls (last1 L v b W h)
  have c2 := fun W (n : NAt w L v b W) => n.calls (same_below (in_B (lastV 1 L) 2 4 W))
  have hN0 := NAt.start w L v b
  simp only [show Lib.trimLeftB [48] 48 = [] from rfl, show Lib.trimLeftB [49] 48 = [49] from rfl, show Lib.trimLeftB [50] 48 = [50] from rfl] at *
  unfold czeC
  generalize inB (lastV 1 L) 2 4 = J at *
  generalize lastV 1 L = x1 at *
  generalize (L == [49]) = I1 at *
  clear h
  unfold numV at *
  obtain ⟨V, hV⟩ : ∃ V, (v == 0) = V := ⟨_, rfl⟩
  rw [hV]
  obtain ⟨E1, hE1⟩ : ∃ V, (L.length == 1) = V := ⟨_, rfl⟩
  rw [hE1]
  have hE2 : ((L.length : Int) == 1) = E1 := by rw [← hE1]; exact Bool.eq_iff_iff.2 (by simp; omega)
  cases V <;> cases J <;> cases E1 <;> cases I1
  all_goals
    go_enter Tryd.func83, Tryd.ntmps83
    go_wp2_with (first
      | (go_at_call 57; ((with_reducible refine (c0 _ (by first | assumption | (refine NAt.drew ?_; assumption))).mono ?_); rintro e W1 ⟨rfl, hN1⟩; obtain ⟨n0, n1, n2⟩ := hN1.get))
      | (go_at_call 59; ((with_reducible refine (c1 _ (by first | assumption | (refine NAt.drew ?_; assumption))).mono ?_); rintro e W1 ⟨rfl, hN1⟩; obtain ⟨n0, n1, n2⟩ := hN1.get))
      | (go_at_call 58; ((with_reducible refine (c2 _ (by first | assumption | (refine NAt.drew ?_; assumption))).mono ?_); rintro e W1 ⟨rfl, hN1⟩; obtain ⟨n0, n1, n2⟩ := hN1.get)))
    go_returns
    first | exact ⟨rfl, hN1.2.2.2⟩ | exact ⟨rfl, hN0.2.2.2⟩ | exact ⟨by simp [*], hN1.2.2.2⟩ | exact ⟨by simp [*], hN0.2.2.2⟩
set_option maxHeartbeats 4000000 in
theorem arabic_any (L : List UInt8) (v : Int) (b : Bool) (w : World) (h : Dg L) : Calls Tryd.prog 84 #[numV L v b] w fun e w' => e = .returned (.int .i64 (araC L b)) ∧ Below w.heap.size w w' := by
  have c0 := fun W (n : NAt w L v b W) => n.calls (is_any L [48] v b W)
  have c1 := fun W (n : NAt w L v b W) => n.calls (is_any L [49] v b W)
  have c2 := fun W (n : NAt w L v b W) => n.calls (is_any L [50] v b W)
  have c3 := fun W (n : NAt w L v b W) => n.calls (last2 L v b W h)
  have c4 := fun W (n : NAt w L v b W) => n.calls (same_below (in_B (lastV 2 L) 3 10 W))
  have c5 := fun W (n : NAt w L v b W) => n.calls (same_below (in_B (lastV 2 L) 11 99 W))
  have hN0 := NAt.start w L v b
  simp only [show Lib.trimLeftB [48] 48 = [] from rfl, show Lib.trimLeftB [49] 48 = [49] from rfl, show Lib.trimLeftB [50] 48 = [50] from rfl] at *
  unfold araC
  generalize inB (lastV 2 L) 3 10 = J at *
  generalize inB (lastV 2 L) 11 99 = K at *
  generalize lastV 2 L = x1 at *
  generalize (L == []) = I0 at *
  generalize (L == [49]) = I1 at *
  generalize (L == [50]) = I2 at *
  clear h
  unfold numV at *
  rcases b with _ | _
  rotate_left
  rcases I0 with _ | _
  rcases I1 with _ | _
  rcases I2 with _ | _
  rcases J with _ | _
  rcases K with _ | _
  all_goals
    go_enter Tryd.func84, Tryd.ntmps84
    go_wp2_with (first
      | (go_at_call 57; ((with_reducible refine (c0 _ (by first | assumption | (refine NAt.drew ?_; assumption))).mono ?_); rintro e W1 ⟨rfl, hN1⟩; obtain ⟨n0, n1, n2⟩ := hN1.get))
      | (go_at_call 57; ((with_reducible refine (c1 _ (by first | assumption | (refine NAt.drew ?_; assumption))).mono ?_); rintro e W1 ⟨rfl, hN1⟩; obtain ⟨n0, n1, n2⟩ := hN1.get))
      | (go_at_call 57; ((with_reducible refine (c2 _ (by first | assumption | (refine NAt.drew ?_; assumption))).mono ?_); rintro e W1 ⟨rfl, hN1⟩; obtain ⟨n0, n1, n2⟩ := hN1.get))
      | (go_at_call 59; ((with_reducible refine (c3 _ (by first | assumption | (refine NAt.drew ?_; assumption))).mono ?_); rintro e W1 ⟨rfl, hN1⟩; obtain ⟨n0, n1, n2⟩ := hN1.get))
      | (go_at_call 58; ((with_reducible refine (c4 _ (by first | assumption | (refine NAt.drew ?_; assumption))).mono ?_); rintro e W1 ⟨rfl, hN1⟩; obtain ⟨n0, n1, n2⟩ := hN1.get))
      | (go_at_call 58; ((with_reducible refine (c5 _ (by first | assumption | (refine NAt.drew ?_; assumption))).mono ?_); rintro e W1 ⟨rfl, hN1⟩; obtain ⟨n0, n1, n2⟩ := hN1.get)))
    go_returns
    first | exact ⟨rfl, hN1.2.2.2⟩ | exact ⟨rfl, hN0.2.2.2⟩ | exact ⟨by simp [*], hN1.2.2.2⟩ | exact ⟨by simp [*], hN0.2.2.2⟩
set_option maxHeartbeats 4000000 in
theorem en_any (L : List UInt8) (v : Int) (b : Bool) (w : World) (h : Dg L) : Calls Tryd.prog 78 #[numV L v b] w fun e w' => e = .returned (.int .i64 (enC L v)) ∧ Below w.heap.size w w' := by
  have c0 := fun W (n : NAt w L v b W) => n.calls (is_any L [49] v b W)
  have c1 := fun W (n : NAt w L v b W) => n.calls (same_below (one_any true W))
  have c2 := fun W (n : NAt w L v b W) => n.calls (same_below (one_any false W))
  have hN0 := NAt.start w L v b
  simp only [show Lib.trimLeftB [48] 48 = [] from rfl, show Lib.trimLeftB [49] 48 = [49] from rfl, show Lib.trimLeftB [50] 48 = [50] from rfl] at *
  unfold enC
  generalize (L == [49]) = I1 at *
  clear h
  unfold numV at *
  obtain ⟨V, hV⟩ : ∃ V, (v == 0) = V := ⟨_, rfl⟩
  rw [hV]
  cases V <;> cases I1
  all_goals
    go_enter Tryd.func78, Tryd.ntmps78
    go_wp2_with (first
      | (go_at_call 57; ((with_reducible refine (c0 _ (by first | assumption | (refine NAt.drew ?_; assumption))).mono ?_); rintro e W1 ⟨rfl, hN1⟩; obtain ⟨n0, n1, n2⟩ := hN1.get))
      | (go_at_call 56; ((with_reducible refine (c1 _ (by first | assumption | (refine NAt.drew ?_; assumption))).mono ?_); rintro e W1 ⟨rfl, hN1⟩; obtain ⟨n0, n1, n2⟩ := hN1.get))
      | (go_at_call 56; ((with_reducible refine (c2 _ (by first | assumption | (refine NAt.drew ?_; assumption))).mono ?_); rintro e W1 ⟨rfl, hN1⟩; obtain ⟨n0, n1, n2⟩ := hN1.get)))
    go_returns
    first | exact ⟨rfl, hN1.2.2.2⟩ | exact ⟨rfl, hN0.2.2.2⟩ | exact ⟨by simp [*], hN1.2.2.2⟩ | exact ⟨by simp [*], hN0.2.2.2⟩
set_option maxHeartbeats 4000000 in
theorem fr_any (L : List UInt8) (v : Int) (b : Bool) (w : World) (h : Dg L) : Calls Tryd.prog 79 #[numV L v b] w fun e w' => e = .returned (.int .i64 (frC L)) ∧ Below w.heap.size w w' := by
  have c0 := fun W (n : NAt w L v b W) => n.calls (is_any L [48] v b W)
  have c1 := fun W (n : NAt w L v b W) => n.calls (is_any L [49] v b W)
  have c2 := fun W (n : NAt w L v b W) => n.calls (same_below (one_any true W))
  have c3 := fun W (n : NAt w L v b W) => n.calls (same_below (one_any false W))
  have hN0 := NAt.start w L v b
  simp only [show Lib.trimLeftB [48] 48 = [] from rfl, show Lib.trimLeftB [49] 48 = [49] from rfl, show Lib.trimLeftB [50] 48 = [50] from rfl] at *
  unfold frC
  generalize (L == []) = I0 at *
  generalize (L == [49]) = I1 at *
  clear h
  unfold numV at *
  cases I0 <;> cases I1
  all_goals
    go_enter Tryd.func79, Tryd.ntmps79
    go_wp2_with (first
      | (go_at_call 57; ((with_reducible refine (c0 _ (by first | assumption | (refine NAt.drew ?_; assumption))).mono ?_); rintro e W1 ⟨rfl, hN1⟩; obtain ⟨n0, n1, n2⟩ := hN1.get))
      | (go_at_call 57; ((with_reducible refine (c1 _ (by first | assumption | (refine NAt.drew ?_; assumption))).mono ?_); rintro e W1 ⟨rfl, hN1⟩; obtain ⟨n0, n1, n2⟩ := hN1.get))
      | (go_at_call 56; ((with_reducible refine (c2 _ (by first | assumption | (refine NAt.drew ?_; assumption))).mono ?_); rintro e W1 ⟨rfl, hN1⟩; obtain ⟨n0, n1, n2⟩ := hN1.get))
      | (go_at_call 56; ((with_reducible refine (c3 _ (by first | assumption | (refine NAt.drew ?_; assumption))).mono ?_); rintro e W1 ⟨rfl, hN1⟩; obtain ⟨n0, n1, n2⟩ := hN1.get)))
    go_returns
    first | exact ⟨rfl, hN1.2.2.2⟩ | exact ⟨rfl, hN0.2.2.2⟩ | exact ⟨by simp [*], hN1.2.2.2⟩ | exact ⟨by simp [*], hN0.2.2.2⟩
set_option maxHeartbeats 4000000 in
theorem es_any (L : List UInt8) (v : Int) (b : Bool) (w : World) (h : Dg L) : Calls Tryd.prog 80 #[numV L v b] w fun e w' => e = .returned (.int .i64 (esC L b)) ∧ Below w.heap.size w w' := by
  have c0 := fun W (n : NAt w L v b W) => n.calls (is_any L [49] v b W)
  have c1 := fun W (n : NAt w L v b W) => n.calls (same_below (one_any true W))
  have c2 := fun W (n : NAt w L v b W) => n.calls (same_below (one_any false W))
  have hN0 := NAt.start w L v b
  simp only [show Lib.trimLeftB [48] 48 = [] from rfl, show Lib.trimLeftB [49] 48 = [49] from rfl, show Lib.trimLeftB [50] 48 = [50] from rfl] at *
  unfold esC
  generalize (L == [49]) = I1 at *
  clear h
  unfold numV at *
  cases b <;> cases I1
  all_goals
    go_enter Tryd.func80, Tryd.ntmps80
    go_wp2_with (first
      | (go_at_call 57; ((with_reducible refine (c0 _ (by first | assumption | (refine NAt.drew ?_; assumption))).mono ?_); rintro e W1 ⟨rfl, hN1⟩; obtain ⟨n0, n1, n2⟩ := hN1.get))
      | (go_at_call 56; ((with_reducible refine (c1 _ (by first | assumption | (refine NAt.drew ?_; assumption))).mono ?_); rintro e W1 ⟨rfl, hN1⟩; obtain ⟨n0, n1, n2⟩ := hN1.get))
      | (go_at_call 56; ((with_reducible refine (c2 _ (by first | assumption | (refine NAt.drew ?_; assumption))).mono ?_); rintro e W1 ⟨rfl, hN1⟩; obtain ⟨n0, n1, n2⟩ := hN1.get)))
    go_returns
    first | exact ⟨rfl, hN1.2.2.2⟩ | exact ⟨rfl, hN0.2.2.2⟩ | exact ⟨by simp [*], hN1.2.2.2⟩ | exact ⟨by simp [*], hN0.2.2.2⟩
end Go.Proofs.YtonjkoeacedaiaaDoor
