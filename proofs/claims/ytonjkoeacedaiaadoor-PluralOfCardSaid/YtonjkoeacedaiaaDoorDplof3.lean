/- PluralOf at numbers of more digits than a machine holds: Right says no. -/
import Derived.Test.YtonjkoeacedaiaaDoorDplof2
namespace Go.Proofs.YtonjkoeacedaiaaDoor
open Go.RowKit
set_option linter.unusedVariables false
set_option linter.unusedSimpArgs false

set_option maxRecDepth 100000 in
theorem lright_big (n : Bool) (d : ByteArray) (k : Int) (w : World) (hk0 : -9223372036854775808 ≤ k) (hk1 : k ≤ 9223372036854775807) (hs : d.size ≤ 9223372036854775807) (h2 : 60 < d.size) :
    Calls Tryd.prog 18 #[decV n d k] w fun e w' => e = .returned (.bool false) ∧ Below w.heap.size w w' := by
  unfold decV
  have bA := (Below.refl w.heap.size w).alloc (Nat.le_refl _) (.cells #[.bool n, .string d, .int .i64 k] 23)
  by_cases h0 : k < 0
  · go_enter Tryd.func18, Tryd.ntmps18
    go_wp2
    go_ret
    exact ⟨rfl, bA⟩
  by_cases h1 : (d.size : Int) ≤ k
  · go_enter Tryd.func18, Tryd.ntmps18
    go_wp2
    go_ret
    exact ⟨rfl, bA⟩
  have h2z : (60 : Int) < d.size := by omega
  go_enter Tryd.func18, Tryd.ntmps18
  go_wp2
  go_ret
  exact ⟨rfl, bA⟩
set_option maxRecDepth 100000 in
theorem pluralOf_big (lang : ByteArray) (n : Bool) (d : ByteArray) (k : Int) (w : World) (hk0 : -9223372036854775808 ≤ k) (hk1 : k ≤ 9223372036854775807) (hs : d.size ≤ 9223372036854775807) (h2 : 60 < d.size) (hT : Asc w) :
    Calls Tryd.prog 3 #[.string lang, decV n d k] w fun e w' => e = .returned (.bool true) ∧ Below w.heap.size w w' := by
  have cR := fun W => lright_big n d k W hk0 hk1 hs h2
  have cH := fun W h => head4_any W h
  unfold decV at *
  have bA := (Below.refl w.heap.size w).alloc (Nat.le_refl _) (.cells #[.bool n, .string d, .int .i64 k] 23)
  have hA := ascTab hT bA
  have hh := heap_alloc_new w (.cells #[.bool n, .string d, .int .i64 k] 23)
  have q0 := (Lib.cell_of_heap hh 0).trans (by rfl : _ = some (Value.bool n))
  have q1 := (Lib.cell_of_heap hh 1).trans (by rfl : _ = some (Value.string d))
  have q2 := (Lib.cell_of_heap hh 2).trans (by rfl : _ = some (Value.int .i64 k))
  clear hs h2 hk0 hk1 hh
  go_enter Tryd.func3, Tryd.ntmps3
  go_wp2_with (first
    | (go_at_call 17; ((with_reducible refine (cH _ hA).mono ?_); rintro e W1 ⟨rfl, b1⟩; have n0 := below_cellOf b1 (Nat.le_refl _) q0; have n1 := below_cellOf b1 (Nat.le_refl _) q1; have n2 := below_cellOf b1 (Nat.le_refl _) q2))
    | (go_at_call 18; ((with_reducible refine (cR _).mono ?_); rintro e W2 ⟨rfl, b2⟩)))
  go_ret
  exact ⟨rfl, below_step (below_step bA b1 (by simp)) b2 (by have := b1.size; simp at this; omega)⟩
theorem pluralOf_any (lang : ByteArray) (n : Bool) (d : ByteArray) (k : Int) (w : World) (hk0 : -9223372036854775808 ≤ k) (hk1 : k ≤ 9223372036854775807) (hs : d.size ≤ 9223372036854775807) (hT : Asc w) :
    Calls Tryd.prog 3 #[.string lang, .agg #[.bool n, .string d, .int .i64 k]] w fun e w' => e = .returned (.bool true) ∧ Below w.heap.size w w' := by
  by_cases h : d.size ≤ 4611686018427387904
  · exact H.pluralOf_walk lang n d k w hk0 hk1 h hT
  · exact pluralOf_big lang n d k w hk0 hk1 hs (by omega) hT
end Go.Proofs.YtonjkoeacedaiaaDoor
