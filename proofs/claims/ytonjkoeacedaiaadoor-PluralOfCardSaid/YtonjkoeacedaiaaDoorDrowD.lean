/- What layer 4's rows with numbers (dec.Dec by value) have besides. -/
import Derived.Test.YtonjkoeacedaiaaDoorDrow
import Derived.Lib.SmallJoins
namespace Go.Proofs.YtonjkoeacedaiaaDoor
open Go.ChangeShapes Go.WideShapes Go.ChangeAt Go.RowKit Go.Joins
set_option linter.unusedVariables false

theorem dec_cells4 : Tryd.prog.cellsOf 23 = 3 := by kernel_rfl
theorem i64_wf4 {n : Int} (h : (Lit.int .i64 n).wf = true) : -9223372036854775808 ≤ n ∧ n ≤ 9223372036854775807 := by
  have h2 : IntKind.i64.min ≤ n ∧ n ≤ IntKind.i64.max := by simpa [Lit.wf, IntKind.has] using h
  exact h2
set_option maxRecDepth 100000 in
/-- A number by value, opened. -/
theorem open_dec4 {H : Type} {enc : TypeId × Value → H} {w : World} {base : Nat} {spare : Nat → Bool} {held : Bool} {r : Reach} {b0 : Nat} {v : Value} {d : DataW H} {p : List MemPlace}
    (hv : Value.okWide Tryd.prog w r b0 23 v) (h : DataW.Trod enc Tryd.prog w base spare held 23 v d p) :
    ∃ (n : Bool) (s : ByteArray) (k : Int), v = .agg #[.bool n, .string s, .int .i64 k] ∧ d = .agg [.lit (.bool n), .lit (.string s.data.toList), .lit (.int .i64 k)] ∧ p = [] ∧ s.size ≤ maxLen ∧ -9223372036854775808 ≤ k ∧ k ≤ 9223372036854775807 := by
  obtain ⟨c0, c1, c2, y0, y1, y2, m, rfl, rfl, rfl, h0, h1, h2⟩ := open_agg3 Tryd.underlying23 (by kernel_rfl) dec_cells4 hv h
  obtain ⟨n, e0, rfl⟩ := DataW.trod_bool Tryd.underlying4 h0
  obtain ⟨s, e1, rfl, hs⟩ := DataW.trod_string Tryd.underlying9 h1
  obtain ⟨k, e2, rfl, hk⟩ := DataW.trod_int Tryd.underlying3 h2
  simp at e0 e1 e2
  subst e0 e1 e2
  exact ⟨n, s, k, rfl, rfl, rfl, hs, i64_wf4 hk⟩
end Go.Proofs.YtonjkoeacedaiaaDoor
