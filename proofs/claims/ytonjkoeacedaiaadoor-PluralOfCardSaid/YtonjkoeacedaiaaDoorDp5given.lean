/- The law's own contracts of layers 2 and 4 in the print's form: parts, Right. -/
import Derived.Test.YtonjkoeacedaiaaDoorDp4given
import Derived.Test.YtonjkoeacedaiaaDoorDparts
namespace Go.Proofs.YtonjkoeacedaiaaDoor.P4
open Go.RowKit Go.Proofs.YtonjkoeacedaiaaDoor Go.Proofs.YtonjkoeacedaiaaDoorW.PrintWords
set_option linter.unusedVariables false
set_option linter.unusedSimpArgs false

def fixOk (d : ByteArray) (k : Int) : Bool := decide (0 ≤ k) && decide (k < d.size) && decide (d.size ≤ 60) && d.data.toList.all fun c => decide (48 ≤ c.toNat) && decide (c.toNat ≤ 57)
theorem fixOk_at {d : ByteArray} {k : Int} (h : fixOk d k = true) : ∃ n : Nat, k = n ∧ n < d.size ∧ d.size ≤ 60 ∧ ∀ c ∈ d.data.toList, 48 ≤ c.toNat ∧ c.toNat ≤ 57 := by
  obtain ⟨⟨⟨h0, h1⟩, h2⟩, h3⟩ : ((0 ≤ k ∧ k < d.size) ∧ d.size ≤ 60) ∧ (d.data.toList.all fun c => decide (48 ≤ c.toNat) && decide (c.toNat ≤ 57)) = true := by simpa [fixOk] using h
  obtain ⟨n, rfl⟩ := Int.eq_ofNat_of_zero_le h0
  refine ⟨n, rfl, by omega, h2, fun c hc => ?_⟩
  have := List.all_eq_true.1 h3 c hc
  simpa using this
def polyglotlaw04_parts.f (n : Bool) (d : ByteArray) (k : Int) : Option (Int × Bool × Bool) := if fixOk d k = true then some (10 * fixD d.data.toList (d.size - k.toNat) d.size 98 + fixD d.data.toList (d.size - k.toNat) d.size 99, moreB (fixD d.data.toList (d.size - k.toNat) d.size) 200, wholeB (fixD d.data.toList (d.size - k.toNat) d.size) 200) else none
theorem polyglotlaw04_parts.calls (n : Bool) (d : ByteArray) (k : Int) (r0 : Int) (r1 r2 : Bool) (w : World) (h : polyglotlaw04_parts.f n d k = some (r0, r1, r2)) :
    Calls Tryd.prog 55 #[.agg #[.bool n, .string d, .int .i64 k]] w fun e w' => e = .returned (.tuple #[.int .i64 r0, .bool r1, .bool r2]) ∧ Below w.heap.size w w' := by
  unfold polyglotlaw04_parts.f at h
  by_cases hs : fixOk d k = true
  · rw [if_pos hs] at h
    obtain ⟨rfl, h2⟩ := Prod.mk.inj (Option.some.inj h)
    obtain ⟨rfl, rfl⟩ := Prod.mk.inj h2
    obtain ⟨m, rfl, h1, h2, h3⟩ := fixOk_at hs
    rw [Int.toNat_natCast]
    exact parts_any n d m w h1 h2 h3
  · rw [if_neg hs] at h
    exact absurd h (by simp)
def polyglotlaw02_Right.f (n : Bool) (d : ByteArray) (k : Int) : Option Bool := if -9223372036854775808 ≤ k ∧ k ≤ 9223372036854775807 ∧ d.size ≤ 4611686018427387904 then some (rightC d k) else none
theorem polyglotlaw02_Right.calls (n : Bool) (d : ByteArray) (k : Int) (r : Bool) (w : World) (h : polyglotlaw02_Right.f n d k = some r) :
    Calls Tryd.prog 18 #[.agg #[.bool n, .string d, .int .i64 k]] w fun e w' => e = .returned (.bool r) ∧ Below w.heap.size w w' := by
  unfold polyglotlaw02_Right.f at h
  by_cases hs : -9223372036854775808 ≤ k ∧ k ≤ 9223372036854775807 ∧ d.size ≤ 4611686018427387904
  · rw [if_pos hs] at h
    obtain rfl := Option.some.inj h
    exact lright_any n d k w hs.1 hs.2.1 hs.2.2
  · rw [if_neg hs] at h
    exact absurd h (by simp)
end Go.Proofs.YtonjkoeacedaiaaDoor.P4
