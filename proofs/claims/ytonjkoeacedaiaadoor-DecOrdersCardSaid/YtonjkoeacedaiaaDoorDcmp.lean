/- cmp.Compare of two strings, in the print's form. -/
import Derived.Test.YtonjkoeacedaiaaDoorDgiven
import Derived.Laws.Cover1
namespace Go.Proofs.YtonjkoeacedaiaaDoor.G
open Go.RowKit Go.Proofs.YtonjkoeacedaiaaDoorW.PrintWords
set_option linter.unusedVariables false
set_option linter.unusedSimpArgs false

theorem isNaN_str (s : ByteArray) (w : World) : Calls Tryd.prog 109 #[.string s] w fun e w' => e = .returned (.bool false) ∧ w = w' := by
  go_enter Tryd.func109, Tryd.ntmps109
  go_wp2
  go_ret
  exact ⟨by simp, rfl⟩
def cmpS (a b : List UInt8) : Int := if Op.bytesLess a b = true then -1 else if (a == b) = true then 0 else 1
theorem cmp_str (a b : ByteArray) (w : World) : Calls Tryd.prog 73 #[.string a, .string b] w fun e w' => e = .returned (.int .i64 (cmpS a.toList b.toList)) ∧ w = w' := by
  unfold cmpS
  have cN := isNaN_str
  by_cases h1 : Op.bytesLess a.toList b.toList = true
  · rw [if_pos h1]
    go_enter Tryd.func73, Tryd.ntmps73
    go_wp2_with (go_at_call 109; refine (cN _ _).mono ?_; rintro e w' ⟨rfl, rfl⟩)
    go_ret
    exact ⟨rfl, rfl⟩
  · have h1 : Op.bytesLess a.toList b.toList = false := by simpa using h1
    rw [if_neg (by rw [h1]; decide)]
    by_cases h2 : (a.toList == b.toList) = true
    · rw [if_pos h2]
      go_enter Tryd.func73, Tryd.ntmps73
      go_wp2_with (go_at_call 109; refine (cN _ _).mono ?_; rintro e w' ⟨rfl, rfl⟩)
      go_ret
      exact ⟨rfl, rfl⟩
    · have h2 : (a.toList == b.toList) = false := Bool.eq_false_iff.mpr h2
      rw [if_neg (by rw [h2]; decide)]
      go_enter Tryd.func73, Tryd.ntmps73
      go_wp2_with (go_at_call 109; refine (cN _ _).mono ?_; rintro e w' ⟨rfl, rfl⟩)
      go_ret
      exact ⟨rfl, rfl⟩
def cmp_Compare_string.f (a b : ByteArray) : Option Int := some (cmpS a.toList b.toList)
theorem cmp_Compare_string.calls (a b : ByteArray) (r : Int) (w : World) (h : cmp_Compare_string.f a b = some r) :
    Calls Tryd.prog 73 #[.string a, .string b] w fun e w' => e = .returned (.int .i64 r) ∧ Drawn0 w w' := by
  obtain rfl := Option.some.inj h
  exact (cmp_str a b w).mono fun e w' ⟨he, hw⟩ => ⟨he, by subst hw; exact Drawn0.refl _⟩
def cmp_Compare_int.f (a b : Int) : Option Int := some (Lib.compareInt a b)
theorem cmp_Compare_int.calls (a b r : Int) (w : World) (h : cmp_Compare_int.f a b = some r) :
    Calls Tryd.prog 112 #[.int .i64 a, .int .i64 b] w fun e w' => e = .returned (.int .i64 r) ∧ Drawn0 w w' := by
  obtain rfl := Option.some.inj h
  exact (Tryd.cmp_Compare_int a b w).mono fun e w' ⟨he, hw⟩ => ⟨he, by subst hw; exact Drawn0.refl _⟩
end Go.Proofs.YtonjkoeacedaiaaDoor.G
