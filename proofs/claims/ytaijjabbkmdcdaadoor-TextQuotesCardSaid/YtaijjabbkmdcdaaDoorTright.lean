/- The walk of text.Right. -/
import Derived.Test.YtaijjabbkmdcdaaDoorTquote
namespace Go.Proofs.YtaijjabbkmdcdaaDoor
open Go.RowKit
set_option linter.unusedVariables false
set_option linter.unusedSimpArgs false

theorem utf8_valid (s : ByteArray) (w : World) (hs : s.size ≤ 9223372036854775807) (hT : Tabs w) :
    Calls Tryd.prog 27 #[.string s] w fun e w' => e = .returned (.bool (Lib.validD s.data.toList)) ∧ Below w.heap.size w w' := Any.utf8_ValidString Tryd.laysx196 s w hs hT

theorem byte_in : ∀ (l : List UInt8) (c : UInt8), decide (0 ≤ Lib.indexByte l c) = l.contains c := by
  intro l c
  induction l with
  | nil => rfl
  | cons b l ih =>
    unfold Lib.indexByte
    rw [List.contains_cons]
    have hg := Lib.indexByte_ge l c
    by_cases hb : b = c
    · subst hb; simp
    · have h1 : (b == c) = false := by simpa using hb
      have h2 : (c == b) = false := by simpa using fun h => hb h.symm
      rw [h1, h2, ← ih]
      simp only [Bool.false_eq_true, if_false, Bool.false_or]
      by_cases hm : Lib.indexByte l c = -1
      · rw [hm]; rfl
      · rw [if_neg (by simpa using hm)]
        rw [decide_eq_decide]; omega
def rightB (l : List UInt8) : Bool := Lib.validD l && !l.contains 13

theorem right_any (s : ByteArray) (w : World) (hs : s.size < 35184372088832) (hT : Tabs w) :
    Calls Tryd.prog 15 #[.string s] w fun e w' => e = .returned (.bool (rightB s.data.toList)) ∧ Below w.heap.size w w' := by
  have cV := utf8_valid s w (by omega) hT
  have cC := fun w => Tryd.strings_Contains_one s 13 w
  rw [byte_in] at cC
  unfold rightB
  cases hv : Lib.validD s.data.toList with
  | true =>
    rw [hv] at cV
    cases hc : s.data.toList.contains 13 with
    | true =>
      rw [hc] at cC
      clear hv hc
      go_enter Tryd.func15, Tryd.ntmps15
      go_wp2_with (first
        | (go_at_call 27; refine cV.mono ?_; rintro e W1 ⟨rfl, b1⟩)
        | (go_at_call 28; refine (cC _).mono ?_; rintro e W2 ⟨rfl, rfl⟩))
      go_ret
      exact ⟨rfl, b1⟩
    | false =>
      rw [hc] at cC
      clear hv hc
      go_enter Tryd.func15, Tryd.ntmps15
      go_wp2_with (first
        | (go_at_call 27; refine cV.mono ?_; rintro e W1 ⟨rfl, b1⟩)
        | (go_at_call 28; refine (cC _).mono ?_; rintro e W2 ⟨rfl, rfl⟩))
      go_ret
      exact ⟨rfl, b1⟩
  | false =>
    rw [hv] at cV
    clear hv
    go_enter Tryd.func15, Tryd.ntmps15
    go_wp2_with (first
        | (go_at_call 27; refine cV.mono ?_; rintro e W1 ⟨rfl, b1⟩))
    go_ret
    exact ⟨rfl, b1⟩
end Go.Proofs.YtaijjabbkmdcdaaDoor
