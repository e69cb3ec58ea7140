/- The walk of TextUnquotes: it returns true. -/
import Derived.Test.YtaijjabbkmdcdaaDoorTlawJoin
import Derived.Test.YtaijjabbkmdcdaaDoorTpunq
namespace Go.Proofs.YtaijjabbkmdcdaaDoor
open Go.RowKit
set_option linter.unusedVariables false
set_option linter.unusedSimpArgs false

set_option maxRecDepth 100000 in
set_option maxHeartbeats 4000000 in
theorem unquotes_walk (s : ByteArray) (w : World) (hm : s.size ≤ 9223372036854775807) (hT : Tabs w) :
    Calls Tryd.prog 4 #[.string s] w fun e w' => e = .returned (.bool true) ∧ Below w.heap.size w w' := by
  have hG := Good.start hT
  have cH := hG.calls (head_any w hT)
  by_cases h300 : s.size > 300
  · have hz : (s.size : Int) > 300 := by omega
    go_enter Tryd.func4, Tryd.ntmps4
    go_wp2_with (go_at_call 8; refine cH.mono ?_; rintro e W1 ⟨rfl, hG1⟩)
    go_ret
    exact ⟨rfl, hG1.2⟩
  have hz : ¬ (s.size : Int) > 300 := by omega
  have cS : ∀ W, Good w W → Calls Tryd.prog 11 #[.string s] W fun e w' => ∃ v, e = .returned (.tuple #[v, .bool (Tx.sig s.data.toList).isSome]) ∧ Good w w' := fun W h =>
    (signs_any s W (by omega) h.1).mono fun e w' ⟨v, he, _, hb⟩ => ⟨v, he, h.step hb⟩
  cases hsg : Tx.sig s.data.toList with
  | none =>
    rw [hsg] at cS
    clear hsg
    go_enter Tryd.func4, Tryd.ntmps4
    go_wp2_with (first
      | (go_at_call 8; refine cH.mono ?_; rintro e W1 ⟨rfl, hG1⟩)
      | (go_at_call 11; refine (cS _ (by assumption)).mono ?_; rintro e W1 ⟨v, rfl, hG1⟩))
    go_ret
    exact ⟨rfl, hG1.2⟩
  | some L =>
    rw [hsg] at cS
    have hlaw := unquote_law _ _ hsg
    have cA : ∀ W, Good w W → Calls Tryd.prog 12 #[.string s] W fun e w' => e = .returned (uqVal (rq L)) ∧ Good w w' := fun W h => by
      have := unquote_any s W (by omega) h.1
      rw [hlaw] at this
      exact h.calls this
    have cB : ∀ W, Good w W → Calls Tryd.prog 13 #[.string s] W fun e w' => e = .returned (uqVal (rq L)) ∧ Good w w' := fun W h => by
      have := runquote_any s W (by omega) h.1
      rw [hsg] at this
      exact h.calls this
    obtain ⟨R, hR⟩ : ∃ R, rq L = R := ⟨_, rfl⟩
    rw [hR] at cA cB
    clear hR hlaw hsg
    cases R with
    | none =>
      simp only [uqVal] at cA cB
      go_enter Tryd.func4, Tryd.ntmps4
      go_wp2_with (first
        | (go_at_call 8; refine cH.mono ?_; rintro e W1 ⟨rfl, hG1⟩)
        | (go_at_call 11; refine (cS _ (by assumption)).mono ?_; rintro e W1 ⟨v, rfl, hG1⟩)
        | (go_at_call 12; refine (cA _ (by assumption)).mono ?_; rintro e W1 ⟨rfl, hG1⟩)
        | (go_at_call 13; refine (cB _ (by assumption)).mono ?_; rintro e W1 ⟨rfl, hG1⟩))
      go_ret
      exact ⟨rfl, hG1.2⟩
    | some ak =>
      obtain ⟨a, k⟩ := ak
      simp only [uqVal] at cA cB
      go_enter Tryd.func4, Tryd.ntmps4
      go_wp2_with (first
        | (go_at_call 8; refine cH.mono ?_; rintro e W1 ⟨rfl, hG1⟩)
        | (go_at_call 11; refine (cS _ (by assumption)).mono ?_; rintro e W1 ⟨v, rfl, hG1⟩)
        | (go_at_call 12; refine (cA _ (by assumption)).mono ?_; rintro e W1 ⟨rfl, hG1⟩)
        | (go_at_call 13; refine (cB _ (by assumption)).mono ?_; rintro e W1 ⟨rfl, hG1⟩))
      go_ret
      exact ⟨rfl, hG1.2⟩
end Go.Proofs.YtaijjabbkmdcdaaDoor
