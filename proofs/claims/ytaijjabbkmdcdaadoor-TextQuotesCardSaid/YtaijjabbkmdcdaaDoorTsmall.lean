/- Walks of text.hex, text.code: what they compute. -/
import Derived.Test.YtaijjabbkmdcdaaDoorTbuilder
import Derived.Test.YtaijjabbkmdcdaaDoorTpure
import Derived.IntWalk
import Derived.Lib.Hide
import Derived.Outline
import Derived.Deep.LoopGhost
namespace Go.Proofs.YtaijjabbkmdcdaaDoor
open Go.RowKit
set_option linter.unusedVariables false
set_option linter.unusedSimpArgs false

/-- text.hex. -/
def hexZ (c : Int) : Int := if 48 ≤ c ∧ c ≤ 57 then c - 48 else if 97 ≤ c ∧ c ≤ 102 then c - 97 + 10 else if 65 ≤ c ∧ c ≤ 70 then c - 65 + 10 else -1
theorem hexZ_bd (c : Int) : -1 ≤ hexZ c ∧ hexZ c ≤ 15 := by unfold hexZ; repeat' split
                                                            all_goals omega
theorem ret_int {k : IntKind} {a b : Int} (h : a = b) : Ending.returned (.int k a) = .returned (.int k b) := by rw [h]

theorem hex_any (c : Int) (h0 : 0 ≤ c) (h1 : c < 256) (w : World) : Calls Tryd.prog 32 #[.int .u8 c] w fun e w' => e = .returned (.int .i64 (hexZ c)) ∧ w' = w := by
  unfold hexZ
  by_cases a : 48 ≤ c
  · by_cases b : c ≤ 57
    · rw [if_pos ⟨a, b⟩]
      go_enter Tryd.func32, Tryd.ntmps32
      go_wp2
      go_ret
      exact ⟨rfl, rfl⟩
    · rw [if_neg (by omega)]
      by_cases a1 : 97 ≤ c
      · by_cases b1 : c ≤ 102
        · rw [if_pos ⟨a1, b1⟩]
          go_enter Tryd.func32, Tryd.ntmps32
          go_wp2
          go_ret
          exact ⟨rfl, rfl⟩
        · rw [if_neg (by omega), if_neg (by omega)]
          have b2 : ¬ c ≤ 70 := by omega
          have a2 : 65 ≤ c := by omega
          go_enter Tryd.func32, Tryd.ntmps32
          go_wp2
          go_ret
          exact ⟨rfl, rfl⟩
      · rw [if_neg (by omega)]
        by_cases a2 : 65 ≤ c
        · by_cases b2 : c ≤ 70
          · rw [if_pos ⟨a2, b2⟩]
            go_enter Tryd.func32, Tryd.ntmps32
            go_wp2
            go_ret
            exact ⟨rfl, rfl⟩
          · rw [if_neg (by omega)]
            go_enter Tryd.func32, Tryd.ntmps32
            go_wp2
            go_ret
            exact ⟨rfl, rfl⟩
        · rw [if_neg (by omega)]
          go_enter Tryd.func32, Tryd.ntmps32
          go_wp2
          go_ret
          exact ⟨rfl, rfl⟩
  · rw [if_neg (by omega), if_neg (by omega), if_neg (by omega)]
    have a1 : ¬ 97 ≤ c := by omega
    have a2 : ¬ 65 ≤ c := by omega
    go_enter Tryd.func32, Tryd.ntmps32
    go_wp2
    go_ret
    exact ⟨rfl, rfl⟩
end Go.Proofs.YtaijjabbkmdcdaaDoor
