/- The walk of the statements' head: true. -/
import Derived.Test.YtaijjabbkmdcdaaDoorTsigns
import Derived.Lib.SlBytesConst
namespace Go.Proofs.YtaijjabbkmdcdaaDoor
open Go.RowKit
set_option linter.unusedVariables false
set_option linter.unusedSimpArgs false

theorem head_uq : uqVal (uq [34, 97, 92, 117, 48, 48, 101, 57, 34, 98]) = .tuple #[.string ⟨#[97, 195, 169]⟩, .int .i64 9, .bool true] := by
  have : uq [34, 97, 92, 117, 48, 48, 101, 57, 34, 98] = some ([97, 195, 169], 9) := by decide +kernel
  rw [this]; rfl
theorem head_q : quoteL [10] = [34, 92, 117, 48, 48, 48, 65, 34] := by decide +kernel
theorem head_d : Tx.dec [97, 13, 10, 255] = [97, 10, 239, 191, 189] := by decide +kernel

set_option maxRecDepth 100000 in
set_option maxHeartbeats 4000000 in
theorem head_any (w : World) (hT : Tabs w) :
    Calls Tryd.prog 8 #[] w fun e w' => e = .returned (.bool true) ∧ Below w.heap.size w w' := by
  have cU : ∀ w, Tabs w → Calls Tryd.prog 12 #[.string ⟨#[34, 97, 92, 117, 48, 48, 101, 57, 34, 98]⟩] w fun e w' => e = .returned (.tuple #[.string ⟨#[97, 195, 169]⟩, .int .i64 9, .bool true]) ∧ Below w.heap.size w w' := by
    intro w hT
    have := unquote_any ⟨#[34, 97, 92, 117, 48, 48, 101, 57, 34, 98]⟩ w (by decide) hT
    rw [← head_uq]
    exact this
  have cQ : ∀ w, Calls Tryd.prog 14 #[.string ⟨#[10]⟩] w fun e w' => e = .returned (.string ⟨#[34, 92, 117, 48, 48, 48, 65, 34]⟩) ∧ Below w.heap.size w w' := by
    intro w
    have := quote_any ⟨#[10]⟩ w (by decide)
    rw [show quoteL (⟨#[10]⟩ : ByteArray).data.toList = [34, 92, 117, 48, 48, 48, 65, 34] from head_q] at this
    exact this
  have cD : ∀ w, Tabs w → Calls Tryd.prog 10 #[.slice (some ⟨w.heap.size, 0, none⟩) 4 4] (w.alloc (.cells #[.int .u8 97, .int .u8 13, .int .u8 10, .int .u8 255] 5 (4, 5))) fun e w' => e = .returned (.string ⟨#[97, 10, 239, 191, 189]⟩) ∧ Below w.heap.size w w' := by
    intro w hT
    have := decode_any ⟨#[97, 13, 10, 255]⟩ (some ⟨w.heap.size, 0, none⟩) 4 (w.alloc (.cells #[.int .u8 97, .int .u8 13, .int .u8 10, .int .u8 255] 5 (4, 5))) (by decide) (by decide) (fun _ => ⟨_, _, rfl, fun j hj => by
      have hj4 : j < 4 := hj
      rcases (show j = 0 ∨ j = 1 ∨ j = 2 ∨ j = 3 by omega) with rfl | rfl | rfl | rfl
      all_goals (rw [Lib.cell_of_heap (heap_alloc_new w _)]; rfl)⟩) (Utf8Tabs_below hT ((Below.refl _ _).alloc (Nat.le_refl _) _))
    rw [show Tx.dec (⟨#[97, 13, 10, 255]⟩ : ByteArray).data.toList = [97, 10, 239, 191, 189] from head_d] at this
    exact this.mono fun e w' ⟨h1, h2⟩ => ⟨h1, ((Below.refl _ _).alloc (Nat.le_refl _) _).trans (h2.mono (by simp))⟩
  have kc := fun (w : World) (C : Array Value) (n c : Nat) => Lib.run_convert_bytes_const (P := Tryd.prog) w 22 5 C n c Tryd.underlying22 Tryd.underlying5
  go_enter Tryd.func8, Tryd.ntmps8
  go_wp2_with (first
    | (go_at_call 12; refine (cU _ hT).mono ?_; rintro e W1 ⟨rfl, b1⟩; have hT1 := Utf8Tabs_below hT b1; have hs1 := b1.size)
    | (go_at_call 14; refine (cQ _).mono ?_; rintro e W2 ⟨rfl, b2⟩; have hT2 := Utf8Tabs_below hT1 b2; have hs2 := b2.size)
    | (go_at_call 10; refine (cD _ hT2).mono ?_; rintro e W3 ⟨rfl, b3⟩))
  go_ret
  exact ⟨rfl, (b1.trans (b2.mono hs1)).trans (b3.mono (by omega))⟩
end Go.Proofs.YtaijjabbkmdcdaaDoor
