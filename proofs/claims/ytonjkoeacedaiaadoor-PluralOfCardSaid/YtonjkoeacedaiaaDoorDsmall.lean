/- Walks of dec's small functions: Whole, Part, Zero. -/
import Derived.Test.YtonjkoeacedaiaaDoorShelf
import Derived.IntWalk
import Derived.Lib.Hide
import Derived.Outline
import Derived.Deep.LoopGhost
namespace Go.Proofs.YtonjkoeacedaiaaDoor
open Go.RowKit
set_option linter.unusedVariables false
set_option linter.unusedSimpArgs false

/-- A number's value. -/
def decV (n : Bool) (d : ByteArray) (k : Int) : Value := .agg #[.bool n, .string d, .int .i64 k]
theorem take_max (x y : Nat) (h : y ≤ x) : ((x : Int) - y).toNat = x - y := by omega

theorem whole_any (n : Bool) (d : ByteArray) (k : Nat) (w : World) (hk : k ≤ d.size) (hs : d.size ≤ 4611686018427387904) :
    Calls Tryd.prog 30 #[decV n d k] w fun e w' => e = .returned (.string (d.extract 0 (d.size - k))) ∧ Below w.heap.size w w' := by
  unfold decV
  have bA := (Below.refl w.heap.size w).alloc (Nat.le_refl _) (.cells #[.bool n, .string d, .int .i64 k] 23)
  have h1 : ((d.size : Int) - k).toNat = d.size - k := by omega
  go_enter Tryd.func30, Tryd.ntmps30
  go_wp2
  go_ret
  exact ⟨rfl, bA⟩
theorem whole_at (n : Bool) (d : ByteArray) (k : Nat) (w : World) (hk : k ≤ d.size) (hs : d.size ≤ 4611686018427387904) :
    Calls Tryd.prog 30 #[decV n d k] w fun e w' => e = .returned (.string (d.extract 0 (d.size - k))) ∧ w' = w.alloc (.cells #[.bool n, .string d, .int .i64 k] 23) := by
  unfold decV
  have h1 : ((d.size : Int) - k).toNat = d.size - k := by omega
  go_enter Tryd.func30, Tryd.ntmps30
  go_wp2
  go_ret
  exact ⟨rfl, rfl⟩
theorem part_at (n : Bool) (d : ByteArray) (k : Nat) (w : World) (hk : k ≤ d.size) (hs : d.size ≤ 4611686018427387904) :
    Calls Tryd.prog 31 #[decV n d k] w fun e w' => e = .returned (.string (d.extract (d.size - k) d.size)) ∧ w' = w.alloc (.cells #[.bool n, .string d, .int .i64 k] 23) := by
  unfold decV
  have h1 : ((d.size : Int) - k).toNat = d.size - k := by omega
  go_enter Tryd.func31, Tryd.ntmps31
  go_wp2
  go_ret
  exact ⟨rfl, rfl⟩
theorem part_any (n : Bool) (d : ByteArray) (k : Nat) (w : World) (hk : k ≤ d.size) (hs : d.size ≤ 4611686018427387904) :
    Calls Tryd.prog 31 #[decV n d k] w fun e w' => e = .returned (.string (d.extract (d.size - k) d.size)) ∧ Below w.heap.size w w' := by
  unfold decV
  have bA := (Below.refl w.heap.size w).alloc (Nat.le_refl _) (.cells #[.bool n, .string d, .int .i64 k] 23)
  have h1 : ((d.size : Int) - k).toNat = d.size - k := by omega
  go_enter Tryd.func31, Tryd.ntmps31
  go_wp2
  go_ret
  exact ⟨rfl, bA⟩

/-! ### the library's, as they are used here -/
theorem trim0 (d : ByteArray) (w : World) (hs : d.size ≤ 4611686018427387904) :
    Calls Tryd.prog 65 #[.string d, .string ⟨#[48]⟩] w fun e w' => e = .returned (.string ⟨(Lib.trimB d.data.toList 48).toArray⟩) ∧ Below w.heap.size w w' :=
  (Tryd.strings_Trim_one d 48 (by decide) w (by omega)).mono fun e w' ⟨he, hw⟩ => ⟨he, by rcases hw with rfl | rfl; exact Below.refl _ _; exact (Below.refl _ _).drew⟩
theorem trimL0 (d : ByteArray) (w : World) :
    Calls Tryd.prog 88 #[.string d, .string ⟨#[48]⟩] w fun e w' => e = .returned (.string ⟨(Lib.trimLeftB d.data.toList 48).toArray⟩) ∧ Below w.heap.size w w' :=
  (Tryd.strings_TrimLeft_one d 48 (by decide) w).mono fun e w' ⟨he, hw⟩ => ⟨he, by subst hw; exact Below.refl _ _⟩

theorem zero_any (n : Bool) (d : ByteArray) (k : Int) (w : World) (hs : d.size ≤ 4611686018427387904) :
    Calls Tryd.prog 32 #[decV n d k] w fun e w' => e = .returned (.bool (Lib.trimB d.data.toList 48).isEmpty) ∧ Below w.heap.size w w' := by
  unfold decV
  have bA := (Below.refl w.heap.size w).alloc (Nat.le_refl _) (.cells #[.bool n, .string d, .int .i64 k] 23)
  have hsz := bA.size
  obtain ⟨L, hL⟩ : ∃ L, Lib.trimB d.data.toList 48 = L := ⟨_, rfl⟩
  have cT := fun w => trim0 d w hs
  rw [hL] at cT ⊢
  clear hL
  go_enter Tryd.func32, Tryd.ntmps32
  go_wp2_with (go_at_call 65; refine (cT _).mono ?_; rintro e W1 ⟨rfl, b1⟩)
  go_ret
  exact ⟨rfl, bA.trans (b1.mono hsz)⟩
end Go.Proofs.YtonjkoeacedaiaaDoor
