/- Walks of plural.rules, plural.Of, plural.Rank, Category.Word. -/
import Derived.Test.YtonjkoeacedaiaaDoorDlangs
namespace Go.Proofs.YtonjkoeacedaiaaDoor
open Go.RowKit
set_option linter.unusedVariables false
set_option linter.unusedSimpArgs false
attribute [local go_sem ↓] Go.wp_at_zero Go.wp_at_succ

def rulesCells : Array Value := #[.string ⟨#[101, 110, 32, 100, 101, 32, 110, 108, 32, 115, 118]⟩, .func (.func 78) #[] #[], .string ⟨#[102, 114]⟩, .func (.func 79) #[] #[],
  .string ⟨#[101, 115]⟩, .func (.func 80) #[] #[], .string ⟨#[112, 108]⟩, .func (.func 81) #[] #[], .string ⟨#[114, 117]⟩, .func (.func 82) #[] #[],
  .string ⟨#[99, 115]⟩, .func (.func 83) #[] #[], .string ⟨#[97, 114]⟩, .func (.func 84) #[] #[]]
theorem rules_any (w : World) : Calls Tryd.prog 51 #[] w fun e w' => e = .returned (.slice (some ⟨w.heap.size, 0, none⟩) 7 7) ∧ w' = w.alloc (.cells rulesCells 86) := by
  go_enter Tryd.func51, Tryd.ntmps51
  go_wp2
  go_ret
  exact ⟨rfl, rfl⟩
def wordL (c : Int) : List UInt8 := if c = 0 then [111, 116, 104, 101, 114] else if c = 1 then [122, 101, 114, 111] else if c = 2 then [111, 110, 101] else if c = 3 then [116, 119, 111] else if c = 4 then [102, 101, 119] else if c = 5 then [109, 97, 110, 121] else []
theorem word_any (c : Int) (w : World) : Calls Tryd.prog 23 #[.int .i64 c] w fun e w' => e = .returned (.string ⟨(wordL c).toArray⟩) ∧ Below w.heap.size w w' := by
  by_cases h0 : 0 ≤ c
  · by_cases h5 : c ≤ 5
    · rcases (show c = 0 ∨ c = 1 ∨ c = 2 ∨ c = 3 ∨ c = 4 ∨ c = 5 by omega) with rfl | rfl | rfl | rfl | rfl | rfl
      all_goals
        go_enter Tryd.func23, Tryd.ntmps23
        go_wp2
        go_ret
        exact ⟨rfl, (Below.refl _ _).alloc (Nat.le_refl _) _⟩
    · have e : wordL c = [] := by unfold wordL; repeat' rw [if_neg (by omega)]
      rw [e]
      go_enter Tryd.func23, Tryd.ntmps23
      go_wp2
      go_ret
      exact ⟨rfl, (Below.refl _ _).alloc (Nat.le_refl _) _⟩
  · have e : wordL c = [] := by unfold wordL; repeat' rw [if_neg (by omega)]
    rw [e]
    go_enter Tryd.func23, Tryd.ntmps23
    go_wp2
    go_ret
    exact ⟨rfl, (Below.refl _ _).alloc (Nat.le_refl _) _⟩

/-! ### Of -/
def mkB (l : List UInt8) : ByteArray := ⟨l.toArray⟩
theorem fields_c (s : ByteArray) (W : World) (hs : s.size < 100) (ha : ∀ b ∈ s.data.toList, b.toNat < 128) (hT : Lib.TabIs Tryd.prog W "strings.asciiSpace" .u8 Lib.asciiSpaceTab) :
    Calls Tryd.prog 53 #[.string s] W fun e w' => e = .returned (.slice (some ⟨W.heap.size, 0, none⟩) (Lib.fields s.data.toList).length (Lib.fields s.data.toList).length) ∧ w' = W.alloc (.cells ((Lib.fields s.data.toList).map fun l => Value.string ⟨l.toArray⟩).toArray 9) :=
  Tryd.strings_Fields s W (by omega) (fun j b h => ha b (List.mem_of_getElem? h)) hT
theorem contains_c (F : List (List UInt8)) (lang : ByteArray) (W : World) (hF : 0 < F.length) (hF2 : F.length < 1000) :
    Calls Tryd.prog 52 #[.slice (some ⟨W.heap.size, 0, none⟩) F.length F.length, .string lang] (W.alloc (.cells (F.map fun l => Value.string ⟨l.toArray⟩).toArray 9)) fun e w' => e = .returned (.bool (Lib.containsS (F.map mkB) lang)) ∧ w' = W.alloc (.cells (F.map fun l => Value.string ⟨l.toArray⟩).toArray 9) := by
  have := Tryd.slices_Contains_string W.heap.size 0 F.length F.length (F.map mkB) lang (W.alloc (.cells (F.map fun l => Value.string ⟨l.toArray⟩).toArray 9)) (by simp) (by omega) (fun j hj => by
    rw [List.length_map] at hj
    rw [Nat.zero_add, Lib.cell_of_heap (heap_alloc_new W _)]
    simp [hj, List.getD_eq_getElem?_getD]
    rfl)
  rw [List.take_of_length_le (by simp)] at this
  exact this
theorem contains_h (F : List (List UInt8)) (lang : ByteArray) (W : World) (H : Nat) (hH : W.heap.size = H) (hF : 0 < F.length) (hF2 : F.length < 1000) :
    Calls Tryd.prog 52 #[.slice (some ⟨H, 0, none⟩) F.length F.length, .string lang] (W.alloc (.cells (F.map fun l => Value.string ⟨l.toArray⟩).toArray 9)) fun e w' => e = .returned (.bool (Lib.containsS (F.map mkB) lang)) ∧ w' = W.alloc (.cells (F.map fun l => Value.string ⟨l.toArray⟩).toArray 9) := by
  subst hH; exact contains_c F lang W hF hF2
/-- The first rule that names the language. -/
def pick (lang : ByteArray) : List (List (List UInt8) × Int) → Int
  | [] => 0
  | (F, c) :: r => if Lib.containsS (F.map mkB) lang then c else pick lang r
def langsL : List (List UInt8) := [[101, 110, 32, 100, 101, 32, 110, 108, 32, 115, 118], [102, 114], [101, 115], [112, 108], [114, 117], [99, 115], [97, 114]]
def table (L : List UInt8) (v : Int) (b : Bool) : List (List (List UInt8) × Int) := (langsL.map Lib.fields).zip [enC L v, frC L, esC L b, polC L v, rusC L v, czeC L v, araC L b]
end Go.Proofs.YtonjkoeacedaiaaDoor
