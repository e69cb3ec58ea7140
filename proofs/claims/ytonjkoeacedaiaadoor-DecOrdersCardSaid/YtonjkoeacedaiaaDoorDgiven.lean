/- The library's contracts in the print's form (layers 02, 04): Trim, TrimLeft, Cut, CutPrefix, Repeat, FormatInt. -/
import Derived.Test.YtonjkoeacedaiaaDoorShelf
import Derived.Shelf.Strings.SlTrimAscii
import Derived.Lib.AppendIntMem
import Derived.Test.YtonjkoeacedaiaaDoorWMore
namespace Go.Proofs.YtonjkoeacedaiaaDoor.G
open Go.RowKit Go.Proofs.YtonjkoeacedaiaaDoorW.PrintWords
set_option linter.unusedVariables false

/-- The library's MaxLen is a number. -/
def Tab_ (w : World) : Prop := ∃ m, w.cell? ⟨4, 0, none⟩ = some (.int .i64 m)
theorem Tab_.step {w W : World} (h : Tab_ w) (b : Below w.heap.size w W) : Tab_ W := by
  obtain ⟨m, h⟩ := h
  exact ⟨m, (b.cell (p := ⟨4, 0, none⟩) (World.block_lt_of_cell? _ _ h)).trans h⟩
/-- The table of powers. -/
def TabP_ (w : World) : Prop := Lib.TabIs Tryd.prog w "internal/strconv.uint64pow10" .u64 Lib.pow10Tab

theorem TabP_.step {w W : World} (h : TabP_ w) (b : Below w.heap.size w W) : TabP_ W := by
  have hg : Tryd.prog.globalNamed "internal/strconv.uint64pow10" = some 3 := by kernel_rfl
  unfold TabP_ Lib.TabIs World.var? at h ⊢
  rw [hg, Option.bind_some] at h ⊢
  by_cases hlt : 3 < w.heap.size
  · rw [b.block _ hlt]; exact h
  · rw [Array.getElem?_eq_none (by omega)] at h; cases h

def asciiB (c : ByteArray) : Bool := c.data.toList.all fun b => decide (b.toNat < 128)
theorem ascii_at {c : ByteArray} (h : asciiB c = true) : ∀ (j : Nat) b, c.data.toList[j]? = some b → b.toNat < 128 := fun j b hb => by
  have := List.all_eq_true.1 h b (List.mem_of_getElem? hb)
  simpa using this

def strings_Trim.f (s c : ByteArray) : Option ByteArray := if s.size ≤ 4611686018427387904 ∧ c.size < 1000 ∧ asciiB c = true then some ⟨(Lib.trimS s.data.toList c.data.toList).toArray⟩ else none
theorem strings_Trim.calls (s c r : ByteArray) (w : World) (h : strings_Trim.f s c = some r) :
    Calls Tryd.prog 65 #[.string s, .string c] w fun e w' => e = .returned (.string r) ∧ Below w.heap.size w w' := by
  unfold strings_Trim.f at h
  by_cases hs : s.size ≤ 4611686018427387904 ∧ c.size < 1000 ∧ asciiB c = true
  · rw [if_pos hs] at h
    obtain rfl := Option.some.inj h
    exact Any.strings_Trim_laid Tryd.lays160 (by kernel_rfl) s c w (by omega) (by omega) (ascii_at hs.2.2)
  · rw [if_neg hs] at h
    exact absurd h (by simp)
def strings_TrimLeft.f (s c : ByteArray) : Option ByteArray := if c.size < 1000 ∧ asciiB c = true then some ⟨(Lib.trimLeftS s.data.toList c.data.toList).toArray⟩ else none
theorem strings_TrimLeft.calls (s c r : ByteArray) (w : World) (h : strings_TrimLeft.f s c = some r) :
    Calls Tryd.prog 88 #[.string s, .string c] w fun e w' => e = .returned (.string r) ∧ Below w.heap.size w w' := by
  unfold strings_TrimLeft.f at h
  by_cases hs : c.size < 1000 ∧ asciiB c = true
  · rw [if_pos hs] at h
    obtain rfl := Option.some.inj h
    exact Any.strings_TrimLeft_laid Tryd.lays161 (by kernel_rfl) s c w (by omega) (ascii_at hs.2)
  · rw [if_neg hs] at h
    exact absurd h (by simp)
def strings_Cut.f (s p : ByteArray) : Option (ByteArray × ByteArray × Bool) := if s.size < 4294967281 then some (⟨(Lib.cut s.data.toList p.data.toList).1.toArray⟩, ⟨(Lib.cut s.data.toList p.data.toList).2.1.toArray⟩, (Lib.cut s.data.toList p.data.toList).2.2) else none
theorem strings_Cut.calls (s p r0 r1 : ByteArray) (r2 : Bool) (w : World) (h : strings_Cut.f s p = some (r0, r1, r2)) (HT0_ : Tab_ w := by exact Tab_.step HT0_ (by repeat (first | (with_reducible first | exact HB.out | apply below_alloc | apply pw_below_drewN | apply below_drew1 | refine below_set ?_ (Aside0.out (by assumption))) | exact HB.out))) :
    Calls Tryd.prog 70 #[.string s, .string p] w fun e w' => e = .returned (.tuple #[.string r0, .string r1, .bool r2]) ∧ Below w.heap.size w w' := by
  unfold strings_Cut.f at h
  by_cases hs : s.size < 4294967281
  · rw [if_pos hs] at h
    obtain ⟨rfl, h2⟩ := Prod.mk.inj (Option.some.inj h)
    obtain ⟨rfl, rfl⟩ := Prod.mk.inj h2
    obtain ⟨m, hm⟩ := HT0_
    exact (Tryd.strings_Cut s p m w hs hm).mono fun e w' ⟨he, n, hw⟩ => ⟨he, by subst hw; exact pw_below_drewN (Below.refl _ _) n⟩
  · rw [if_neg hs] at h
    exact absurd h (by simp)
def strings_CutPrefix.f (s p : ByteArray) : Option (ByteArray × Bool) := some (⟨(Lib.trimPrefix s.data.toList p.data.toList).toArray⟩, Lib.hasPrefix s.data.toList p.data.toList)
theorem strings_CutPrefix.calls (s p r0 : ByteArray) (r1 : Bool) (w : World) (h : strings_CutPrefix.f s p = some (r0, r1)) :
    Calls Tryd.prog 69 #[.string s, .string p] w fun e w' => e = .returned (.tuple #[.string r0, .bool r1]) ∧ Below w.heap.size w w' := by
  obtain ⟨rfl, rfl⟩ := Prod.mk.inj (Option.some.inj h)
  exact (Tryd.strings_CutPrefix s p w).mono fun e w' ⟨he, hw⟩ => ⟨he, by subst hw; exact Below.refl _ _⟩
def strings_Repeat.f (s : ByteArray) (n : Int) : Option ByteArray := if 0 ≤ n ∧ n ≤ 9223372036854775807 ∧ s.size * n.toNat ≤ 140737488355328 then some ⟨(Lib.repeatL s.data.toList n.toNat).toArray⟩ else none
theorem strings_Repeat.calls (s : ByteArray) (n : Int) (r : ByteArray) (w : World) (h : strings_Repeat.f s n = some r) :
    Calls Tryd.prog 64 #[.string s, .int .i64 n] w fun e w' => e = .returned (.string r) ∧ Below w.heap.size w w' := by
  unfold strings_Repeat.f at h
  by_cases hs : 0 ≤ n ∧ n ≤ 9223372036854775807 ∧ s.size * n.toNat ≤ 140737488355328
  · rw [if_pos hs] at h
    obtain rfl := Option.some.inj h
    have := Tryd.strings_Repeat s n.toNat w (by omega) hs.2.2
    rw [Int.toNat_of_nonneg hs.1] at this
    exact this
  · rw [if_neg hs] at h
    exact absurd h (by simp)
def strconv_FormatInt.f (n b : Int) : Option ByteArray := if -9223372036854775808 ≤ n ∧ n ≤ 9223372036854775807 ∧ b = 10 then some ⟨(Lib.itoa n).toArray⟩ else none
theorem strconv_FormatInt.calls (n b : Int) (r : ByteArray) (w : World) (h : strconv_FormatInt.f n b = some r) (HP0_ : TabP_ w := by exact TabP_.step HP0_ (by repeat (first | (with_reducible first | exact HB.out | apply below_alloc | apply pw_below_drewN | apply below_drew1 | refine below_set ?_ (Aside0.out (by assumption))) | exact HB.out))) :
    Calls Tryd.prog 49 #[.int .i64 n, .int .i64 b] w fun e w' => e = .returned (.string r) ∧ Below w.heap.size w w' := by
  unfold strconv_FormatInt.f at h
  by_cases hs : -9223372036854775808 ≤ n ∧ n ≤ 9223372036854775807 ∧ b = 10
  · rw [if_pos hs] at h
    obtain rfl := Option.some.inj h
    obtain ⟨h0, h1, rfl⟩ := hs
    exact (Tryd.strconv_FormatInt_10 n h0 h1 w HP0_).mono fun e w' ⟨he, k, os, hw⟩ => ⟨he, by subst hw; exact Lib.below_grow _ w (Nat.le_refl _) k os⟩
  · rw [if_neg hs] at h
    exact absurd h (by simp)
end Go.Proofs.YtonjkoeacedaiaaDoor.G
