/- The walk of dec.Group: digits in groups of three, something between. -/
import Derived.Test.YtonjkoeacedaiaaDoorDgiven
import Derived.Test.YtonjkoeacedaiaaDoorDsmall
import Derived.StillTailTactics
import Derived.Deep.QuietTactic
import Derived.BigQuiet
namespace Go.Proofs.YtonjkoeacedaiaaDoor
open Go.RowKit Go.Proofs.YtonjkoeacedaiaaDoorW.PrintWords
set_option linter.unusedVariables false
set_option linter.unusedSimpArgs false

/-- What stands behind the first digit. -/
def grpR (B : List UInt8) : List UInt8 → List UInt8
  | [] => []
  | c :: t => (if (t.length + 1) % 3 = 0 then B else []) ++ c :: grpR B t
def grp (B : List UInt8) : List UInt8 → List UInt8
  | [] => []
  | c :: t => c :: grpR B t
def restG (B D : List UInt8) (i : Nat) : List UInt8 := if i = 0 then grp B D else grpR B (D.drop i)
theorem restG_zero (B D : List UInt8) (c : UInt8) (h : D[0]? = some c) : restG B D 0 = [c] ++ restG B D (0 + 1) := by
  cases D with
  | nil => simp at h
  | cons a t =>
    have : a = c := by simpa using h
    subst this
    rfl
theorem drop_at' {D : List UInt8} {i : Nat} {c : UInt8} (h : D[i]? = some c) : D.drop i = c :: D.drop (i + 1) := by
  obtain ⟨hl, e⟩ := List.getElem?_eq_some_iff.1 h
  rw [List.drop_eq_getElem_cons hl, e]
theorem restG_yes (B D : List UInt8) (i : Nat) (c : UInt8) (h0 : i ≠ 0) (h : D[i]? = some c) (h3 : (D.length - i) % 3 = 0) : restG B D i = B ++ [c] ++ restG B D (i + 1) := by
  obtain ⟨hl, _⟩ := List.getElem?_eq_some_iff.1 h
  unfold restG
  rw [if_neg h0, if_neg (by omega), drop_at' h]
  rw [show grpR B (c :: D.drop (i + 1)) = (if ((D.drop (i + 1)).length + 1) % 3 = 0 then B else []) ++ c :: grpR B (D.drop (i + 1)) from rfl]
  rw [List.length_drop, if_pos (by omega)]
  simp
theorem restG_no (B D : List UInt8) (i : Nat) (c : UInt8) (h0 : i ≠ 0) (h : D[i]? = some c) (h3 : ¬ (D.length - i) % 3 = 0) : restG B D i = [c] ++ restG B D (i + 1) := by
  obtain ⟨hl, _⟩ := List.getElem?_eq_some_iff.1 h
  unfold restG
  rw [if_neg h0, if_neg (by omega), drop_at' h]
  rw [show grpR B (c :: D.drop (i + 1)) = (if ((D.drop (i + 1)).length + 1) % 3 = 0 then B else []) ++ c :: grpR B (D.drop (i + 1)) from rfl]
  rw [List.length_drop, if_neg (by omega)]
  simp
theorem grpR_len (B : List UInt8) : ∀ L, (grpR B L).length ≤ (B.length + 1) * L.length
  | [] => by simp [grpR]
  | c :: t => by
    have := grpR_len B t
    unfold grpR
    rw [List.length_append, List.length_cons, List.length_cons, Nat.mul_add, Nat.mul_one]
    split <;> simp <;> omega

set_option maxRecDepth 100000 in
set_option maxHeartbeats 4000000 in
theorem group_any (d b : ByteArray) (w : World) (hd : d.size ≤ 1000) (hb : b.size ≤ 1000) :
    Calls Tryd.prog 36 #[.string d, .string b] w fun e w' => e = .returned (.string ⟨(grp b.data.toList d.data.toList).toArray⟩) ∧ Below w.heap.size w w' := by
  have hl : d.data.toList.length = d.size := (Lib.size_eq d).symm
  have hlb : b.data.toList.length = b.size := (Lib.size_eq b).symm
  have hfresh := Lib.fresh_isBuffer 109 5 w
  obtain ⟨R, hR⟩ : ∃ R, grp b.data.toList d.data.toList = R := ⟨_, rfl⟩
  rw [hR]
  have hRl : R.length ≤ 1001 * 1000 + 1 := by
    rw [← hR]
    cases h : d.data.toList with
    | nil => simp [grp]
    | cons c t =>
      rw [h, List.length_cons] at hl
      have := grpR_len b.data.toList t
      have h2 : (b.data.toList.length + 1) * t.length ≤ 1001 * 1000 := Nat.mul_le_mul (by omega) (by omega)
      show (c :: grpR _ t).length ≤ _
      rw [List.length_cons]
      omega
  have HR := Lib.hid hR; clear hR
  go_enter Tryd.func36, Tryd.ntmps36
  go_wp2
  go_loopg [9] d.size (fun gk si wx => ∃ (i : Nat) (acc : List UInt8), si = .int .i64 i ∧ i ≤ d.size ∧ Lib.IsBuffer 109 5 w.heap.size w.heap.size (Lib.byteCells acc) wx ∧ Below w.heap.size w wx ∧ acc ++ restG b.data.toList d.data.toList i = R ∧ d.size ≤ i + gk)
  case atStart => exact ⟨0, [], rfl, by omega, hfresh, (Below.refl _ _).alloc (Nat.le_refl _) _, by rw [← HR.out]; rfl, by omega⟩
  case round =>
    obtain ⟨i, acc, rfl, hi, hI, hbw, hacc, hfu⟩ := hrel
    clear hfresh HR
    have hsz := hbw.size
    have hal : acc.length ≤ R.length := by rw [← hacc, List.length_append]; omega
    have HA := Lib.hid hacc; clear hacc
    by_cases hp : i < d.size
    · obtain ⟨f, rfl⟩ : ∃ f, gk = f + 1 := ⟨gk - 1, by omega⟩
      have hpz : (i : Int) < (d.size : Int) := by omega
      have hip : d.data.toList[i]? = some (d[i]'hp) := by rw [List.getElem?_eq_getElem (by omega)]; rfl
      have cB := fun W bs hI hB h1 h2 => Tryd.Buffer_WriteByte w.heap.size w.heap.size bs ((d[i]'hp).toNat : Int) W hI hB h1 h2
      have cS := fun W bs hI hB h1 h2 => Tryd.Buffer_WriteString w.heap.size w.heap.size bs b W hI hB h1 h2
      have hbl : (Lib.byteCells acc).length = acc.length := Lib.byteCells_length _
      have Hbl := Lib.hid hbl; clear hbl
      have Hip := Lib.hid hip; clear hip
      have Hl := Lib.hid hl; clear hl
      have Hlb := Lib.hid hlb; clear hlb
      by_cases h0 : i = 0
      · subst h0
        have e1 : restG b.data.toList d.data.toList 0 = [d[0]'hp] ++ restG b.data.toList d.data.toList (0 + 1) := restG_zero _ _ _ Hip.out
        have HE := Lib.hid e1; clear e1
        go_wp2_with (go_at_call 67; ((with_reducible refine (cB _ _ hI (by assumption) (Lib.byteCells_one _) (by rw [Hbl.out]; omega)).mono ?_); rintro e W1 ⟨rfl, hI1, hb1⟩))
        go_roundg f
        case measure => omega
        case rel => exact ⟨0 + 1, acc ++ [d[0]'hp], by go_num, by omega, by rw [Lib.byteCells_append]; exact hI1, hbw.trans hb1, by rw [← HA.out, HE.out, List.append_assoc], by omega⟩
      · have hp0 : (0 : Int) < (i : Int) := by omega
        by_cases h3 : (d.size - i) % 3 = 0
        · have hz3 : (((d.size : Int) - i) % 3 == 0) = true := by rw [beq_iff_eq]; omega
          have e1 : restG b.data.toList d.data.toList i = b.data.toList ++ [d[i]'hp] ++ restG b.data.toList d.data.toList (i + 1) := restG_yes _ _ i _ h0 Hip.out (by rw [Hl.out]; exact h3)
          have HE := Lib.hid e1; clear e1
          go_wp2_with (first
            | (go_at_call 66; ((with_reducible refine (cS _ _ hI (by assumption) (Lib.byteCells_one _) (by rw [Hbl.out]; omega)).mono ?_); rintro e W1 ⟨rfl, hI1, hb1⟩; rw [← Lib.byteCells_append] at hI1; have hs1 := hb1.size))
            | (go_at_call 67; ((with_reducible refine (cB _ _ hI1 (by omega) (Lib.byteCells_one _) (by rw [Lib.byteCells_length, List.length_append, Hlb.out]; omega)).mono ?_); rintro e W2 ⟨rfl, hI2, hb2⟩)))
          go_roundg f
          case measure => omega
          case rel => exact ⟨i + 1, acc ++ b.data.toList ++ [d[i]'hp], by go_num, by omega, by rw [Lib.byteCells_append]; exact hI2, (hbw.trans hb1).trans hb2, by rw [← HA.out, HE.out]; simp, by omega⟩
        · have hz3 : (((d.size : Int) - i) % 3 == 0) = false := by rw [beq_eq_false_iff_ne]; omega
          have e1 : restG b.data.toList d.data.toList i = [d[i]'hp] ++ restG b.data.toList d.data.toList (i + 1) := restG_no _ _ i _ h0 Hip.out (by rw [Hl.out]; exact h3)
          have HE := Lib.hid e1; clear e1
          go_wp2_with (go_at_call 67; ((with_reducible refine (cB _ _ hI (by assumption) (Lib.byteCells_one _) (by rw [Hbl.out]; omega)).mono ?_); rintro e W1 ⟨rfl, hI1, hb1⟩))
          go_roundg f
          case measure => omega
          case rel => exact ⟨i + 1, acc ++ [d[i]'hp], by go_num, by omega, by rw [Lib.byteCells_append]; exact hI1, hbw.trans hb1, by rw [← HA.out, HE.out, List.append_assoc], by omega⟩
    · obtain rfl : i = d.size := by omega
      have e1 : restG b.data.toList d.data.toList d.size = [] := by
        unfold restG
        by_cases h0 : d.size = 0
        · rw [if_pos h0, List.eq_nil_of_length_eq_zero (show d.data.toList.length = 0 by omega)]; rfl
        · rw [if_neg h0, List.drop_eq_nil_of_le (by omega)]; rfl
      have e2 : acc = R := by rw [← HA.out, e1, List.append_nil]
      subst e2
      have cT := Tryd.Buffer_String w.heap.size w.heap.size acc wr hI
      clear HA e1
      go_wp2_with (go_at_call 68; ((with_reducible refine cT.mono ?_); rintro e W1 ⟨rfl, n, rfl⟩))
      go_ret
      exact ⟨rfl, pw_below_drewN hbw n⟩
end Go.Proofs.YtonjkoeacedaiaaDoor
