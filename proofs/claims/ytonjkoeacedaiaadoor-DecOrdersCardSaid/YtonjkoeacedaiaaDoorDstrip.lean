/- Noughts ahead; what make0 makes. -/
import Derived.Test.YtonjkoeacedaiaaDoorDpure
namespace Go.Proofs.YtonjkoeacedaiaaDoor.S
open Go.RowKit Go.Proofs.YtonjkoeacedaiaaDoor Go.Proofs.YtonjkoeacedaiaaDoor.G Go.Proofs.YtonjkoeacedaiaaDoor.U Go.Proofs.YtonjkoeacedaiaaDoor.R Go.Proofs.YtonjkoeacedaiaaDoor.PU Go.Proofs.YtonjkoeacedaiaaDoorW.PrintWords
set_option linter.unusedVariables false
set_option linter.unusedSimpArgs false

abbrev digs (l : List UInt8) : Bool := l.all isDig
/-- Noughts ahead left out, down to m digits. -/
def stripTo (m : Nat) : List UInt8 → List UInt8
  | [] => []
  | c :: t => if m < t.length + 1 ∧ c = 48 then stripTo m t else c :: t
theorem stripTo_len (m : Nat) : ∀ L, (stripTo m L).length ≤ L.length ∧ (m ≤ L.length → m ≤ (stripTo m L).length)
  | [] => ⟨Nat.le_refl _, fun h => h⟩
  | c :: t => by
    have ih := stripTo_len m t
    unfold stripTo
    split
    · rw [List.length_cons]; exact ⟨by omega, fun h => ih.2 (by omega)⟩
    · exact ⟨Nat.le_refl _, fun h => h⟩
theorem stripTo_digs (m : Nat) : ∀ L, digs L = true → digs (stripTo m L) = true
  | [], h => h
  | c :: t, h => by
    unfold stripTo
    split
    · exact stripTo_digs m t (by simp [digs] at h ⊢; exact h.2)
    · exact h
theorem stripTo_norm (m : Nat) : ∀ L, m ≤ L.length → (stripTo m L).length = m ∨ (stripTo m L).head? ≠ some 48
  | [], h => Or.inl (by simp at h; subst h; rfl)
  | c :: t, h => by
    unfold stripTo
    split
    · rename_i hc; exact stripTo_norm m t (by omega)
    · rename_i hc
      by_cases e : c = 48
      · left; rw [List.length_cons] at h ⊢; have : ¬ m < t.length + 1 := fun h2 => hc ⟨h2, e⟩; omega
      · right; simpa using e
theorem stripTo_id (m : Nat) (L : List UInt8) (h : L.length = m ∨ L.head? ≠ some 48) : stripTo m L = L := by
  cases L with
  | nil => rfl
  | cons c t =>
    unfold stripTo
    rw [if_neg]
    rintro ⟨h1, h2⟩
    rcases h with h | h
    · rw [List.length_cons] at h; omega
    · exact h (by rw [h2]; rfl)
theorem dw48 (l : List UInt8) : l = List.replicate (l.length - (Lib.trimLeftS l [48]).length) 48 ++ Lib.trimLeftS l [48] := by
  induction l with
  | nil => rfl
  | cons c t ih =>
    unfold Lib.trimLeftS at ih ⊢
    rw [List.dropWhile_cons]
    by_cases h : ([48] : List UInt8).contains c = true
    · rw [if_pos h]
      have hc : c = 48 := by simpa using h
      have hl : (t.dropWhile fun x => ([48] : List UInt8).contains x).length ≤ t.length := (List.dropWhile_suffix _).length_le
      rw [List.length_cons, show t.length + 1 - (t.dropWhile fun x => ([48] : List UInt8).contains x).length = (t.length - (t.dropWhile fun x => ([48] : List UInt8).contains x).length) + 1 by omega, List.replicate_succ, List.cons_append, ← ih, hc]
    · rw [if_neg h]
      simp
theorem strip_eq (m : Nat) : ∀ L : List UInt8, m ≤ L.length → 1 ≤ m → (if (Lib.trimLeftS L [48]).length < m then List.replicate (m - (Lib.trimLeftS L [48]).length) 48 ++ Lib.trimLeftS L [48] else Lib.trimLeftS L [48]) = stripTo m L
  | [], h, h1 => by simp at h; omega
  | c :: t, h, h1 => by
    rw [List.length_cons] at h
    by_cases hc : c = 48
    · have e : Lib.trimLeftS (c :: t) [48] = Lib.trimLeftS t [48] := by
        unfold Lib.trimLeftS
        rw [List.dropWhile_cons, if_pos (by simpa using hc)]
      rw [e]
      unfold stripTo
      by_cases hm : m < t.length + 1
      · rw [if_pos (⟨hm, hc⟩ : m < t.length + 1 ∧ c = 48)]
        exact strip_eq m t (by omega) h1
      · rw [if_neg (fun h => hm h.1 : ¬ (m < t.length + 1 ∧ c = 48))]
        have hd := dw48 (c :: t)
        rw [e, List.length_cons] at hd
        have hl : (Lib.trimLeftS t [48]).length ≤ t.length := (List.dropWhile_suffix _).length_le
        rw [if_pos (by omega), show m - (Lib.trimLeftS t [48]).length = t.length + 1 - (Lib.trimLeftS t [48]).length by omega]
        exact hd.symm
    · have e : Lib.trimLeftS (c :: t) [48] = c :: t := by
        unfold Lib.trimLeftS
        rw [List.dropWhile_cons, if_neg (by simpa using hc)]
      rw [e, if_neg (by rw [List.length_cons]; omega)]
      unfold stripTo
      rw [if_neg (fun h => hc h.2 : ¬ (m < t.length + 1 ∧ c = 48))]

/-- What make0 makes. -/
theorem make0_ok (n : Bool) (D : ByteArray) (sc : Nat) (h : sc + 1 ≤ (bl D).length) (hl : (bl D).length ≤ 1000) : dec_make0.f n D sc = some (n, ⟨(stripTo (sc + 1) (bl D)).toArray⟩, (sc : Int)) := by
  have hT : strings_TrimLeft.f D ⟨#[48]⟩ = some ⟨(Lib.trimLeftS (bl D) [48]).toArray⟩ := by
    unfold strings_TrimLeft.f
    rw [if_pos ⟨by decide, by decide⟩]
  have hlt : (Lib.trimLeftS (bl D) [48]).length ≤ (bl D).length := (List.dropWhile_suffix _).length_le
  have hst := strip_eq (sc + 1) (bl D) h (by omega)
  unfold dec_make0.f
  rw [hT, Option.bind_some, sz, bl_mk, w64 ((sc : Int) + 1) (by omega) (by omega), w64 _ (by omega) (by omega)]
  by_cases hc : (Lib.trimLeftS (bl D) [48]).length < sc + 1
  · rw [if_pos hc] at hst
    rw [if_pos (by omega)]
    have hR : strings_Repeat.f ⟨#[48]⟩ ((sc : Int) + 1 - ((Lib.trimLeftS (bl D) [48]).length : Int)) = some ⟨(List.replicate (sc + 1 - (Lib.trimLeftS (bl D) [48]).length) 48).toArray⟩ := by
      unfold strings_Repeat.f
      have e : ((sc : Int) + 1 - ((Lib.trimLeftS (bl D) [48]).length : Int)).toNat = sc + 1 - (Lib.trimLeftS (bl D) [48]).length := by omega
      rw [if_pos ⟨by omega, by omega, by rw [e]; show 1 * _ ≤ _; omega⟩, e]
      rw [show (⟨#[48]⟩ : ByteArray).data.toList = [48] from rfl, repeatL_one]
    rw [hR, Option.bind_some, if_pos (by rw [sz, bl_mk, List.length_replicate]; omega), ← hst]
    congr 3
  · rw [if_neg hc] at hst
    rw [if_neg (by omega), ← hst]

end Go.Proofs.YtonjkoeacedaiaaDoor.S
