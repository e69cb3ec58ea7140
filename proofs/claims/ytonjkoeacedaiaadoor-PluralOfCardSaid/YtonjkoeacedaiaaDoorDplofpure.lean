/- PluralOf's pure statement: the last two digits, whether there are more, whether all behind the point are noughts. -/
import Derived.Test.YtonjkoeacedaiaaDoorHx2
namespace Go.Proofs.YtonjkoeacedaiaaDoor.H
open Go.RowKit Go.Proofs.YtonjkoeacedaiaaDoor Go.Proofs.YtonjkoeacedaiaaDoor.P4 Go.Proofs.YtonjkoeacedaiaaDoorW.PrintWords
set_option linter.unusedVariables false
set_option linter.unusedSimpArgs false

/-! ### noughts ahead -/
theorem dwz (l : List UInt8) : ∃ z, l = List.replicate z 48 ++ Lib.trimLeftB l 48 ∧ ∀ c t, Lib.trimLeftB l 48 = c :: t → c ≠ 48 := by
  induction l with
  | nil => exact ⟨0, rfl, fun c t h => by cases h⟩
  | cons a t ih =>
    unfold Lib.trimLeftB at ih ⊢
    rw [List.dropWhile_cons]
    by_cases h : (a == 48) = true
    · obtain ⟨z, h1, h2⟩ := ih
      rw [if_pos h]
      refine ⟨z + 1, ?_, h2⟩
      rw [List.replicate_succ, List.cons_append, ← h1, beq_iff_eq.1 h]
    · rw [if_neg h]
      refine ⟨0, rfl, fun c t h2 => ?_⟩
      obtain ⟨rfl, _⟩ := List.cons.inj h2
      simpa using h
theorem last1_app (l : List UInt8) (c : UInt8) : lastV 1 (l ++ [c]) = (c.toNat : Int) - 48 := by
  unfold lastV
  rw [List.length_append, show l.length + [c].length - 1 = l.length by simp, List.drop_left]
  show (0 : Int) * 10 + ((c.toNat : Int) - 48) = _
  omega
theorem last2_app (l : List UInt8) (a c : UInt8) : lastV 2 (l ++ [a, c]) = ((a.toNat : Int) - 48) * 10 + ((c.toNat : Int) - 48) := by
  unfold lastV
  rw [List.length_append, show l.length + [a, c].length - 2 = l.length by simp, List.drop_left]
  show ((0 : Int) * 10 + ((a.toNat : Int) - 48)) * 10 + ((c.toNat : Int) - 48) = _
  omega
/-- A list's end. -/
theorem ends : ∀ l : List UInt8, l = [] ∨ (∃ c, l = [c]) ∨ ∃ r a c, l = r ++ [a, c]
  | [] => Or.inl rfl
  | [c] => Or.inr (Or.inl ⟨c, rfl⟩)
  | x :: y :: t => by
    rcases ends (y :: t) with h | ⟨c, h⟩ | ⟨r, a, c, h⟩
    · cases h
    · rw [h]; exact Or.inr (Or.inr ⟨[], x, c, rfl⟩)
    · rw [h]; exact Or.inr (Or.inr ⟨x :: r, a, c, rfl⟩)
theorem last_one (c : UInt8) : lastV 1 [c] = (c.toNat : Int) - 48 ∧ lastV 2 [c] = (c.toNat : Int) - 48 := by
  constructor
  · show (0 : Int) * 10 + ((c.toNat : Int) - 48) = _
    omega
  · show (0 : Int) * 10 + ((c.toNat : Int) - 48) = _
    omega
theorem last_zeros (z : Nat) (L : List UInt8) : lastV 1 (List.replicate z 48 ++ L) = lastV 1 L ∧ lastV 2 (List.replicate z 48 ++ L) = lastV 2 L := by
  rcases ends L with rfl | ⟨c, rfl⟩ | ⟨r, a, c, rfl⟩
  · rw [List.append_nil]
    match z with
    | 0 => exact ⟨rfl, rfl⟩
    | 1 => exact ⟨rfl, rfl⟩
    | z + 2 =>
      rw [show List.replicate (z + 2) (48 : UInt8) = List.replicate z 48 ++ [48, 48] by rw [List.replicate_succ', List.replicate_succ', List.append_assoc]; rfl, last2_app, show List.replicate z (48 : UInt8) ++ [48, 48] = (List.replicate z 48 ++ [48]) ++ [48] by simp, last1_app]
      exact ⟨rfl, rfl⟩
  · obtain ⟨e1, e2⟩ := last_one c
    match z with
    | 0 => exact ⟨rfl, rfl⟩
    | z + 1 =>
      rw [last1_app, e1, e2, show List.replicate (z + 1) (48 : UInt8) ++ [c] = List.replicate z 48 ++ [48, c] by rw [List.replicate_succ', List.append_assoc]; rfl, last2_app]
      refine ⟨rfl, ?_⟩
      show (((48 : Nat) : Int) - 48) * 10 + _ = _
      omega
  · rw [← List.append_assoc, last2_app, last2_app, show List.replicate z (48 : UInt8) ++ r ++ [a, c] = (List.replicate z 48 ++ r ++ [a]) ++ [c] by simp, last1_app, show r ++ [a, c] = (r ++ [a]) ++ [c] by simp, last1_app]
    exact ⟨rfl, rfl⟩

/-! ### what the law's Of tells of the digits -/
theorem more_iff (F : Nat → Int) : ∀ n, moreB F n = true ↔ ∃ p, p < n ∧ p < 98 ∧ 0 < F p
  | 0 => by simp [moreB]
  | n + 1 => by
    have ih := more_iff F n
    unfold moreB
    rw [Bool.or_eq_true, ih, Bool.and_eq_true, decide_eq_true_iff, decide_eq_true_iff]
    constructor
    · rintro (⟨p, h1, h2, h3⟩ | ⟨h1, h2⟩)
      · exact ⟨p, by omega, h2, h3⟩
      · exact ⟨n, by omega, h1, h2⟩
    · rintro ⟨p, h1, h2, h3⟩
      by_cases e : p = n
      · subst e; exact Or.inr ⟨h2, h3⟩
      · exact Or.inl ⟨p, by omega, h2, h3⟩
theorem whole_iff (F : Nat → Int) : ∀ n, wholeB F n = true ↔ ∀ p, p < n → 100 ≤ p → F p = 0
  | 0 => by simp [wholeB]
  | n + 1 => by
    have ih := whole_iff F n
    unfold wholeB
    rw [Bool.and_eq_true, ih, Bool.or_eq_true, decide_eq_true_iff, decide_eq_true_iff]
    constructor
    · rintro ⟨h1, h2⟩ p hp h100
      by_cases e : p = n
      · subst e; rcases h2 with h2 | h2
        · omega
        · exact h2
      · exact h1 p (by omega) h100
    · intro h
      refine ⟨fun p hp h100 => h p (by omega) h100, ?_⟩
      by_cases e : n < 100
      · exact Or.inl e
      · exact Or.inr (h n (by omega) (by omega))
theorem fix_in (D : List UInt8) (m j : Nat) (hj : j < D.length) (hm : m ≤ 100) : fixD D m D.length (100 - m + j) = (D[j].toNat : Int) - 48 := by
  unfold fixD
  rw [if_pos (by omega), show 100 - m + j - (100 - m) = j by omega, List.getD_eq_getElem?_getD, List.getElem?_eq_getElem hj]
  rfl
theorem fix_ahead (D : List UInt8) (m p : Nat) (h : p < 100 - m) : fixD D m D.length p = 0 := by
  unfold fixD
  rw [if_neg (by omega)]
theorem fix_behind (D : List UInt8) (m p : Nat) (h : 100 - m + D.length ≤ p) : fixD D m D.length p = 0 := by
  unfold fixD
  rw [if_neg (by omega)]
/-- The numbers that the law asks of. -/
structure Parts (L : List UInt8) (l : Int) (more : Bool) : Prop where
  two : lastV 2 L = l
  one : lastV 1 L = l % 10
  lo : 0 ≤ l
  hi : l ≤ 99
  none : (L == []) = (!more && l == 0)
  is1 : (L == [49]) = (!more && l == 1)
  is2 : (L == [50]) = (!more && l == 2)
  few : (L.length == 1 && inB (lastV 1 L) 2 4) = (!more && (decide (l ≥ 2) && decide (l ≤ 4)))
theorem parts_of (L : List UInt8) (more : Bool) (hm : more = decide (2 < L.length)) (hd : ∀ c ∈ L, 48 ≤ c.toNat ∧ c.toNat ≤ 57) (hh : ∀ c t, L = c :: t → c ≠ 48) : Parts L (lastV 2 L) more := by
  have nat : ∀ c : UInt8, c ≠ 48 → c.toNat ≠ 48 := fun c h e => h (UInt8.toNat_inj.1 e)
  rcases ends L with rfl | ⟨c, rfl⟩ | ⟨r, a, c, rfl⟩
  · subst hm
    exact ⟨rfl, rfl, by decide, by decide, rfl, rfl, rfl, rfl⟩
  · subst hm
    obtain ⟨e1, e2⟩ := last_one c
    have hc := hd c (by simp)
    have hn := nat c (hh c [] rfl)
    have q1 : c = 49 ↔ c.toNat = 49 := ⟨fun h => by rw [h]; rfl, fun h => UInt8.toNat_inj.1 h⟩
    have q2 : c = 50 ↔ c.toNat = 50 := ⟨fun h => by rw [h]; rfl, fun h => UInt8.toNat_inj.1 h⟩
    rw [e2]
    refine ⟨e2, by rw [e1]; omega, by omega, by omega, ?_, ?_, ?_, ?_⟩
    · rw [Bool.eq_iff_iff]; simp; omega
    · rw [Bool.eq_iff_iff]; simp [q1]; omega
    · rw [Bool.eq_iff_iff]; simp [q2]; omega
    · rw [e1]; unfold inB; rw [Bool.eq_iff_iff]; simp
  · have ha := hd a (by simp)
    have hc := hd c (by simp)
    have e1 : lastV 1 (r ++ [a, c]) = (c.toNat : Int) - 48 := by rw [show r ++ [a, c] = (r ++ [a]) ++ [c] by simp, last1_app]
    have e2 := last2_app r a c
    have hl : (r ++ [a, c]).length = r.length + 2 := by simp
    have n0 : ((r ++ [a, c]) == []) = false := by rw [beq_eq_false_iff_ne]; intro h; have := congrArg List.length h; simp at this
    have n1 : ∀ x, ((r ++ [a, c]) == [x]) = false := fun x => by rw [beq_eq_false_iff_ne]; intro h; have := congrArg List.length h; simp at this
    have n2 : ((r ++ [a, c]).length == 1) = false := by rw [beq_eq_false_iff_ne, hl]; omega
    have hbig : more = false → ¬ lastV 2 (r ++ [a, c]) ≤ 4 := by
      intro hf
      have h0 : r.length = 0 := by
        rw [hf, hl] at hm
        have := of_decide_eq_false hm.symm
        omega
      have hr : r = [] := List.length_eq_zero_iff.1 h0
      have hn := nat a (hh a [c] (by rw [hr]; rfl))
      rw [e2]; omega
    refine ⟨rfl, by rw [e1, e2]; omega, by rw [e2]; omega, by rw [e2]; omega, ?_, ?_, ?_, ?_⟩
    all_goals
      first | rw [n0] | rw [n1] | rw [n2, Bool.false_and]
      cases more with
      | true => rfl
      | false =>
        have hb := hbig rfl
        generalize lastV 2 (r ++ [a, c]) = l at *
        rw [eq_comm, Bool.eq_false_iff]
        intro h
        simp at h
        omega

/-- What parts tells, by the digits that plural asks of. -/
theorem parts_ok (D : List UInt8) (k : Nat) (hk : k < D.length) (hl : D.length ≤ 60) (hd : ∀ c ∈ D, 48 ≤ c.toNat ∧ c.toNat ≤ 57) :
    Parts (Lib.trimLeftB (D.take (D.length - k)) 48) (10 * fixD D (D.length - k) D.length 98 + fixD D (D.length - k) D.length 99) (moreB (fixD D (D.length - k) D.length) 200) ∧
      wholeB (fixD D (D.length - k) D.length) 200 = (Lib.trimB (D.drop (D.length - k)) 48).isEmpty := by
  obtain ⟨m, hm⟩ : ∃ m, D.length - k = m := ⟨_, rfl⟩
  have hm1 : 1 ≤ m := by omega
  have hml : m ≤ D.length := by omega
  rw [hm]
  have hat : ∀ j, (hj : j < D.length) → 48 ≤ D[j].toNat ∧ D[j].toNat ≤ 57 := fun j hj => hd _ (List.getElem_mem hj)
  obtain ⟨z, hz, hh⟩ := dwz (D.take m)
  have hIl : (D.take m).length = m := by rw [List.length_take]; omega
  obtain ⟨L, hL⟩ : ∃ L, Lib.trimLeftB (D.take m) 48 = L := ⟨_, rfl⟩
  rw [hL] at hz hh ⊢
  have hzl : z + L.length = m := by have := congrArg List.length hz; rw [hIl, List.length_append, List.length_replicate] at this; omega
  have hLd : ∀ c ∈ L, 48 ≤ c.toNat ∧ c.toNat ≤ 57 := fun c hc => hd c (List.mem_of_mem_take (i := m) (by rw [hz]; exact List.mem_append_right _ hc))
  have hmore : moreB (fixD D m D.length) 200 = decide (2 < L.length) := by
    rw [Bool.eq_iff_iff, more_iff, decide_eq_true_iff]
    constructor
    · rintro ⟨p, h1, h2, h3⟩
      by_cases hp : p < 100 - m
      · rw [fix_ahead D m p hp] at h3; omega
      · obtain ⟨j, rfl⟩ : ∃ j, p = 100 - m + j := ⟨p - (100 - m), by omega⟩
        have hj : j < D.length := by omega
        rw [fix_in D m j hj (by omega)] at h3
        have hjz : ¬ j < z := by
          intro hjz
          have e : (D.take m)[j]? = some 48 := by rw [hz, List.getElem?_append_left (by rw [List.length_replicate]; exact hjz), List.getElem?_replicate, if_pos hjz]
          rw [List.getElem?_take_of_lt (by omega), List.getElem?_eq_getElem hj] at e
          have e2 := Option.some.inj e
          rw [e2] at h3
          exact absurd h3 (by decide)
        omega
    · intro h
      cases hLc : L with
      | nil => rw [hLc] at h; simp at h
      | cons c t =>
        have hc := hh c t hLc
        have e : (D.take m)[z]? = some c := by rw [hz, hLc, List.getElem?_append_right (by rw [List.length_replicate]; exact Nat.le_refl _), List.length_replicate, Nat.sub_self]; rfl
        rw [List.getElem?_take_of_lt (by omega), List.getElem?_eq_getElem (show z < D.length by omega)] at e
        have e2 := Option.some.inj e
        have hcn : c.toNat ≠ 48 := fun h => hc (UInt8.toNat_inj.1 h)
        have hb := hat z (by omega)
        rw [e2] at hb
        refine ⟨100 - m + z, by omega, by omega, ?_⟩
        rw [fix_in D m z (by omega) (by omega), e2]
        omega
  have hlast : 10 * fixD D m D.length 98 + fixD D m D.length 99 = lastV 2 L := by
    rw [← (last_zeros z L).2, ← hz]
    have e99 : fixD D m D.length 99 = (D[m - 1].toNat : Int) - 48 := by
      have := fix_in D m (m - 1) (by omega) (by omega)
      rw [show 100 - m + (m - 1) = 99 by omega] at this
      exact this
    rw [e99]
    by_cases h1 : m = 1
    · subst h1
      have e : D.take 1 = [D[0]] := by rw [List.take_one]; cases D with
        | nil => simp at hk
        | cons a t => rfl
      rw [fix_ahead D 1 98 (by omega), e, (last_one _).2]
      show 10 * 0 + ((D[0].toNat : Int) - 48) = _
      omega
    · have e98 : fixD D m D.length 98 = (D[m - 2].toNat : Int) - 48 := by
        have := fix_in D m (m - 2) (by omega) (by omega)
        rw [show 100 - m + (m - 2) = 98 by omega] at this
        exact this
      have e : D.take m = D.take (m - 2) ++ [D[m - 2], D[m - 1]] := by
        have a1 : D.take (m - 2 + 1) = D.take (m - 2) ++ [D[m - 2]] := by rw [List.take_add_one, List.getElem?_eq_getElem (show m - 2 < D.length by omega)]; rfl
        have a2 : D.take (m - 1 + 1) = D.take (m - 1) ++ [D[m - 1]] := by rw [List.take_add_one, List.getElem?_eq_getElem (show m - 1 < D.length by omega)]; rfl
        rw [show m - 1 + 1 = m by omega] at a2
        rw [show m - 2 + 1 = m - 1 by omega] at a1
        rw [a2, a1, List.append_assoc]
        rfl
      rw [e98, e, last2_app]
      omega
  refine ⟨by rw [hlast]; exact parts_of L _ hmore hLd hh, ?_⟩
  rw [Bool.eq_iff_iff, whole_iff, List.isEmpty_iff]
  have hall : (Lib.trimB (D.drop m) 48 = []) ↔ ∀ c ∈ D.drop m, c = 48 := by
    unfold Lib.trimB
    constructor
    · intro h c hc
      obtain ⟨z1, h1, _⟩ := dwz (Lib.trimRightB (D.drop m) 48)
      rw [h, List.append_nil] at h1
      obtain ⟨z2, h2, h3⟩ := dwz (D.drop m).reverse
      have h4 : Lib.trimLeftB (D.drop m).reverse 48 = [] := by
        cases hT : Lib.trimLeftB (D.drop m).reverse 48 with
        | nil => rfl
        | cons a t =>
          have h5 : Lib.trimRightB (D.drop m) 48 = (Lib.trimLeftB (D.drop m).reverse 48).reverse := rfl
          rw [h5, hT] at h1
          have : a ∈ List.replicate z1 (48 : UInt8) := by rw [← h1]; simp
          exact absurd (List.eq_of_mem_replicate this) (h3 a t hT)
      rw [h4, List.append_nil] at h2
      exact List.eq_of_mem_replicate (by rw [← h2]; exact List.mem_reverse.2 hc)
    · intro h
      have h5 : Lib.trimRightB (D.drop m) 48 = (Lib.trimLeftB (D.drop m).reverse 48).reverse := rfl
      obtain ⟨z2, h2, h3⟩ := dwz (D.drop m).reverse
      have h4 : Lib.trimLeftB (D.drop m).reverse 48 = [] := by
        cases hT : Lib.trimLeftB (D.drop m).reverse 48 with
        | nil => rfl
        | cons a t =>
          exact absurd (h a (List.mem_reverse.1 (by rw [h2, hT]; simp))) (h3 a t hT)
      rw [h5, h4]
      rfl
  rw [hall]
  constructor
  · intro h c hc
    obtain ⟨j, hj, rfl⟩ := List.getElem_of_mem hc
    rw [List.length_drop] at hj
    have := h (100 + j) (by omega) (by omega)
    rw [show 100 + j = 100 - m + (m + j) by omega, fix_in D m (m + j) (by omega) (by omega)] at this
    rw [List.getElem_drop]
    exact UInt8.toNat_inj.1 (by show D[m + j].toNat = 48; omega)
  · intro h p hp h100
    by_cases hb : 100 - m + D.length ≤ p
    · exact fix_behind D m p hb
    · obtain ⟨j, rfl⟩ : ∃ j, p = 100 - m + (m + j) := ⟨p - 100, by omega⟩
      have hj : m + j < D.length := by omega
      rw [fix_in D m (m + j) hj (by omega)]
      have : D[m + j] = 48 := h _ (List.mem_iff_getElem.2 ⟨j, by rw [List.length_drop]; omega, by rw [List.getElem_drop]⟩)
      rw [this]
      rfl
end Go.Proofs.YtonjkoeacedaiaaDoor.H
