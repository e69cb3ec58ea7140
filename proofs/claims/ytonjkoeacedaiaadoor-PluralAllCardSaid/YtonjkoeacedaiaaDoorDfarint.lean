/- What dec.Int tells (for layer 4). -/
import Derived.Test.YtonjkoeacedaiaaDoorFx1
namespace Go.Proofs.YtonjkoeacedaiaaDoor.F
open Go.RowKit Go.Proofs.YtonjkoeacedaiaaDoor Go.Proofs.YtonjkoeacedaiaaDoorW.PrintWords
set_option linter.unusedVariables false
set_option linter.unusedSimpArgs false

abbrev bl (s : ByteArray) : List UInt8 := s.data.toList
theorem tl (s : ByteArray) : s.toList = bl s := Lib.toList_data s
theorem sz (s : ByteArray) : s.size = (bl s).length := Lib.size_eq s
theorem ba_ext {a b : ByteArray} (h : bl a = bl b) : a = b := by
  cases a; cases b; congr 1; exact Array.ext' h
theorem bl_app (a b : ByteArray) : bl (a ++ b) = bl a ++ bl b := by show (a ++ b).data.toList = _; rw [ByteArray.data_append, Array.toList_append]
theorem bl_ext (s : ByteArray) (a b : Nat) : bl (s.extract a b) = ((bl s).drop a).take (b - a) := Lib.extract_data s a b
theorem bl_mk (l : List UInt8) : bl ⟨l.toArray⟩ = l := rfl
theorem mk_bl (s : ByteArray) : (⟨(bl s).toArray⟩ : ByteArray) = s := ba_ext rfl
theorem sz_app (a b : ByteArray) : (a ++ b).size = a.size + b.size := ByteArray.size_append
theorem w64 (x : Int) (h0 : -9223372036854775808 ≤ x) (h1 : x ≤ 9223372036854775807) : wrap64 x = x := by unfold wrap64; omega
theorem bt_nat (s : ByteArray) (i : Nat) (c : UInt8) (h : (bl s)[i]? = some c) : bt s (i : Int) = c.toNat := by
  obtain ⟨hl, e⟩ := List.getElem?_eq_some_iff.1 h
  have hl' : i < s.size := by rw [sz]; exact hl
  unfold bt
  rw [Int.toNat_natCast, dif_pos hl']
  rw [← e]
  rfl
def isDig (c : UInt8) : Bool := decide (48 ≤ c.toNat) && decide (c.toNat ≤ 57)
/-- Half turned round: what stands behind i swaps. -/
def Turn (l xs : List Int) (i : Nat) : Prop := xs.length = l.length ∧ ∀ p, p < l.length → xs[p]? = if p < i ∨ l.length - 1 - i < p then l[l.length - 1 - p]? else l[p]?
theorem turn_step (l xs : List Int) (i : Nat) (h : Turn l xs i) (hi : i < l.length - 1 - i) :
    Turn l ((xs.set i (rd xs ((l.length - 1 - i : Nat) : Int))).set (l.length - 1 - i) (rd xs (i : Int))) (i + 1) := by
  obtain ⟨h1, h2⟩ := h
  refine ⟨by simp [h1], fun p hp => ?_⟩
  have ha := h2 i (by omega)
  have hb := h2 (l.length - 1 - i) (by omega)
  rw [if_neg (by omega)] at ha
  rw [if_neg (by omega)] at hb
  have ea : rd xs (i : Int) = l.getD i 0 := by
    unfold rd
    rw [Int.toNat_natCast, List.getD_eq_getElem?_getD, ha, ← List.getD_eq_getElem?_getD]
  have eb : rd xs ((l.length - 1 - i : Nat) : Int) = l.getD (l.length - 1 - i) 0 := by
    unfold rd
    rw [Int.toNat_natCast, List.getD_eq_getElem?_getD, hb, ← List.getD_eq_getElem?_getD]
  have gd : ∀ q, q < l.length → l[q]? = some (l.getD q 0) := fun q hq => by rw [List.getD_eq_getElem?_getD, List.getElem?_eq_getElem hq]; rfl
  rw [ea, eb, List.getElem?_set]
  by_cases e1 : l.length - 1 - i = p
  · subst e1
    rw [if_pos rfl, if_pos (by simp; omega), if_pos (by omega), show l.length - 1 - (l.length - 1 - i) = i by omega, gd i (by omega)]
  · rw [if_neg e1, List.getElem?_set]
    by_cases e2 : i = p
    · subst e2
      rw [if_pos rfl, if_pos (by omega), if_pos (by omega), gd _ (by omega)]
    · rw [if_neg e2, h2 p hp]
      by_cases c : p < i ∨ l.length - 1 - i < p
      · rw [if_pos c, if_pos (by omega)]
      · rw [if_neg c, if_neg (by omega)]
theorem turn_end (l xs : List Int) (i : Nat) (h : Turn l xs i) (hi : l.length ≤ 2 * i + 1) : xs = l.reverse := by
  obtain ⟨h1, h2⟩ := h
  apply List.ext_getElem?
  intro p
  by_cases hp : p < l.length
  · rw [h2 p hp, List.getElem?_reverse hp]
    by_cases c : p < i ∨ l.length - 1 - i < p
    · rw [if_pos c]
    · rw [if_neg c, show l.length - 1 - p = p by omega]
  · rw [List.getElem?_eq_none (by omega), List.getElem?_eq_none (by simp; omega)]
theorem rev_loop (l : List Int) (hl : l.length ≤ 1000) : ∀ (d i : Nat) (xs : List Int), l.length ≤ 2 * i + 1 + d → i ≤ l.length → Turn l xs i → ∃ k, slices_Reverse_byte_byte.l0 k xs (i : Int) ((l.length : Int) - 1 - i) = some l.reverse := by
  intro d
  induction d with
  | zero =>
    intro i xs hd hi h
    refine ⟨1, ?_⟩
    rw [slices_Reverse_byte_byte.l0, if_neg (by omega), turn_end l xs i h (by omega)]
  | succ d ih =>
    intro i xs hd hi h
    by_cases hlt : i < l.length - 1 - i
    · obtain ⟨k, hk⟩ := ih (i + 1) _ (by omega) (by omega) (turn_step l xs i h hlt)
      refine ⟨k + 1, ?_⟩
      have hx : ((l.length : Int) - 1 - i) = ((l.length - 1 - i : Nat) : Int) := by omega
      rw [slices_Reverse_byte_byte.l0, hx, if_pos (by omega), if_pos (by omega), if_pos (by rw [h.1]; omega), if_pos (by omega), if_pos (by rw [h.1]; omega)]
      rw [Int.toNat_natCast, Int.toNat_natCast, w64 _ (by omega) (by omega), w64 _ (by omega) (by omega)]
      rw [show ((i : Int) + 1) = ((i + 1 : Nat) : Int) by simp, show (((l.length - 1 - i : Nat) : Int) - 1) = (l.length : Int) - 1 - ((i + 1 : Nat) : Int) by omega]
      exact hk
    · refine ⟨1, ?_⟩
      rw [slices_Reverse_byte_byte.l0, if_neg (by omega), turn_end l xs i h (by omega)]
theorem rev_ok (l : List Int) (hl : l.length ≤ 1000) : ∃ k, slices_Reverse_byte_byte.f k l = some l.reverse := by
  obtain ⟨k, hk⟩ := rev_loop l hl l.length 0 l (by omega) (by omega) ⟨rfl, fun p hp => by rw [if_neg (by omega)]⟩
  refine ⟨k, ?_⟩
  unfold slices_Reverse_byte_byte.f
  rw [w64 _ (by omega) (by omega)]
  simpa using hk

/-- A number's digits, the last one first. -/
def revD (m : Nat) : List Int := if h : m < 10 then [48 + (m : Int)] else (48 + ((m % 10 : Nat) : Int)) :: revD (m / 10)
termination_by m
decreasing_by omega
theorem revD_lt {m : Nat} (h : m < 10) : revD m = [48 + (m : Int)] := by rw [revD, dif_pos h]
theorem revD_ge {m : Nat} (h : ¬ m < 10) : revD m = (48 + ((m % 10 : Nat) : Int)) :: revD (m / 10) := by rw [revD, dif_neg h]
theorem revD_dec : ∀ (n m : Nat), m ≤ n → (revD m).reverse.map (fun z => UInt8.ofNat z.toNat) = Lib.decDigits m := by
  intro n
  induction n with
  | zero =>
    intro m hm
    obtain rfl : m = 0 := by omega
    rw [revD_lt (by omega), Lib.decDigits, dif_pos (by omega)]
    rfl
  | succ n ih =>
    intro m hm
    rw [Lib.decDigits]
    by_cases h : m < 10
    · rw [revD_lt h, dif_pos h]
      show [UInt8.ofNat (48 + (m : Int)).toNat] = [UInt8.ofNat (48 + m)]
      rw [show (48 + (m : Int)).toNat = 48 + m by omega]
    · rw [revD_ge h, dif_neg h, List.reverse_cons, List.map_append, ih (m / 10) (by omega)]
      show _ ++ [UInt8.ofNat (48 + ((m % 10 : Nat) : Int)).toNat] = _
      rw [show (48 + ((m % 10 : Nat) : Int)).toNat = 48 + m % 10 by omega]
theorem revD_len : ∀ (n m : Nat), m < 10 ^ (n + 1) → (revD m).length ≤ n + 1 := by
  intro n
  induction n with
  | zero => intro m hm; rw [revD_lt (by omega)]; simp
  | succ n ih =>
    intro m hm
    by_cases h : m < 10
    · rw [revD_lt h]; simp
    · rw [revD_ge h, List.length_cons]
      have := ih (m / 10) (by rw [Nat.pow_succ] at hm; omega)
      omega
/-- A round of Int's loop. -/
theorem int_step (n : Int) (s : Bool) (acc : List Int) (k : Nat) (h0 : -9223372036854775808 ≤ n) (h1 : n ≤ 9223372036854775807) (ha : acc.length ≤ 1000) :
    dec_Int.j1 (k + 1) n s acc true = dec_Int.l0 k (Int.tdiv n 10) s (acc ++ [48 + ((n.natAbs % 10 : Nat) : Int)]) false := by
  have hm1 := Int.tmod_lt_of_pos n (show (0 : Int) < 10 by decide)
  have htd : Int.tdiv n 10 * 10 + Int.tmod n 10 = n := by rw [Int.mul_comm]; exact Int.mul_tdiv_add_tmod n 10
  have hw : wrap64 (Int.tdiv n 10) = Int.tdiv n 10 := by
    by_cases hn : 0 ≤ n
    · rw [Int.tdiv_eq_ediv_of_nonneg hn]; exact w64 _ (by omega) (by omega)
    · obtain ⟨p, rfl⟩ : ∃ p, n = -p := ⟨-n, by omega⟩
      rw [Int.neg_tdiv, Int.tdiv_eq_ediv_of_nonneg (by omega)]; exact w64 _ (by omega) (by omega)
  rw [dec_Int.j1, if_pos rfl, hw]
  by_cases hn : 0 ≤ n
  · have e : Int.tmod n 10 = ((n.natAbs % 10 : Nat) : Int) := by rw [Int.tmod_eq_emod_of_nonneg hn]; omega
    rw [e, if_neg (by omega), if_pos (by omega), w64 _ (by omega) (by omega)]
    rw [show (48 + ((n.natAbs % 10 : Nat) : Int)) % 256 = 48 + ((n.natAbs % 10 : Nat) : Int) by omega]
  · have e : Int.tmod n 10 = -((n.natAbs % 10 : Nat) : Int) := by
      obtain ⟨p, rfl⟩ : ∃ p, n = -p := ⟨-n, by omega⟩
      rw [Int.neg_tmod, Int.tmod_eq_emod_of_nonneg (by omega)]; omega
    rw [e]
    by_cases hz : n.natAbs % 10 = 0
    · rw [hz]
      rw [if_neg (by decide), if_pos (by omega), show wrap64 (48 + -((0 : Nat) : Int)) % 256 = 48 + ((0 : Nat) : Int) by rw [w64 _ (by decide) (by decide)]; decide]
    · rw [if_pos (by omega), if_pos (by omega), Int.neg_neg, w64 ((n.natAbs % 10 : Nat) : Int) (by omega) (by omega), w64 _ (by omega) (by omega)]
      rw [show (48 + ((n.natAbs % 10 : Nat) : Int)) % 256 = 48 + ((n.natAbs % 10 : Nat) : Int) by omega]
theorem abs_div (n : Int) : (Int.tdiv n 10).natAbs = n.natAbs / 10 := by
  by_cases hn : 0 ≤ n
  · rw [Int.tdiv_eq_ediv_of_nonneg hn]; omega
  · obtain ⟨p, rfl⟩ : ∃ p, n = -p := ⟨-n, by omega⟩
    rw [Int.neg_tdiv, Int.tdiv_eq_ediv_of_nonneg (by omega)]; omega
theorem int_loop (s : Bool) : ∀ (j m : Nat) (n : Int) (acc : List Int), m ≤ j → n.natAbs = m → -9223372036854775808 ≤ n → n ≤ 9223372036854775807 → acc.length + (revD m).length ≤ 500 →
    ∃ k, dec_Int.j1 k n s acc true = some (s, strOfNums (acc ++ revD m).reverse, 0) := by
  intro j
  induction j with
  | zero =>
    intro m n acc hj hm h0 h1 ha
    have hn : n = 0 := by omega
    subst hn
    have hmz : m = 0 := by omega
    subst hmz
    rw [revD_lt (by omega)] at ha ⊢
    obtain ⟨k, hk⟩ := rev_ok (acc ++ [48 + ((0 : Nat) : Int)]) (by simp at ha ⊢; omega)
    refine ⟨k + 3, ?_⟩
    rw [int_step 0 s acc (k + 2) (by decide) (by decide) (by omega)]
    show dec_Int.l0 (k + 2) 0 s (acc ++ [48 + ((0 : Nat) : Int)]) false = _
    rw [dec_Int.l0, if_neg (by decide)]
    show dec_Int.j1 (k + 1) 0 s (acc ++ [48 + ((0 : Nat) : Int)]) false = _
    rw [dec_Int.j1, if_neg (by decide), hk, Option.bind_some]
  | succ j ih =>
    intro m n acc hj hm h0 h1 ha
    by_cases h10 : m < 10
    · rw [revD_lt h10] at ha ⊢
      obtain ⟨k, hk⟩ := rev_ok (acc ++ [48 + (m : Int)]) (by simp at ha ⊢; omega)
      refine ⟨k + 3, ?_⟩
      have hz : Int.tdiv n 10 = 0 := by have := abs_div n; omega
      rw [int_step n s acc (k + 2) h0 h1 (by omega), hz, hm, Nat.mod_eq_of_lt h10, dec_Int.l0, if_neg (by decide)]
      show dec_Int.j1 (k + 1) 0 s (acc ++ [48 + (m : Int)]) false = _
      rw [dec_Int.j1, if_neg (by decide), hk, Option.bind_some]
    · rw [revD_ge h10] at ha ⊢
      have hab := abs_div n
      obtain ⟨k, hk⟩ := ih (m / 10) (Int.tdiv n 10) (acc ++ [48 + ((m % 10 : Nat) : Int)]) (by omega) (by rw [hab, hm]) (by omega) (by omega) (by simp at ha ⊢; omega)
      refine ⟨k + 2, ?_⟩
      have hnz : (Int.tdiv n 10 != 0) = true := by rw [bne_iff_ne]; omega
      rw [int_step n s acc (k + 1) h0 h1 (by simp at ha; omega), hm, dec_Int.l0, if_neg (by decide), hnz, hk]
      simp
/-- What Int tells. -/
theorem int_ok (n : Int) (h0 : -9223372036854775808 ≤ n) (h1 : n ≤ 9223372036854775807) : ∃ k, dec_Int.f k n = some (decide (n < 0), ⟨(Lib.decDigits n.natAbs).toArray⟩, 0) := by
  have hl : (revD n.natAbs).length ≤ 20 := revD_len 19 _ (by omega)
  obtain ⟨k, hk⟩ := int_loop (decide (n < 0)) n.natAbs n.natAbs n [] (Nat.le_refl _) rfl h0 h1 (by simp; omega)
  refine ⟨k + 1, ?_⟩
  unfold dec_Int.f
  rw [dec_Int.l0, if_pos rfl, hk, List.nil_append]
  congr 3
  apply ba_ext
  rw [show bl (strOfNums (revD n.natAbs).reverse) = (revD n.natAbs).reverse.map fun z => UInt8.ofNat z.toNat from strOfNums_data _, revD_dec n.natAbs _ (Nat.le_refl _)]

theorem dec_all : ∀ (n m : Nat), m ≤ n → ∀ c ∈ Lib.decDigits m, isDig c = true := by
  intro n
  induction n with
  | zero =>
    intro m hm c hc
    obtain rfl : m = 0 := by omega
    rw [Lib.decDigits, dif_pos (by omega)] at hc
    obtain rfl := List.mem_singleton.1 hc
    decide
  | succ n ih =>
    intro m hm c hc
    rw [Lib.decDigits] at hc
    have hs : ∀ d : Nat, d < 10 → isDig (UInt8.ofNat (48 + d)) = true := by decide
    by_cases h : m < 10
    · rw [dif_pos h] at hc
      obtain rfl := List.mem_singleton.1 hc
      exact hs m h
    · rw [dif_neg h] at hc
      rcases List.mem_append.1 hc with hc | hc
      · exact ih (m / 10) (by omega) c hc
      · obtain rfl := List.mem_singleton.1 hc
        exact hs _ (by omega)
theorem dec_head : ∀ (n m : Nat), m ≤ n → 0 < m → ∃ c t, Lib.decDigits m = c :: t ∧ c ≠ 48 := by
  intro n
  induction n with
  | zero => intro m h1 h2; omega
  | succ n ih =>
    intro m hm h0
    have hs : ∀ d : Nat, d < 10 → 0 < d → UInt8.ofNat (48 + d) ≠ 48 := by decide
    rw [Lib.decDigits]
    by_cases h : m < 10
    · rw [dif_pos h]
      exact ⟨_, [], rfl, hs m h h0⟩
    · rw [dif_neg h]
      obtain ⟨c, t, e, hc⟩ := ih (m / 10) (by omega) (by omega)
      exact ⟨c, t ++ [UInt8.ofNat (48 + m % 10)], by rw [e]; rfl, hc⟩

theorem dw_nil {p : UInt8 → Bool} : ∀ {l : List UInt8}, l.dropWhile p = [] ↔ ∀ x ∈ l, p x = true
  | [] => by simp
  | a :: l => by
    rw [List.dropWhile_cons]
    by_cases h : p a = true
    · rw [if_pos h, dw_nil]
      simp [h]
    · rw [if_neg h]
      simp [h]

end Go.Proofs.YtonjkoeacedaiaaDoor.F
