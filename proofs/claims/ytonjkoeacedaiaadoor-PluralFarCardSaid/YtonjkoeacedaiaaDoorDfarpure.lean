/- What dec.Int tells (for layer 4); PluralFar's pure statement. -/
import Derived.Test.YtonjkoeacedaiaaDoorFx2
namespace Go.Proofs.YtonjkoeacedaiaaDoor.F
open Go.RowKit Go.Proofs.YtonjkoeacedaiaaDoor Go.Proofs.YtonjkoeacedaiaaDoor.P4 Go.Proofs.YtonjkoeacedaiaaDoorW.PrintWords
set_option linter.unusedVariables false
set_option linter.unusedSimpArgs false

abbrev bl (s : ByteArray) : List UInt8 := s.data.toList
theorem tl (s : ByteArray) : s.toList = bl s := Lib.toList_data s
theorem sz (s : ByteArray) : s.size = (bl s).length := Lib.size_eq s
theorem ba_ext {a b : ByteArray} (h : bl a = bl b) : a = b := by
  cases a; cases b; congr 1; exact Array.ext' h
theorem bl_app (a b : ByteArray) : bl (a ++ b) = bl a ++ bl b := by show (a ++ b).data.toList = _; rw [ByteArray.data_append, Array.toList_append]
theorem bl_ext (s : ByteArray) (a b : Nat) : bl (s.extract a b) = ((bl s).drop a).take (b - a) := Lib.extract_data s a b
theorem bl_mk (l : List UInt8) : bl ⟨l.toArray⟩ = l := rfl
theorem mk_bl (s : ByteArray) : (⟨(bl s).toArray⟩ : ByteArray) = s := ba_ext rfl
theorem sz_app (a b : ByteArray) : (a ++ b).size = a.size + b.size := ByteArray.size_append
theorem w64 (x : Int) (h0 : -9223372036854775808 ≤ x) (h1 : x ≤ 9223372036854775807) : wrap64 x = x := by unfold wrap64; omega
theorem bt_nat (s : ByteArray) (i : Nat) (c : UInt8) (h : (bl s)[i]? = some c) : bt s (i : Int) = c.toNat := by
  obtain ⟨hl, e⟩ := List.getElem?_eq_some_iff.1 h
  have hl' : i < s.size := by rw [sz]; exact hl
  unfold bt
  rw [Int.toNat_natCast, dif_pos hl']
  rw [← e]
  rfl
def isDig (c : UInt8) : Bool := decide (48 ≤ c.toNat) && decide (c.toNat ≤ 57)
/-- Half turned round: what stands behind i swaps. -/
def Turn (l xs : List Int) (i : Nat) : Prop := xs.length = l.length ∧ ∀ p, p < l.length → xs[p]? = if p < i ∨ l.length - 1 - i < p then l[l.length - 1 - p]? else l[p]?
theorem turn_step (l xs : List Int) (i : Nat) (h : Turn l xs i) (hi : i < l.length - 1 - i) :
    Turn l ((xs.set i (rd xs ((l.length - 1 - i : Nat) : Int))).set (l.length - 1 - i) (rd xs (i : Int))) (i + 1) := by
  obtain ⟨h1, h2⟩ := h
  refine ⟨by simp [h1], fun p hp => ?_⟩
  have ha := h2 i (by omega)
  have hb := h2 (l.length - 1 - i) (by omega)
  rw [if_neg (by omega)] at ha
  rw [if_neg (by omega)] at hb
  have ea : rd xs (i : Int) = l.getD i 0 := by
    unfold rd
    rw [Int.toNat_natCast, List.getD_eq_getElem?_getD, ha, ← List.getD_eq_getElem?_getD]
  have eb : rd xs ((l.length - 1 - i : Nat) : Int) = l.getD (l.length - 1 - i) 0 := by
    unfold rd
    rw [Int.toNat_natCast, List.getD_eq_getElem?_getD, hb, ← List.getD_eq_getElem?_getD]
  have gd : ∀ q, q < l.length → l[q]? = some (l.getD q 0) := fun q hq => by rw [List.getD_eq_getElem?_getD, List.getElem?_eq_getElem hq]; rfl
  rw [ea, eb, List.getElem?_set]
  by_cases e1 : l.length - 1 - i = p
  · subst e1
    rw [if_pos rfl, if_pos (by simp; omega), if_pos (by omega), show l.length - 1 - (l.length - 1 - i) = i by omega, gd i (by omega)]
  · rw [if_neg e1, List.getElem?_set]
    by_cases e2 : i = p
    · subst e2
      rw [if_pos rfl, if_pos (by omega), if_pos (by omega), gd _ (by omega)]
    · rw [if_neg e2, h2 p hp]
      by_cases c : p < i ∨ l.length - 1 - i < p
      · rw [if_pos c, if_pos (by omega)]
      · rw [if_neg c, if_neg (by omega)]
theorem turn_end (l xs : List Int) (i : Nat) (h : Turn l xs i) (hi : l.length ≤ 2 * i + 1) : xs = l.reverse := by
  obtain ⟨h1, h2⟩ := h
  apply List.ext_getElem?
  intro p
  by_cases hp : p < l.length
  · rw [h2 p hp, List.getElem?_reverse hp]
    by_cases c : p < i ∨ l.length - 1 - i < p
    · rw [if_pos c]
    · rw [if_neg c, show l.length - 1 - p = p by omega]
  · rw [List.getElem?_eq_none (by omega), List.getElem?_eq_none (by simp; omega)]
theorem rev_loop (l : List Int) (hl : l.length ≤ 1000) : ∀ (d i : Nat) (xs : List Int), l.length ≤ 2 * i + 1 + d → i ≤ l.length → Turn l xs i → ∃ k, slices_Reverse_byte_byte.l0 k xs (i : Int) ((l.length : Int) - 1 - i) = some l.reverse := by
  intro d
  induction d with
  | zero =>
    intro i xs hd hi h
    refine ⟨1, ?_⟩
    rw [slices_Reverse_byte_byte.l0, if_neg (by omega), turn_end l xs i h (by omega)]
  | succ d ih =>
    intro i xs hd hi h
    by_cases hlt : i < l.length - 1 - i
    · obtain ⟨k, hk⟩ := ih (i + 1) _ (by omega) (by omega) (turn_step l xs i h hlt)
      refine ⟨k + 1, ?_⟩
      have hx : ((l.length : Int) - 1 - i) = ((l.length - 1 - i : Nat) : Int) := by omega
      rw [slices_Reverse_byte_byte.l0, hx, if_pos (by omega), if_pos (by omega), if_pos (by rw [h.1]; omega), if_pos (by omega), if_pos (by rw [h.1]; omega)]
      rw [Int.toNat_natCast, Int.toNat_natCast, w64 _ (by omega) (by omega), w64 _ (by omega) (by omega)]
      rw [show ((i : Int) + 1) = ((i + 1 : Nat) : Int) by simp, show (((l.length - 1 - i : Nat) : Int) - 1) = (l.length : Int) - 1 - ((i + 1 : Nat) : Int) by omega]
      exact hk
    · refine ⟨1, ?_⟩
      rw [slices_Reverse_byte_byte.l0, if_neg (by omega), turn_end l xs i h (by omega)]
theorem rev_ok (l : List Int) (hl : l.length ≤ 1000) : ∃ k, slices_Reverse_byte_byte.f k l = some l.reverse := by
  obtain ⟨k, hk⟩ := rev_loop l hl l.length 0 l (by omega) (by omega) ⟨rfl, fun p hp => by rw [if_neg (by omega)]⟩
  refine ⟨k, ?_⟩
  unfold slices_Reverse_byte_byte.f
  rw [w64 _ (by omega) (by omega)]
  simpa using hk

/-- A number's digits, the last one first. -/
def revD (m : Nat) : List Int := if h : m < 10 then [48 + (m : Int)] else (48 + ((m % 10 : Nat) : Int)) :: revD (m / 10)
termination_by m
decreasing_by omega
theorem revD_lt {m : Nat} (h : m < 10) : revD m = [48 + (m : Int)] := by rw [revD, dif_pos h]
theorem revD_ge {m : Nat} (h : ¬ m < 10) : revD m = (48 + ((m % 10 : Nat) : Int)) :: revD (m / 10) := by rw [revD, dif_neg h]
theorem revD_dec : ∀ (n m : Nat), m ≤ n → (revD m).reverse.map (fun z => UInt8.ofNat z.toNat) = Lib.decDigits m := by
  intro n
  induction n with
  | zero =>
    intro m hm
    obtain rfl : m = 0 := by omega
    rw [revD_lt (by omega), Lib.decDigits, dif_pos (by omega)]
    rfl
  | succ n ih =>
    intro m hm
    rw [Lib.decDigits]
    by_cases h : m < 10
    · rw [revD_lt h, dif_pos h]
      show [UInt8.ofNat (48 + (m : Int)).toNat] = [UInt8.ofNat (48 + m)]
      rw [show (48 + (m : Int)).toNat = 48 + m by omega]
    · rw [revD_ge h, dif_neg h, List.reverse_cons, List.map_append, ih (m / 10) (by omega)]
      show _ ++ [UInt8.ofNat (48 + ((m % 10 : Nat) : Int)).toNat] = _
      rw [show (48 + ((m % 10 : Nat) : Int)).toNat = 48 + m % 10 by omega]
theorem revD_len : ∀ (n m : Nat), m < 10 ^ (n + 1) → (revD m).length ≤ n + 1 := by
  intro n
  induction n with
  | zero => intro m hm; rw [revD_lt (by omega)]; simp
  | succ n ih =>
    intro m hm
    by_cases h : m < 10
    · rw [revD_lt h]; simp
    · rw [revD_ge h, List.length_cons]
      have := ih (m / 10) (by rw [Nat.pow_succ] at hm; omega)
      omega
/-- A round of Int's loop. -/
theorem int_step (n : Int) (s : Bool) (acc : List Int) (k : Nat) (h0 : -9223372036854775808 ≤ n) (h1 : n ≤ 9223372036854775807) (ha : acc.length ≤ 1000) :
    dec_Int.j1 (k + 1) n s acc true = dec_Int.l0 k (Int.tdiv n 10) s (acc ++ [48 + ((n.natAbs % 10 : Nat) : Int)]) false := by
  have hm1 := Int.tmod_lt_of_pos n (show (0 : Int) < 10 by decide)
  have htd : Int.tdiv n 10 * 10 + Int.tmod n 10 = n := by rw [Int.mul_comm]; exact Int.mul_tdiv_add_tmod n 10
  have hw : wrap64 (Int.tdiv n 10) = Int.tdiv n 10 := by
    by_cases hn : 0 ≤ n
    · rw [Int.tdiv_eq_ediv_of_nonneg hn]; exact w64 _ (by omega) (by omega)
    · obtain ⟨p, rfl⟩ : ∃ p, n = -p := ⟨-n, by omega⟩
      rw [Int.neg_tdiv, Int.tdiv_eq_ediv_of_nonneg (by omega)]; exact w64 _ (by omega) (by omega)
  rw [dec_Int.j1, if_pos rfl, hw]
  by_cases hn : 0 ≤ n
  · have e : Int.tmod n 10 = ((n.natAbs % 10 : Nat) : Int) := by rw [Int.tmod_eq_emod_of_nonneg hn]; omega
    rw [e, if_neg (by omega), if_pos (by omega), w64 _ (by omega) (by omega)]
    rw [show (48 + ((n.natAbs % 10 : Nat) : Int)) % 256 = 48 + ((n.natAbs % 10 : Nat) : Int) by omega]
  · have e : Int.tmod n 10 = -((n.natAbs % 10 : Nat) : Int) := by
      obtain ⟨p, rfl⟩ : ∃ p, n = -p := ⟨-n, by omega⟩
      rw [Int.neg_tmod, Int.tmod_eq_emod_of_nonneg (by omega)]; omega
    rw [e]
    by_cases hz : n.natAbs % 10 = 0
    · rw [hz]
      rw [if_neg (by decide), if_pos (by omega), show wrap64 (48 + -((0 : Nat) : Int)) % 256 = 48 + ((0 : Nat) : Int) by rw [w64 _ (by decide) (by decide)]; decide]
    · rw [if_pos (by omega), if_pos (by omega), Int.neg_neg, w64 ((n.natAbs % 10 : Nat) : Int) (by omega) (by omega), w64 _ (by omega) (by omega)]
      rw [show (48 + ((n.natAbs % 10 : Nat) : Int)) % 256 = 48 + ((n.natAbs % 10 : Nat) : Int) by omega]
theorem abs_div (n : Int) : (Int.tdiv n 10).natAbs = n.natAbs / 10 := by
  by_cases hn : 0 ≤ n
  · rw [Int.tdiv_eq_ediv_of_nonneg hn]; omega
  · obtain ⟨p, rfl⟩ : ∃ p, n = -p := ⟨-n, by omega⟩
    rw [Int.neg_tdiv, Int.tdiv_eq_ediv_of_nonneg (by omega)]; omega
theorem int_loop (s : Bool) : ∀ (j m : Nat) (n : Int) (acc : List Int), m ≤ j → n.natAbs = m → -9223372036854775808 ≤ n → n ≤ 9223372036854775807 → acc.length + (revD m).length ≤ 500 →
    ∃ k, dec_Int.j1 k n s acc true = some (s, strOfNums (acc ++ revD m).reverse, 0) := by
  intro j
  induction j with
  | zero =>
    intro m n acc hj hm h0 h1 ha
    have hn : n = 0 := by omega
    subst hn
    have hmz : m = 0 := by omega
    subst hmz
    rw [revD_lt (by omega)] at ha ⊢
    obtain ⟨k, hk⟩ := rev_ok (acc ++ [48 + ((0 : Nat) : Int)]) (by simp at ha ⊢; omega)
    refine ⟨k + 3, ?_⟩
    rw [int_step 0 s acc (k + 2) (by decide) (by decide) (by omega)]
    show dec_Int.l0 (k + 2) 0 s (acc ++ [48 + ((0 : Nat) : Int)]) false = _
    rw [dec_Int.l0, if_neg (by decide)]
    show dec_Int.j1 (k + 1) 0 s (acc ++ [48 + ((0 : Nat) : Int)]) false = _
    rw [dec_Int.j1, if_neg (by decide), hk, Option.bind_some]
  | succ j ih =>
    intro m n acc hj hm h0 h1 ha
    by_cases h10 : m < 10
    · rw [revD_lt h10] at ha ⊢
      obtain ⟨k, hk⟩ := rev_ok (acc ++ [48 + (m : Int)]) (by simp at ha ⊢; omega)
      refine ⟨k + 3, ?_⟩
      have hz : Int.tdiv n 10 = 0 := by have := abs_div n; omega
      rw [int_step n s acc (k + 2) h0 h1 (by omega), hz, hm, Nat.mod_eq_of_lt h10, dec_Int.l0, if_neg (by decide)]
      show dec_Int.j1 (k + 1) 0 s (acc ++ [48 + (m : Int)]) false = _
      rw [dec_Int.j1, if_neg (by decide), hk, Option.bind_some]
    · rw [revD_ge h10] at ha ⊢
      have hab := abs_div n
      obtain ⟨k, hk⟩ := ih (m / 10) (Int.tdiv n 10) (acc ++ [48 + ((m % 10 : Nat) : Int)]) (by omega) (by rw [hab, hm]) (by omega) (by omega) (by simp at ha ⊢; omega)
      refine ⟨k + 2, ?_⟩
      have hnz : (Int.tdiv n 10 != 0) = true := by rw [bne_iff_ne]; omega
      rw [int_step n s acc (k + 1) h0 h1 (by simp at ha; omega), hm, dec_Int.l0, if_neg (by decide), hnz, hk]
      simp
/-- What Int tells. -/
theorem int_ok (n : Int) (h0 : -9223372036854775808 ≤ n) (h1 : n ≤ 9223372036854775807) : ∃ k, dec_Int.f k n = some (decide (n < 0), ⟨(Lib.decDigits n.natAbs).toArray⟩, 0) := by
  have hl : (revD n.natAbs).length ≤ 20 := revD_len 19 _ (by omega)
  obtain ⟨k, hk⟩ := int_loop (decide (n < 0)) n.natAbs n.natAbs n [] (Nat.le_refl _) rfl h0 h1 (by simp; omega)
  refine ⟨k + 1, ?_⟩
  unfold dec_Int.f
  rw [dec_Int.l0, if_pos rfl, hk, List.nil_append]
  congr 3
  apply ba_ext
  rw [show bl (strOfNums (revD n.natAbs).reverse) = (revD n.natAbs).reverse.map fun z => UInt8.ofNat z.toNat from strOfNums_data _, revD_dec n.natAbs _ (Nat.le_refl _)]

theorem dec_all : ∀ (n m : Nat), m ≤ n → ∀ c ∈ Lib.decDigits m, isDig c = true := by
  intro n
  induction n with
  | zero =>
    intro m hm c hc
    obtain rfl : m = 0 := by omega
    rw [Lib.decDigits, dif_pos (by omega)] at hc
    obtain rfl := List.mem_singleton.1 hc
    decide
  | succ n ih =>
    intro m hm c hc
    rw [Lib.decDigits] at hc
    have hs : ∀ d : Nat, d < 10 → isDig (UInt8.ofNat (48 + d)) = true := by decide
    by_cases h : m < 10
    · rw [dif_pos h] at hc
      obtain rfl := List.mem_singleton.1 hc
      exact hs m h
    · rw [dif_neg h] at hc
      rcases List.mem_append.1 hc with hc | hc
      · exact ih (m / 10) (by omega) c hc
      · obtain rfl := List.mem_singleton.1 hc
        exact hs _ (by omega)
theorem dec_head : ∀ (n m : Nat), m ≤ n → 0 < m → ∃ c t, Lib.decDigits m = c :: t ∧ c ≠ 48 := by
  intro n
  induction n with
  | zero => intro m h1 h2; omega
  | succ n ih =>
    intro m hm h0
    have hs : ∀ d : Nat, d < 10 → 0 < d → UInt8.ofNat (48 + d) ≠ 48 := by decide
    rw [Lib.decDigits]
    by_cases h : m < 10
    · rw [dif_pos h]
      exact ⟨_, [], rfl, hs m h h0⟩
    · rw [dif_neg h]
      obtain ⟨c, t, e, hc⟩ := ih (m / 10) (by omega) (by omega)
      exact ⟨c, t ++ [UInt8.ofNat (48 + m % 10)], by rw [e]; rfl, hc⟩

theorem dw_nil {p : UInt8 → Bool} : ∀ {l : List UInt8}, l.dropWhile p = [] ↔ ∀ x ∈ l, p x = true
  | [] => by simp
  | a :: l => by
    rw [List.dropWhile_cons]
    by_cases h : p a = true
    · rw [if_pos h, dw_nil]
      simp [h]
    · rw [if_neg h]
      simp [h]

/-! ### the last digits -/
theorem dg_val (x : Nat) (h : x < 10) : ((UInt8.ofNat (48 + x)).toNat : Int) - 48 = x := by
  have : (UInt8.ofNat (48 + x)).toNat = 48 + x := by
    show (48 + x) % 256 = _
    omega
  omega
theorem last1_app (l : List UInt8) (c : UInt8) : lastV 1 (l ++ [c]) = (c.toNat : Int) - 48 := by
  unfold lastV
  rw [List.length_append, show l.length + [c].length - 1 = l.length by simp, List.drop_left]
  show (0 : Int) * 10 + ((c.toNat : Int) - 48) = _
  omega
theorem last2_app (l : List UInt8) (a c : UInt8) : lastV 2 (l ++ [a, c]) = ((a.toNat : Int) - 48) * 10 + ((c.toNat : Int) - 48) := by
  unfold lastV
  rw [List.length_append, show l.length + [a, c].length - 2 = l.length by simp, List.drop_left]
  show ((0 : Int) * 10 + ((a.toNat : Int) - 48)) * 10 + ((c.toNat : Int) - 48) = _
  omega
theorem last_dec (x : Nat) : lastV 1 (Lib.decDigits x) = ((x % 10 : Nat) : Int) ∧ lastV 2 (Lib.decDigits x) = ((x % 100 : Nat) : Int) := by
  by_cases h1 : x < 10
  · rw [Lib.decDigits_one h1]
    have := dg_val x h1
    constructor
    · show (0 : Int) * 10 + (((UInt8.ofNat (48 + x)).toNat : Int) - 48) = _
      omega
    · show (0 : Int) * 10 + (((UInt8.ofNat (48 + x)).toNat : Int) - 48) = _
      omega
  · by_cases h2 : x < 100
    · rw [Lib.decDigits_two h1 h2]
      have e1 := dg_val (x / 10) (by omega)
      have e2 := dg_val (x % 10) (by omega)
      have l1 := last1_app [UInt8.ofNat (48 + x / 10)] (UInt8.ofNat (48 + x % 10))
      have l2 := last2_app [] (UInt8.ofNat (48 + x / 10)) (UInt8.ofNat (48 + x % 10))
      constructor
      · refine l1.trans ?_
        omega
      · refine l2.trans ?_
        omega
    · have e1 := dg_val (x / 10 % 10) (by omega)
      have e2 := dg_val (x % 10) (by omega)
      rw [Lib.decDigits, dif_neg h1, last1_app, Lib.decDigits, dif_neg (by omega), List.append_assoc]
      refine ⟨by omega, ?_⟩
      refine (last2_app _ _ _).trans ?_
      omega

/-! ### the languages -/
theorem pick_ru (L : List UInt8) (v : Int) (b : Bool) : pick ⟨#[114, 117]⟩ (table L v b) = rusC L v := by kernel_rfl
theorem pick_pl (L : List UInt8) (v : Int) (b : Bool) : pick ⟨#[112, 108]⟩ (table L v b) = polC L v := by kernel_rfl
theorem pick_ar (L : List UInt8) (v : Int) (b : Bool) : pick ⟨#[97, 114]⟩ (table L v b) = araC L b := by kernel_rfl
theorem pick_en (L : List UInt8) (v : Int) (b : Bool) : pick ⟨#[101, 110]⟩ (table L v b) = enC L v := by kernel_rfl
theorem Ld_dec (x : Nat) (h : 0 < x) : Ld ⟨(Lib.decDigits x).toArray⟩ 0 = Lib.decDigits x := by
  obtain ⟨c, t, e, hc⟩ := dec_head _ _ (Nat.le_refl x) h
  unfold Ld Lib.trimLeftB
  rw [Nat.sub_zero, show (⟨(Lib.decDigits x).toArray⟩ : ByteArray).size = (Lib.decDigits x).length from sz _]
  show ((Lib.decDigits x).take _).dropWhile _ = _
  rw [List.take_length, e, List.dropWhile_cons, if_neg (by simpa using hc)]
theorem bd_dec (x : Nat) : bd ⟨(Lib.decDigits x).toArray⟩ 0 = true := by
  unfold bd
  rw [Nat.sub_zero, show (⟨(Lib.decDigits x).toArray⟩ : ByteArray).size = (Lib.decDigits x).length from sz _]
  show (Lib.trimB ((Lib.decDigits x).drop _) 48).isEmpty = _
  rw [List.drop_length]
  rfl
theorem dec_ok (x : Nat) (h : x ≤ 100000000) : digOk ⟨(Lib.decDigits x).toArray⟩ 0 = true := by
  have h1 : (⟨(Lib.decDigits x).toArray⟩ : ByteArray).size = (Lib.decDigits x).length := sz _
  have h2 : (Lib.decDigits x).length ≤ 20 := by
    have e := revD_dec x x (Nat.le_refl _)
    rw [← e, List.length_map, List.length_reverse]
    exact revD_len 19 x (by omega)
  have h3 : ((⟨(Lib.decDigits x).toArray⟩ : ByteArray).data.toList.all fun c => decide (48 ≤ c.toNat) && decide (c.toNat ≤ 57)) = true := List.all_eq_true.2 fun c hc => dec_all _ _ (Nat.le_refl x) c hc
  unfold digOk
  rw [h3, h1]
  simp
  omega
/-- Where the last two digits are three or more, they alone count. -/
theorem alone (L : List UInt8) (h : 3 ≤ lastV 2 L) : (L == []) = false ∧ (L == [49]) = false ∧ (L == [50]) = false := by
  refine ⟨?_, ?_, ?_⟩
  all_goals
    rw [beq_eq_false_iff_ne]
    rintro rfl
    exact absurd h (by decide)
theorem far_all (L M : List UInt8) (h : 3 ≤ lastV 2 L) (h2 : lastV 2 L = lastV 2 M) (h1 : lastV 1 L = lastV 1 M) :
    rusC L 0 = rusC M 0 ∧ polC L 0 = polC M 0 ∧ araC L true = araC M true ∧ rankC ⟨#[101, 110]⟩ L true = rankC ⟨#[101, 110]⟩ M true ∧ enC M 0 = 0 := by
  obtain ⟨a1, a2, a3⟩ := alone L h
  obtain ⟨b1, b2, b3⟩ := alone M (by omega)
  unfold rusC polC araC rankC enC slavB
  rw [a1, a2, a3, b1, b2, b3, h1, h2]
  exact ⟨rfl, rfl, rfl, rfl, rfl⟩
theorem far_pure (n m : Int) : ∃ k, polyglotlaw04_PluralFar.f k n m = some true := by
  have hw : ∀ x : Int, 0 ≤ IntKind.u64.wrap x := fun x => by
    show 0 ≤ x % 18446744073709551616
    exact Int.emod_nonneg _ (by decide)
  obtain ⟨a, ha, ha3⟩ : ∃ a : Nat, wrap64 (3 + wrap64 (Int.tmod (IntKind.u64.wrap n) 97)) = (a : Int) ∧ 3 ≤ a ∧ a ≤ 99 := by
    have h1 : Int.tmod (IntKind.u64.wrap n) 97 = IntKind.u64.wrap n % 97 := Int.tmod_eq_emod_of_nonneg (hw n)
    rw [h1, w64 (IntKind.u64.wrap n % 97) (by omega) (by omega), w64 _ (by omega) (by omega)]
    exact ⟨(3 + IntKind.u64.wrap n % 97).toNat, by omega, by omega, by omega⟩
  obtain ⟨b, hb, hb1⟩ : ∃ b : Nat, wrap64 (1 + wrap64 (Int.tmod (IntKind.u64.wrap m) 100000)) = (b : Int) ∧ 1 ≤ b ∧ b ≤ 100000 := by
    have h1 : Int.tmod (IntKind.u64.wrap m) 100000 = IntKind.u64.wrap m % 100000 := Int.tmod_eq_emod_of_nonneg (hw m)
    rw [h1, w64 (IntKind.u64.wrap m % 100000) (by omega) (by omega), w64 _ (by omega) (by omega)]
    exact ⟨(1 + IntKind.u64.wrap m % 100000).toNat, by omega, by omega, by omega⟩
  have hc : wrap64 (wrap64 (100 * (b : Int)) + (a : Int)) = ((100 * b + a : Nat) : Int) := by
    rw [w64 (100 * (b : Int)) (by omega) (by omega), w64 _ (by omega) (by omega)]; omega
  obtain ⟨k1, e1⟩ := int_ok (a : Int) (by omega) (by omega)
  obtain ⟨k2, e2⟩ := int_ok ((100 * b + a : Nat) : Int) (by omega) (by omega)
  have lift : ∀ (x : Int) (k : Nat) r, dec_Int.f k x = some r → ∀ j, dec_Int.f (k + j) x = some r := fun x k r h j => by
    induction j with
    | zero => exact h
    | succ j ih => exact dec_Int.mono _ _ _ ih
  have f1 := lift _ _ _ e1 k2
  have f2 := lift _ _ _ e2 k1
  rw [Nat.add_comm] at f2
  rw [Int.natAbs_natCast, decide_eq_false (by omega)] at f1 f2
  refine ⟨k1 + k2, ?_⟩
  obtain ⟨x1, x2⟩ := last_dec a
  obtain ⟨y1, y2⟩ := last_dec (100 * b + a)
  obtain ⟨r1, r2, r3, r4, r5⟩ := far_all (Lib.decDigits a) (Lib.decDigits (100 * b + a)) (by rw [x2]; omega) (by rw [x2, y2]; omega) (by rw [x1, y1]; omega)
  have pA : ∀ lang : ByteArray, plural_Of.f lang false ⟨(Lib.decDigits a).toArray⟩ 0 = some (pick lang (table (Lib.decDigits a) 0 true)) := fun lang => by
    unfold plural_Of.f ofC
    rw [if_pos (dec_ok a (by omega))]
    show some (pick lang (table (Ld ⟨(Lib.decDigits a).toArray⟩ 0) 0 (bd ⟨(Lib.decDigits a).toArray⟩ 0))) = _
    rw [Ld_dec a (by omega), bd_dec]
  have pB : ∀ lang : ByteArray, plural_Of.f lang false ⟨(Lib.decDigits (100 * b + a)).toArray⟩ 0 = some (pick lang (table (Lib.decDigits (100 * b + a)) 0 true)) := fun lang => by
    unfold plural_Of.f ofC
    rw [if_pos (dec_ok (100 * b + a) (by omega))]
    show some (pick lang (table (Ld ⟨(Lib.decDigits (100 * b + a)).toArray⟩ 0) 0 (bd ⟨(Lib.decDigits (100 * b + a)).toArray⟩ 0))) = _
    rw [Ld_dec (100 * b + a) (by omega), bd_dec]
  have qA : plural_Rank.f ⟨#[101, 110]⟩ false ⟨(Lib.decDigits a).toArray⟩ 0 = some (rankC ⟨#[101, 110]⟩ (Lib.decDigits a) true) := by
    unfold plural_Rank.f rkC
    rw [if_pos (dec_ok a (by omega))]
    show some (rankC ⟨#[101, 110]⟩ (Ld ⟨(Lib.decDigits a).toArray⟩ 0) (bd ⟨(Lib.decDigits a).toArray⟩ 0)) = _
    rw [Ld_dec a (by omega), bd_dec]
  have qB : plural_Rank.f ⟨#[101, 110]⟩ false ⟨(Lib.decDigits (100 * b + a)).toArray⟩ 0 = some (rankC ⟨#[101, 110]⟩ (Lib.decDigits (100 * b + a)) true) := by
    unfold plural_Rank.f rkC
    rw [if_pos (dec_ok (100 * b + a) (by omega))]
    show some (rankC ⟨#[101, 110]⟩ (Ld ⟨(Lib.decDigits (100 * b + a)).toArray⟩ 0) (bd ⟨(Lib.decDigits (100 * b + a)).toArray⟩ 0)) = _
    rw [Ld_dec (100 * b + a) (by omega), bd_dec]
  unfold polyglotlaw04_PluralFar.f
  rw [show polyglotlaw04_head.f = some true from rfl, Option.bind_some, if_pos rfl, ha, hb, hc, f1, Option.bind_some, f2, Option.bind_some]
  simp only [pA, pB, qA, qB, pick_ru, pick_pl, pick_ar, pick_en, Option.bind_some, r1, r2, r3, r4, r5, if_true]
  rfl
theorem far_walk (n m : Int) (w : World) (hT : Asc w) : Calls Tryd.prog 5 #[.int .i64 n, .int .i64 m] w fun e w' => e = .returned (.bool true) ∧ Below w.heap.size w w' := by
  obtain ⟨k, hk⟩ := far_pure n m
  exact polyglotlaw04_PluralFar.calls k n m true w hk hT
end Go.Proofs.YtonjkoeacedaiaaDoor.F
