/- The order of numbers, and rounding: plain laws; DecOrders' pure statement. -/
import Derived.Test.YtonjkoeacedaiaaDoorSx8
import Derived.Test.YtonjkoeacedaiaaDoorDstrip
namespace Go.Proofs.YtonjkoeacedaiaaDoor.S
open Go.RowKit Go.Proofs.YtonjkoeacedaiaaDoor Go.Proofs.YtonjkoeacedaiaaDoor.G Go.Proofs.YtonjkoeacedaiaaDoor.U Go.Proofs.YtonjkoeacedaiaaDoor.R Go.Proofs.YtonjkoeacedaiaaDoor.PU Go.Proofs.YtonjkoeacedaiaaDoorW.PrintWords Go.Proofs.YtonjkoeacedaiaaDoorW.PrintMore
set_option linter.unusedVariables false
set_option linter.unusedSimpArgs false

/-! ### digits as a number -/
def dv (c : UInt8) : Nat := c.toNat - 48
def val (l : List UInt8) : Nat := l.foldl (fun n c => n * 10 + dv c) 0
theorem val_fold : ∀ (l : List UInt8) (n : Nat), l.foldl (fun n c => n * 10 + dv c) n = n * 10 ^ l.length + val l
  | [], n => by simp [val]
  | c :: t, n => by
    show t.foldl (fun n c => n * 10 + dv c) (n * 10 + dv c) = n * 10 ^ (t.length + 1) + t.foldl (fun n c => n * 10 + dv c) (0 * 10 + dv c)
    rw [val_fold t, val_fold t (0 * 10 + dv c), Nat.pow_succ, Nat.add_mul, Nat.add_mul, Nat.mul_assoc, Nat.mul_comm 10, Nat.zero_mul, Nat.zero_add, Nat.add_assoc]
theorem val_cons (c : UInt8) (t : List UInt8) : val (c :: t) = dv c * 10 ^ t.length + val t := by
  show t.foldl (fun n c => n * 10 + dv c) (0 * 10 + dv c) = _
  rw [val_fold, Nat.zero_mul, Nat.zero_add]
theorem val_app (a b : List UInt8) : val (a ++ b) = val a * 10 ^ b.length + val b := by
  show (a ++ b).foldl _ 0 = _
  rw [List.foldl_append, val_fold]
  rfl
theorem dig_le {c : UInt8} (h : isDig c = true) : 48 ≤ c.toNat ∧ c.toNat ≤ 57 := by simpa [isDig] using h
theorem digs_cons {c : UInt8} {t : List UInt8} (h : digs (c :: t) = true) : isDig c = true ∧ digs t = true := by simpa [digs] using h
theorem digs_app {a b : List UInt8} : digs (a ++ b) = (digs a && digs b) := List.all_append
theorem digs_of {a : List UInt8} (h : ∀ c ∈ a, isDig c = true) : digs a = true := List.all_eq_true.2 h
theorem digs_at {a : List UInt8} (h : digs a = true) : ∀ c ∈ a, isDig c = true := List.all_eq_true.1 h
theorem digs_rep (n : Nat) : digs (List.replicate n 48) = true := digs_of fun c hc => by rw [List.eq_of_mem_replicate hc]; rfl
theorem val_lt : ∀ {l : List UInt8}, digs l = true → val l < 10 ^ l.length
  | [], _ => by simp [val]
  | c :: t, h => by
    obtain ⟨hc, ht⟩ := digs_cons h
    have ih := val_lt ht
    have hd := dig_le hc
    have h9 : dv c * 10 ^ t.length ≤ 9 * 10 ^ t.length := Nat.mul_le_mul_right _ (by unfold dv; omega)
    rw [val_cons, List.length_cons, Nat.pow_succ]
    omega
theorem val_rep : ∀ n, val (List.replicate n 48) = 0
  | 0 => rfl
  | n + 1 => by rw [List.replicate_succ, val_cons, val_rep n, show dv 48 = 0 from rfl, Nat.zero_mul]
theorem two (P a b x y : Nat) (hx : x < P) (hy : y < P) : (a * P + x < b * P + y ↔ a < b ∨ a = b ∧ x < y) ∧ (a * P + x = b * P + y ↔ a = b ∧ x = y) := by
  rcases Nat.lt_trichotomy a b with h | h | h
  · have := Nat.mul_le_mul_right P (show a + 1 ≤ b from h)
    rw [Nat.add_mul] at this
    omega
  · subst h; omega
  · have := Nat.mul_le_mul_right P (show b + 1 ≤ a from h)
    rw [Nat.add_mul] at this
    omega
def sgn (a b : Nat) : Int := if a < b then -1 else if a = b then 0 else 1
theorem less_val : ∀ {x y : List UInt8}, digs x = true → digs y = true → x.length = y.length → (Op.bytesLess x y = true ↔ val x < val y) ∧ (x = y ↔ val x = val y)
  | [], [], _, _, _ => by simp [Op.bytesLess]
  | [], _ :: _, _, _, h => by simp at h
  | _ :: _, [], _, _, h => by simp at h
  | a :: x, b :: y, hx, hy, hl => by
    obtain ⟨ha, hx⟩ := digs_cons hx
    obtain ⟨hb, hy⟩ := digs_cons hy
    have hl : x.length = y.length := by simpa using hl
    obtain ⟨ih1, ih2⟩ := less_val hx hy hl
    have hxl := val_lt hx
    have hyl := val_lt hy
    rw [← hl] at hyl
    have h2 := two (10 ^ x.length) (dv a) (dv b) (val x) (val y) hxl hyl
    have hda := dig_le ha
    have hdb := dig_le hb
    have he : a = b ↔ dv a = dv b := by
      rw [← UInt8.toNat_inj]; unfold dv; omega
    have hlt : a < b ↔ dv a < dv b := by
      rw [UInt8.lt_iff_toNat_lt]; unfold dv; omega
    rw [val_cons, val_cons, ← hl, h2.1, h2.2]
    constructor
    · show (decide (a < b) || (a == b && Op.bytesLess x y)) = true ↔ _
      rw [Bool.or_eq_true, Bool.and_eq_true, decide_eq_true_iff, beq_iff_eq, hlt, he, ih1]
    · rw [List.cons.injEq, he, ih2]
theorem cmpS_val {x y : List UInt8} (hx : digs x = true) (hy : digs y = true) (hl : x.length = y.length) : cmpS x y = sgn (val x) (val y) := by
  obtain ⟨h1, h2⟩ := less_val hx hy hl
  unfold cmpS sgn
  by_cases h : val x < val y
  · rw [if_pos (h1.2 h), if_pos h]
  · rw [if_neg (fun hh => h (h1.1 hh)), if_neg h]
    by_cases e : val x = val y
    · rw [if_pos (by rw [beq_iff_eq]; exact h2.2 e), if_pos e]
    · rw [if_neg (by rw [beq_iff_eq]; exact fun hh => e (h2.1 hh)), if_neg e]

/-! ### noughts ahead -/
theorem dwn {p : UInt8 → Bool} : ∀ {l : List UInt8}, l.dropWhile p = [] ↔ ∀ c ∈ l, p c = true
  | [] => by simp
  | c :: t => by
    rw [List.dropWhile_cons]
    by_cases h : p c = true
    · rw [if_pos h, dwn]; simp [h]
    · rw [if_neg h]; simp [h]
theorem dw_head {p : UInt8 → Bool} : ∀ {l : List UInt8} {c : UInt8} {t : List UInt8}, l.dropWhile p = c :: t → p c = false
  | [], _, _, h => by simp at h
  | a :: l, c, t, h => by
    rw [List.dropWhile_cons] at h
    by_cases hp : p a = true
    · rw [if_pos hp] at h; exact dw_head h
    · rw [if_neg hp] at h
      obtain ⟨rfl, _⟩ := List.cons.inj h
      simpa using hp
theorem trim_val (l : List UInt8) : val (Lib.trimLeftS l [48]) = val l := by
  have h := dw48 l
  have : val l = val (List.replicate (l.length - (Lib.trimLeftS l [48]).length) 48 ++ Lib.trimLeftS l [48]) := congrArg val h
  rw [this, val_app, val_rep, Nat.zero_mul, Nat.zero_add]
theorem trim_digs {l : List UInt8} (h : digs l = true) : digs (Lib.trimLeftS l [48]) = true :=
  digs_of fun c hc => digs_at h c ((List.dropWhile_suffix _).subset hc)
theorem trim_low {l : List UInt8} (h : digs l = true) (h0 : 0 < (Lib.trimLeftS l [48]).length) : 10 ^ ((Lib.trimLeftS l [48]).length - 1) ≤ val (Lib.trimLeftS l [48]) := by
  cases hT : Lib.trimLeftS l [48] with
  | nil => rw [hT] at h0; simp at h0
  | cons c t =>
    have hd := trim_digs h
    rw [hT] at hd
    have hc := dig_le (digs_cons hd).1
    have hne := dw_head hT
    have hn : c ≠ 48 := by intro e; rw [e] at hne; exact absurd hne (by decide)
    have hn2 : c.toNat ≠ 48 := fun e => hn (UInt8.toNat_inj.1 e)
    have h1 : 1 * 10 ^ t.length ≤ dv c * 10 ^ t.length := Nat.mul_le_mul_right _ (by unfold dv; omega)
    rw [val_cons, List.length_cons, Nat.add_sub_cancel]
    omega
theorem strip_cmp {x y : List UInt8} (hx : digs x = true) (hy : digs y = true) :
    (if Lib.compareInt ((Lib.trimLeftS x [48]).length : Int) ((Lib.trimLeftS y [48]).length : Int) = 0 then cmpS (Lib.trimLeftS x [48]) (Lib.trimLeftS y [48]) else Lib.compareInt ((Lib.trimLeftS x [48]).length : Int) ((Lib.trimLeftS y [48]).length : Int)) = sgn (val x) (val y) := by
  have dx := trim_digs hx
  have dy := trim_digs hy
  have lx := trim_low hx
  have ly := trim_low hy
  rw [← trim_val x, ← trim_val y]
  generalize Lib.trimLeftS x [48] = X at *
  generalize Lib.trimLeftS y [48] = Y at *
  have ux := val_lt dx
  have uy := val_lt dy
  rcases Nat.lt_trichotomy X.length Y.length with h | h | h
  · have hc : Lib.compareInt (X.length : Int) (Y.length : Int) = -1 := by unfold Lib.compareInt; rw [if_pos (by omega)]
    rw [hc, if_neg (by decide)]
    have h2 := Nat.pow_le_pow_right (show 0 < 10 by decide) (show X.length ≤ Y.length - 1 by omega)
    have h3 := ly (by omega)
    unfold sgn
    rw [if_pos (by omega)]
  · have hc : Lib.compareInt (X.length : Int) (Y.length : Int) = 0 := by unfold Lib.compareInt; rw [if_neg (by omega), if_neg (by omega)]
    rw [hc, if_pos rfl]
    exact cmpS_val dx dy h
  · have hc : Lib.compareInt (X.length : Int) (Y.length : Int) = 1 := by unfold Lib.compareInt; rw [if_neg (by omega), if_pos (by omega)]
    rw [hc, if_neg (by decide)]
    have h2 := Nat.pow_le_pow_right (show 0 < 10 by decide) (show Y.length ≤ X.length - 1 by omega)
    have h3 := lx (by omega)
    unfold sgn
    rw [if_neg (by omega), if_neg (by omega)]
theorem or2 (k : Nat) (a b : Int) : cmp_Or_int.f (k + 3) [a, b] = some (if a = 0 then b else a) := by
  unfold cmp_Or_int.f
  show cmp_Or_int.l0 (k + 3) 0 [a, b] 2 0 = _
  rw [cmp_Or_int.l0, if_pos (by decide), if_pos (by decide), if_pos (by show (0 : Int) < 2; decide), show rd [a, b] 0 = a from rfl]
  by_cases ha : a = 0
  · rw [if_pos ha, if_pos ha, show wrap64 (0 + 1) = 1 from w64 _ (by decide) (by decide), cmp_Or_int.l0, if_pos (by decide), if_pos (by decide), if_pos (by show (1 : Int) < 2; decide), show rd [a, b] 1 = b from rfl]
    by_cases hb : b = 0
    · rw [if_pos hb, show wrap64 (1 + 1) = 2 from w64 _ (by decide) (by decide), cmp_Or_int.l0, if_neg (by decide), hb]
    · rw [if_neg hb]
  · rw [if_neg ha, if_neg ha]

/-! ### numbers -/
structure Num (D : List UInt8) (sc : Nat) : Prop where
  dig : digs D = true
  lt : sc < D.length
  max : D.length ≤ 150
def V (D : List UInt8) (sc : Nat) : Nat := val D * 10 ^ (200 - sc)
theorem sgn_mul (a b c : Nat) (hc : 0 < c) : sgn (a * c) (b * c) = sgn a b := by
  unfold sgn
  rcases Nat.lt_trichotomy a b with h | h | h
  · have := Nat.mul_lt_mul_of_pos_right h hc
    rw [if_pos this, if_pos h]
  · subst h; rw [if_neg (by omega), if_pos rfl, if_neg (by omega), if_pos rfl]
  · have := Nat.mul_lt_mul_of_pos_right h hc
    rw [if_neg (by omega), if_neg (by omega), if_neg (by omega), if_neg (by omega)]
theorem rep_ok (m : Nat) (h : m ≤ 1000) : strings_Repeat.f ⟨#[48]⟩ (m : Int) = some ⟨(List.replicate m 48).toArray⟩ := by
  unfold strings_Repeat.f
  rw [if_pos ⟨by omega, by omega, by rw [Int.toNat_natCast]; show 1 * _ ≤ _; omega⟩, Int.toNat_natCast]
  rw [show (⟨#[48]⟩ : ByteArray).data.toList = [48] from rfl, repeatL_one]
theorem tl_ok (s : ByteArray) : strings_TrimLeft.f s ⟨#[48]⟩ = some ⟨(Lib.trimLeftS (bl s) [48]).toArray⟩ := by
  unfold strings_TrimLeft.f
  rw [if_pos ⟨by decide, by decide⟩]
theorem size_ok (k : Nat) (na nb : Bool) {A B : List UInt8} {sa sb : Nat} (ha : Num A sa) (hb : Num B sb) :
    dec_Dec_size.f (k + 3) na ⟨A.toArray⟩ (sa : Int) nb ⟨B.toArray⟩ (sb : Int) = some (sgn (V A sa) (V B sb)) := by
  obtain ⟨n, hn⟩ : ∃ n : Nat, mx (sa : Int) (sb : Int) = (n : Int) ∧ sa ≤ n ∧ sb ≤ n ∧ n ≤ 150 := by
    have h1 := ha.lt; have h2 := ha.max; have h3 := hb.lt; have h4 := hb.max
    unfold mx
    by_cases h : sa < sb
    · exact ⟨sb, by rw [if_pos (by omega)], by omega, by omega, by omega⟩
    · exact ⟨sa, by rw [if_neg (by omega)], by omega, by omega, by omega⟩
  have h2 := ha.max
  have h4 := hb.max
  have hza : (⟨A.toArray⟩ : ByteArray).size = A.length := sz _
  have hzb : (⟨B.toArray⟩ : ByteArray).size = B.length := sz _
  have zr : ∀ m, (⟨(List.replicate m 48).toArray⟩ : ByteArray).size = m := fun m => by rw [sz, bl_mk, List.length_replicate]
  unfold dec_Dec_size.f
  rw [hn.1, w64 _ (by omega) (by omega), w64 _ (by omega) (by omega), show (n : Int) - (sa : Int) = ((n - sa : Nat) : Int) by omega, show (n : Int) - (sb : Int) = ((n - sb : Nat) : Int) by omega]
  rw [rep_ok _ (by omega), Option.bind_some, if_pos (by rw [hza, zr]; omega), rep_ok _ (by omega), Option.bind_some, if_pos (by rw [hzb, zr]; omega), tl_ok, Option.bind_some, tl_ok, Option.bind_some]
  unfold cmp_Compare_int.f cmp_Compare_string.f
  rw [Option.bind_some, Option.bind_some, or2, Option.bind_some]
  simp only [sz, tl, bl_app, bl_mk]
  have da : digs (A ++ List.replicate (n - sa) 48) = true := by rw [digs_app, ha.dig, digs_rep]; rfl
  have db : digs (B ++ List.replicate (n - sb) 48) = true := by rw [digs_app, hb.dig, digs_rep]; rfl
  rw [strip_cmp da db, val_app, val_app, val_rep, val_rep, List.length_replicate, List.length_replicate, Nat.add_zero, Nat.add_zero, ← sgn_mul _ _ (10 ^ (200 - n)) (Nat.pow_pos (by decide)), Nat.mul_assoc, Nat.mul_assoc, ← Nat.pow_add, ← Nat.pow_add, show n - sa + (200 - n) = 200 - sa by omega, show n - sb + (200 - n) = 200 - sb by omega]
  rfl
theorem val_zero : ∀ {l : List UInt8}, digs l = true → (val l = 0 ↔ ∀ c ∈ l, c = 48)
  | [], _ => by simp [val]
  | c :: t, h => by
    obtain ⟨hc, ht⟩ := digs_cons h
    have ih := val_zero ht
    have hp : 0 < 10 ^ t.length := Nat.pow_pos (by decide)
    have hd := dig_le hc
    have he : c = 48 ↔ dv c = 0 := by
      rw [← UInt8.toNat_inj]; unfold dv; show c.toNat = 48 ↔ _; omega
    rw [val_cons, Nat.add_eq_zero_iff, Nat.mul_eq_zero, ih, List.forall_mem_cons, he]
    constructor
    · rintro ⟨h1 | h1, h2⟩
      · exact ⟨h1, h2⟩
      · omega
    · rintro ⟨h1, h2⟩; exact ⟨Or.inl h1, h2⟩
theorem trimS_nil (l : List UInt8) : Lib.trimS l [48] = [] ↔ ∀ c ∈ l, c = 48 := by
  have hc : ∀ c : UInt8, ([48] : List UInt8).contains c = true ↔ c = 48 := fun c => by simp
  unfold Lib.trimS Lib.trimLeftS Lib.trimRightS
  rw [dwn]
  constructor
  · intro h
    cases hR : l.reverse.dropWhile fun x => ([48] : List UInt8).contains x with
    | nil =>
      intro c hcm
      exact (hc c).1 (dwn.1 hR c (List.mem_reverse.2 hcm))
    | cons a t =>
      have h1 := dw_head hR
      rw [hR] at h
      have h2 := h a (by simp)
      rw [h1] at h2
      cases h2
  · intro h c hcm
    have hcm2 := (List.dropWhile_suffix _).subset (List.mem_reverse.1 hcm)
    exact (hc c).2 (h c (List.mem_reverse.1 hcm2))
theorem zero_ok (n : Bool) {A : List UInt8} {sa : Nat} (ha : Num A sa) (s : Int) : dec_Dec_Zero.f n ⟨A.toArray⟩ s = some (decide (V A sa = 0)) := by
  have hza : (⟨A.toArray⟩ : ByteArray).size = A.length := sz _
  have h2 := ha.max
  have hp : 0 < 10 ^ (200 - sa) := Nat.pow_pos (by decide)
  unfold dec_Dec_Zero.f strings_Trim.f
  rw [if_pos ⟨by omega, by decide, by decide⟩, Option.bind_some, tl]
  refine congrArg some ?_
  show (Lib.trimS A [48] == []) = _
  rw [Bool.eq_iff_iff, beq_iff_eq, trimS_nil, ← val_zero ha.dig, decide_eq_true_iff]
  unfold V
  rw [Nat.mul_eq_zero]
  constructor
  · exact Or.inl
  · rintro (h | h)
    · exact h
    · omega
def S (neg : Bool) (v : Nat) : Int := if neg = true then -(v : Int) else v
def isg (x y : Int) : Int := if x < y then -1 else if x = y then 0 else 1
theorem sgn_or (a b : Nat) : sgn a b = -1 ∨ sgn a b = 0 ∨ sgn a b = 1 := by
  unfold sgn
  split
  · exact Or.inl rfl
  · split
    · exact Or.inr (Or.inl rfl)
    · exact Or.inr (Or.inr rfl)
theorem j0_ok (k : Nat) (x y na nb : Bool) {A B : List UInt8} {sa sb : Nat} (ha : Num A sa) (hb : Num B sb) :
    dec_Dec_Compare.j0 (k + 6) x y na ⟨A.toArray⟩ (sa : Int) nb ⟨B.toArray⟩ (sb : Int) = some (if x = true ∧ y = false then -1 else if y = true ∧ x = false then 1 else if x = true then -sgn (V A sa) (V B sb) else sgn (V A sa) (V B sb)) := by
  have hS := size_ok k na nb ha hb
  have hw : wrap64 (-sgn (V A sa) (V B sb)) = -sgn (V A sa) (V B sb) := w64 _ (by rcases sgn_or (V A sa) (V B sb) with h | h | h <;> rw [h] <;> decide) (by rcases sgn_or (V A sa) (V B sb) with h | h | h <;> rw [h] <;> decide)
  rw [dec_Dec_Compare.j0]
  cases x <;> cases y <;> simp only [dec_Dec_Compare.j1, dec_Dec_Compare.j2, hS, hw, Bool.not_true, Bool.not_false, Bool.false_eq_true, if_true, if_false, and_self, and_true, and_false, true_and, false_and, reduceCtorEq, Option.bind_some]
theorem compare_ok (k : Nat) (na nb : Bool) {A B : List UInt8} {sa sb : Nat} (ha : Num A sa) (hb : Num B sb) :
    dec_Dec_Compare.f (k + 6) na ⟨A.toArray⟩ (sa : Int) nb ⟨B.toArray⟩ (sb : Int) = some (isg (S na (V A sa)) (S nb (V B sb))) := by
  have za := zero_ok na ha (sa : Int)
  have zb := zero_ok nb hb (sb : Int)
  have hj := fun x y => j0_ok k x y na nb ha hb
  unfold dec_Dec_Compare.f
  rw [za, zb]
  simp only [Option.bind_some, hj]
  generalize V A sa = a
  generalize V B sb = b
  unfold isg S sgn
  cases na <;> cases nb <;> by_cases h1 : a = 0 <;> by_cases h2 : b = 0 <;> simp [h1, h2] <;> (try split) <;> (try split) <;> (try split) <;> (try split) <;> (try omega)

/-! ### Right -/
theorem right_loop (n : Bool) (A : List UInt8) (sc : Int) (hA : A.length ≤ 60) (h0 : 0 < A.length) : ∀ (d i : Nat), A.length - i ≤ d → i ≤ A.length → (∀ c ∈ A.take i, isDig c = true) →
    ∃ b, polyglotlaw02_Right.l0 (d + 1) (i : Int) n ⟨A.toArray⟩ sc = some b ∧ (b = true → digs A = true) := by
  have hz : (⟨A.toArray⟩ : ByteArray).size = A.length := sz _
  have fin : ∀ (i k : Nat), A.length ≤ i → i ≤ A.length → (∀ c ∈ A.take i, isDig c = true) → ∃ b, polyglotlaw02_Right.l0 (k + 1) (i : Int) n ⟨A.toArray⟩ sc = some b ∧ (b = true → digs A = true) := by
    intro i k h1 h2 h3
    have hd : digs A = true := digs_of (by rw [List.take_of_length_le h1] at h3; exact h3)
    rw [polyglotlaw02_Right.l0, hz, if_neg (by omega), if_pos (by omega)]
    split
    · exact ⟨_, rfl, fun _ => hd⟩
    · exact ⟨_, rfl, fun _ => hd⟩
  intro d
  induction d with
  | zero => intro i h1 h2 h3; exact fin i 0 (by omega) h2 h3
  | succ d ih =>
    intro i h1 h2 h3
    by_cases hi : i < A.length
    · have hc : (bl ⟨A.toArray⟩)[i]? = some A[i] := List.getElem?_eq_getElem hi
      rw [polyglotlaw02_Right.l0, hz, if_pos (by omega), if_pos (by omega), bt_nat _ i _ hc, digit_f, Option.bind_some]
      by_cases hg : isDig A[i] = true
      · rw [if_pos hg, w64 _ (by omega) (by omega), show (i : Int) + 1 = ((i + 1 : Nat) : Int) by omega]
        refine ih (i + 1) (by omega) (by omega) ?_
        intro c hcm
        rw [List.take_add_one, List.mem_append] at hcm
        rcases hcm with h | h
        · exact h3 c h
        · rw [List.getElem?_eq_getElem hi] at h
          have : c = A[i] := by simpa using h
          rw [this]; exact hg
      · rw [if_neg hg]
        exact ⟨false, rfl, fun h => by cases h⟩
    · exact fin i (d + 1) (by omega) h2 h3
theorem right_any (n : Bool) (A : List UInt8) (sc : Int) (k : Nat) (hk : 100 ≤ k) : ∃ b, polyglotlaw02_Right.f k n ⟨A.toArray⟩ sc = some b ∧ (b = true → ∃ s : Nat, sc = s ∧ Num A s ∧ A.length ≤ 60) := by
  have hz : (⟨A.toArray⟩ : ByteArray).size = A.length := sz _
  obtain ⟨j, rfl⟩ : ∃ j, k = j + 61 + 1 := ⟨k - 62, by omega⟩
  have hj : ∀ x, polyglotlaw02_Right.j0 (j + 61 + 1) true n ⟨A.toArray⟩ x = some false := fun x => by rw [polyglotlaw02_Right.j0, if_pos rfl]
  unfold polyglotlaw02_Right.f
  rw [hz]
  by_cases h1 : sc < 0
  · rw [if_pos h1, hj]; exact ⟨false, rfl, fun h => by cases h⟩
  rw [if_neg h1]
  by_cases h2 : sc ≥ A.length
  · rw [if_pos h2, hj]; exact ⟨false, rfl, fun h => by cases h⟩
  rw [if_neg h2]
  by_cases h3 : A.length > 60
  · rw [show decide ((A.length : Int) > 60) = true from decide_eq_true (by omega), hj]; exact ⟨false, rfl, fun h => by cases h⟩
  rw [show decide ((A.length : Int) > 60) = false from decide_eq_false (by omega), polyglotlaw02_Right.j0, if_neg (by decide)]
  obtain ⟨b, hb, hd⟩ := right_loop n A sc (by omega) (by omega) (j + 60) 0 (by omega) (by omega) (by simp)
  exact ⟨b, hb, fun h => ⟨sc.toNat, by omega, ⟨hd h, by omega, by omega⟩, by omega⟩⟩

/-! ### Round -/
theorem dv_succ {c : UInt8} (h : isDig c = true) (h9 : c.toNat < 57) : dv (c.toNat + 1).toUInt8 = dv c + 1 ∧ isDig (c.toNat + 1).toUInt8 = true := by
  have hd := dig_le h
  have e : ((c.toNat + 1).toUInt8).toNat = c.toNat + 1 := by
    show (c.toNat + 1) % 256 = _
    omega
  constructor
  · unfold dv; rw [e]; omega
  · unfold isDig; rw [e]; simp; omega
theorem inc_ok : ∀ (r : List UInt8), digs r = true → val (incR r).reverse = val r.reverse + 1 ∧ digs (incR r) = true ∧ r.length ≤ (incR r).length ∧ (incR r).length ≤ r.length + 1
  | [], _ => ⟨rfl, rfl, by decide, by decide⟩
  | c :: t, h => by
    obtain ⟨hc, ht⟩ := digs_cons h
    have hd := dig_le hc
    have e : incR (c :: t) = if c.toNat < 57 then (c.toNat + 1).toUInt8 :: t else 48 :: incR t := rfl
    rw [e, List.reverse_cons, val_app, val_cons c [], show val [] = 0 from rfl]
    by_cases h9 : c.toNat < 57
    · obtain ⟨h1, h2⟩ := dv_succ hc h9
      rw [if_pos h9, List.reverse_cons, val_app, val_cons _ [], h1, show val [] = 0 from rfl]
      refine ⟨by simp; omega, by simp [digs] at ht ⊢; exact ⟨h2, ht⟩, by simp, by simp⟩
    · obtain ⟨i1, i2, i3, i4⟩ := inc_ok t ht
      rw [if_neg h9, List.reverse_cons, val_app, val_cons 48 [], i1, show val [] = 0 from rfl, show dv 48 = 0 from rfl]
      refine ⟨by unfold dv; simp; omega, by simp [digs] at i2 ⊢; exact ⟨rfl, i2⟩, by simp; omega, by simp; omega⟩
theorem incL_ok {l : List UInt8} (h : digs l = true) : val (incL l) = val l + 1 ∧ digs (incL l) = true ∧ l.length ≤ (incL l).length ∧ (incL l).length ≤ l.length + 1 := by
  have hr : digs l.reverse = true := digs_of fun c hc => digs_at h c (List.mem_reverse.1 hc)
  obtain ⟨h1, h2, h3, h4⟩ := inc_ok l.reverse hr
  rw [List.reverse_reverse] at h1
  rw [List.length_reverse] at h3 h4
  unfold incL
  refine ⟨h1, digs_of fun c hc => digs_at h2 c (List.mem_reverse.1 hc), by rw [List.length_reverse]; exact h3, by rw [List.length_reverse]; exact h4⟩
theorem strip_val (m : Nat) : ∀ L, val (stripTo m L) = val L
  | [] => rfl
  | c :: t => by
    unfold stripTo
    split
    · rename_i h
      rw [strip_val m t, val_cons, h.2, show dv 48 = 0 from rfl, Nat.zero_mul, Nat.zero_add]
    · rfl
/-- The nearest multiple of u, of two as near the even one, by u. -/
def q (v u : Nat) : Nat := if u < 2 * (v % u) ∨ 2 * (v % u) = u ∧ v / u % 2 = 1 then v / u + 1 else v / u
theorem q_mono {u v w : Nat} (hu : 0 < u) (h : v ≤ w) : q v u ≤ q w u := by
  have h1 := Nat.div_le_div_right (c := u) h
  have h2 := Nat.div_add_mod v u
  have h3 := Nat.div_add_mod w u
  unfold q
  rcases Nat.lt_or_eq_of_le h1 with h4 | h4
  · split <;> split <;> omega
  · rw [h4] at h2 ⊢
    have h5 : v % u ≤ w % u := by omega
    split <;> split <;> omega
theorem q_mul {v u c : Nat} (hc : 0 < c) : q (v * c) (u * c) = q v u := by
  unfold q
  rw [Nat.mul_div_mul_right _ _ hc, Nat.mul_mod_mul_right, ← Nat.mul_assoc]
  have e1 : u * c < 2 * (v % u) * c ↔ u < 2 * (v % u) := Nat.mul_lt_mul_right hc
  have e2 : 2 * (v % u) * c = u * c ↔ 2 * (v % u) = u := Nat.mul_left_inj (by omega)
  rw [if_iff (or_congr e1 (and_congr e2 Iff.rfl))]
theorem q_whole {n u : Nat} (hu : 0 < u) : q (n * u) u = n := by
  unfold q
  rw [Nat.mul_mod_left, Nat.mul_div_cancel _ hu, if_neg (by omega)]
theorem last_odd {D : List UInt8} (h : digs D = true) (n : Nat) (h0 : 0 < n) (hn : n ≤ D.length) : ((D.getD (n - 1) 0).toNat - 48) % 2 = val (D.take n) % 2 := by
  obtain ⟨i, rfl⟩ : ∃ i, n = i + 1 := ⟨n - 1, by omega⟩
  have hc : D[i]? = some D[i] := List.getElem?_eq_getElem (by omega)
  rw [Nat.add_sub_cancel, List.getD_eq_getElem?_getD, hc, List.take_add_one, hc, val_app]
  show dv D[i] % 2 = (val (D.take i) * 10 ^ 1 + (0 * 10 + dv D[i])) % 2
  omega
theorem roundL_ok {D : List UInt8} {k s : Nat} (h : digs D = true) (hk : k < D.length) (hs : s < k) :
    val (roundL D k s) = q (val D) (10 ^ (k - s)) ∧ digs (roundL D k s) = true ∧ s + 1 ≤ (roundL D k s).length ∧ (roundL D k s).length ≤ D.length + 1 := by
  obtain ⟨m, hm⟩ : ∃ m, k - s = m + 1 := ⟨k - s - 1, by omega⟩
  have hkm : k = s + m + 1 := by omega
  have hkeep : digs (D.take (D.length - (k - s))) = true := digs_of fun c hc => digs_at h c (List.mem_of_mem_take hc)
  have hrest : digs (D.drop (D.length - (k - s))) = true := digs_of fun c hc => digs_at h c (List.mem_of_mem_drop hc)
  have hrl : (D.drop (D.length - (k - s))).length = m + 1 := by rw [List.length_drop]; omega
  have hhalf : digs (53 :: List.replicate m 48) = true := by
    have := digs_rep m
    simp only [digs, List.all_cons, Bool.and_eq_true] at this ⊢
    exact ⟨rfl, this⟩
  have hvh : val (53 :: List.replicate m 48) = 5 * 10 ^ m := by rw [val_cons, val_rep, List.length_replicate, Nat.add_zero]; rfl
  have hcmp := cmpS_val hrest hhalf (by rw [hrl, List.length_cons, List.length_replicate])
  rw [hvh] at hcmp
  have hodd := last_odd h (D.length - (k - s)) (by omega) (by omega)
  have hv : val D = val (D.take (D.length - (k - s))) * 10 ^ (m + 1) + val (D.drop (D.length - (k - s))) := by
    conv => lhs; rw [← List.take_append_drop (D.length - (k - s)) D]
    rw [val_app, hrl]
  have hlt := val_lt hrest
  rw [hrl] at hlt
  have hkl : (D.take (D.length - (k - s))).length = D.length - (k - s) := by rw [List.length_take]; omega
  unfold roundL
  rw [show k - s - 1 = m by omega, hcmp, hodd, hm] at *
  generalize D.take (D.length - (m + 1)) = KP at *
  generalize val (D.drop (D.length - (m + 1))) = r at *
  have hdiv : val D / 10 ^ (m + 1) = val KP := by rw [hv, Nat.mul_comm, Nat.mul_add_div (Nat.pow_pos (by decide)), Nat.div_eq_of_lt hlt, Nat.add_zero]
  have hmod : val D % 10 ^ (m + 1) = r := by rw [hv, Nat.mul_comm, Nat.mul_add_mod, Nat.mod_eq_of_lt hlt]
  have hp : 10 ^ (m + 1) = 10 * 10 ^ m := by rw [Nat.pow_succ, Nat.mul_comm]
  have hq : (sgn r (5 * 10 ^ m) > 0 ∨ sgn r (5 * 10 ^ m) = 0 ∧ val KP % 2 = 1) ↔ (10 ^ (m + 1) < 2 * r ∨ 2 * r = 10 ^ (m + 1) ∧ val KP % 2 = 1) := by
    rw [hp]
    unfold sgn
    rcases Nat.lt_trichotomy r (5 * 10 ^ m) with h | h | h
    · rw [if_pos h]; omega
    · rw [if_neg (by omega), if_pos h]; omega
    · rw [if_neg (by omega), if_neg (by omega)]; omega
  rw [if_iff hq]
  unfold q
  rw [hdiv, hmod]
  obtain ⟨i1, i2, i3, i4⟩ := incL_ok hkeep
  split
  · exact ⟨i1, i2, by omega, by omega⟩
  · exact ⟨rfl, hkeep, by omega, by omega⟩
/-- What Round makes. -/
theorem round_ok (n : Bool) {A : List UInt8} {sa : Nat} (ha : Num A sa) (hA : A.length ≤ 60) (s : Int) (hs : s ≤ 60) :
    ∃ (R : List UInt8) (r : Nat), dec_Dec_Round.f n ⟨A.toArray⟩ (sa : Int) s = some (n, ⟨R.toArray⟩, (r : Int)) ∧ Num R r ∧ V R r = q (V A sa) (10 ^ (200 - (if s < 0 then (0 : Int) else s).toNat)) * 10 ^ (200 - (if s < 0 then (0 : Int) else s).toNat) := by
  obtain ⟨t, ht⟩ : ∃ t : Nat, (if s < 0 then (0 : Int) else s) = (t : Int) := ⟨(if s < 0 then (0 : Int) else s).toNat, by split <;> omega⟩
  have ht60 : t ≤ 60 := by split at ht <;> omega
  have hz : (⟨A.toArray⟩ : ByteArray).size = A.length := sz _
  have hlt := ha.lt
  have hrk : rndOk ⟨A.toArray⟩ (sa : Int) = true := by
    have hdB : digB ⟨A.toArray⟩ = true := ha.dig
    unfold rndOk
    rw [hdB, hz]
    simp
    omega
  have hu : 0 < 10 ^ (200 - t) := Nat.pow_pos (by decide)
  unfold dec_Dec_Round.f
  simp only [ht, Int.toNat_natCast]
  rw [if_pos hrk]
  by_cases hk : sa ≤ t
  · rw [if_pos (by omega)]
    refine ⟨A, sa, rfl, ha, ?_⟩
    have e : V A sa = (val A * 10 ^ (t - sa)) * 10 ^ (200 - t) := by
      unfold V
      rw [Nat.mul_assoc, ← Nat.pow_add, show t - sa + (200 - t) = 200 - sa by omega]
    rw [e, q_whole hu]
  · rw [if_neg (by omega)]
    obtain ⟨h1, h2, h3, h4⟩ := roundL_ok ha.dig hlt (show t < sa by omega)
    have hm := make0_ok n ⟨(roundL A sa t).toArray⟩ t (by rw [bl_mk]; exact h3) (by rw [bl_mk]; omega)
    rw [bl_mk] at hm
    refine ⟨stripTo (t + 1) (roundL A sa t), t, hm, ⟨stripTo_digs _ _ h2, (stripTo_len _ _).2 h3, Nat.le_trans (stripTo_len _ _).1 (by omega)⟩, ?_⟩
    unfold V
    rw [strip_val, h1, show 10 ^ (200 - t) = 10 ^ (sa - t) * 10 ^ (200 - sa) by rw [← Nat.pow_add]; congr 1; omega, q_mul (Nat.pow_pos (by decide))]

/-! ### the law -/
theorem isg_le (x y : Int) : (isg x y ≤ 0 ↔ x ≤ y) ∧ (isg x y > 0 ↔ y < x) := by
  unfold isg
  split
  · omega
  · split <;> omega
theorem S_round {u : Nat} (hu : 0 < u) (na nb : Bool) (a b : Nat) (h : S na a ≤ S nb b) : S na (q a u * u) ≤ S nb (q b u * u) := by
  have m1 := fun (h : a ≤ b) => Nat.mul_le_mul_right u (q_mono hu h)
  have m2 := fun (h : b ≤ a) => Nat.mul_le_mul_right u (q_mono hu h)
  have hz : q 0 u * u = 0 := by
    have := q_whole (n := 0) hu
    rw [Nat.zero_mul] at this
    rw [this, Nat.zero_mul]
  unfold S at h ⊢
  cases na <;> cases nb <;> simp only [Bool.false_eq_true, if_true, if_false] at h ⊢
  · have := m1 (by omega); omega
  · obtain rfl : a = 0 := by omega
    obtain rfl : b = 0 := by omega
    rw [hz]; omega
  · omega
  · have := m2 (by omega); omega
theorem orders_pure (na nb nc : Bool) (A B C : ByteArray) (sa sb sc s : Int) : ∃ k, polyglotlaw02_DecOrders.f k na A sa nb B sb nc C sc s = some true := by
  obtain ⟨A, rfl⟩ : ∃ l : List UInt8, A = ⟨l.toArray⟩ := ⟨bl A, (mk_bl A).symm⟩
  obtain ⟨B, rfl⟩ : ∃ l : List UInt8, B = ⟨l.toArray⟩ := ⟨bl B, (mk_bl B).symm⟩
  obtain ⟨C, rfl⟩ : ∃ l : List UInt8, C = ⟨l.toArray⟩ := ⟨bl C, (mk_bl C).symm⟩
  have hH : ∀ k, polyglotlaw02_head.f (k + 3) = some true := fun k => by
    induction k with
    | zero => exact head_ok
    | succ k ih => exact polyglotlaw02_head.mono _ _ ih
  refine ⟨200, ?_⟩
  obtain ⟨ba, ea, fa⟩ := right_any na A sa 200 (by decide)
  obtain ⟨bb, eb, fb⟩ := right_any nb B sb 200 (by decide)
  obtain ⟨bc, ec, fc⟩ := right_any nc C sc 200 (by decide)
  unfold polyglotlaw02_DecOrders.f
  rw [hH 197, Option.bind_some, if_pos rfl, ea, Option.bind_some]
  have hj : ∀ (x0 : Int) x1 x2 x3 x4 x5 x6 x7 x8 x9, polyglotlaw02_DecOrders.j0 200 x0 true x1 x2 x3 x4 x5 x6 x7 x8 x9 = some true := fun x0 x1 x2 x3 x4 x5 x6 x7 x8 x9 => by
    show polyglotlaw02_DecOrders.j0 (199 + 1) x0 true x1 x2 x3 x4 x5 x6 x7 x8 x9 = some true
    rw [polyglotlaw02_DecOrders.j0, if_pos rfl]
  cases ba with
  | false => rw [if_neg (by decide), hj]
  | true =>
    rw [if_pos rfl, eb, Option.bind_some]
    cases bb with
    | false => rw [if_neg (by decide), hj]
    | true =>
      rw [if_pos rfl, ec, Option.bind_some]
      cases bc with
      | false => rw [if_neg (by decide), hj]
      | true =>
        rw [if_pos rfl]
        by_cases hs : s > 40
        · rw [show decide (s > 40) = true from decide_eq_true hs, hj]
        · rw [show decide (s > 40) = false from decide_eq_false hs]
          obtain ⟨a, rfl, ha, hA⟩ := fa rfl
          obtain ⟨b, rfl, hb, hB⟩ := fb rfl
          obtain ⟨c, rfl, hc, hC⟩ := fc rfl
          have cab := fun k => compare_ok k na nb ha hb
          have cbc := fun k => compare_ok k nb nc hb hc
          have cac := fun k => compare_ok k na nc ha hc
          have lab := isg_le (S na (V A a)) (S nb (V B b))
          have lbc := isg_le (S nb (V B b)) (S nc (V C c))
          have lac := isg_le (S na (V A a)) (S nc (V C c))
          obtain ⟨R, r, er, hr, vr⟩ := round_ok na ha hA s (by omega)
          obtain ⟨Q, t, et, ht, vt⟩ := round_ok nb hb hB s (by omega)
          have hu : 0 < 10 ^ (200 - (if s < 0 then (0 : Int) else s).toNat) := Nat.pow_pos (by decide)
          have hmono := S_round hu na nb (V A a) (V B b)
          rw [← vr, ← vt] at hmono
          have crt := fun k => compare_ok k na nb hr ht
          have lrt := isg_le (S na (V R r)) (S nb (V Q t))
          have hj1 : polyglotlaw02_DecOrders.j1 199 s false na ⟨A.toArray⟩ (a : Int) nb ⟨B.toArray⟩ (b : Int) = some true := by
            show polyglotlaw02_DecOrders.j1 (198 + 1) s false na ⟨A.toArray⟩ (a : Int) nb ⟨B.toArray⟩ (b : Int) = some true
            rw [polyglotlaw02_DecOrders.j1, if_neg (by decide), cab 192, Option.bind_some]
            by_cases h : isg (S na (V A a)) (S nb (V B b)) > 0
            · rw [if_pos h]
            · rw [if_neg h, er, Option.bind_some, et, Option.bind_some, crt 192, Option.bind_some]
              refine congrArg some (decide_eq_true ?_)
              rw [lrt.1]
              exact hmono (by omega)
          show polyglotlaw02_DecOrders.j0 (199 + 1) s false na ⟨A.toArray⟩ (a : Int) nb ⟨B.toArray⟩ (b : Int) nc ⟨C.toArray⟩ (c : Int) = some true
          rw [polyglotlaw02_DecOrders.j0, if_neg (by decide), cab 193, Option.bind_some]
          by_cases h1 : isg (S na (V A a)) (S nb (V B b)) ≤ 0
          · rw [if_pos h1, cbc 193, Option.bind_some]
            by_cases h2 : isg (S nb (V B b)) (S nc (V C c)) ≤ 0
            · rw [if_pos h2, cac 193, Option.bind_some, decide_eq_false (by omega), hj1]
            · rw [if_neg h2, hj1]
          · rw [if_neg h1, hj1]
theorem orders_walk (na nb nc : Bool) (A B C : ByteArray) (sa sb sc s : Int) (w : World) (hT : Tab_ w) : Calls Tryd.prog 14 #[.agg #[.bool na, .string A, .int .i64 sa], .agg #[.bool nb, .string B, .int .i64 sb], .agg #[.bool nc, .string C, .int .i64 sc], .int .i64 s] w fun e w' => e = .returned (.bool true) ∧ Below w.heap.size w w' := by
  obtain ⟨k, hk⟩ := orders_pure na nb nc A B C sa sb sc s
  exact polyglotlaw02_DecOrders.calls k na A sa nb B sb nc C sc s true w hk hT
end Go.Proofs.YtonjkoeacedaiaaDoor.S
