/- TextQuotes' plain law: what is quoted is told again. -/
import Derived.Test.YtaijjabbkmdcdaaDoorTpunq
import Derived.Test.YtaijjabbkmdcdaaDoorTquote
namespace Go.Proofs.YtaijjabbkmdcdaaDoor
open Go.Lib
set_option linter.unusedVariables false

theorem hexZ_hexD : ∀ d, d < 16 → hexZ (hexD d).toNat = d := by decide
def pcs (rs : List Nat) : List UInt8 := (rs.map qPiece).flatten
theorem pcs_nil : pcs [] = [] := rfl
theorem pcs_cons (r : Nat) (rs : List Nat) : pcs (r :: rs) = qPiece r ++ pcs rs := by simp [pcs]
theorem dec_E (r : Nat) (h : Tx.okRune r) (t : List UInt8) : decodeL (E r ++ t) = (r, (E r).length) := Tx.decode_encode r h t
theorem E_append_ne (r : Nat) (t : List UInt8) : E r ++ t ≠ [] := by
  intro h
  have := Tx.enc_ne (r : Int)
  exact this (List.append_eq_nil_iff.1 h).1
theorem dec_low (c : UInt8) (hc : c.toNat < 128) (t : List UInt8) : decodeL (c :: t) = (c.toNat, 1) := by
  have h := dec_E c.toNat (Or.inl (by omega)) t
  rw [E_low hc] at h
  have e : c.toNat.toUInt8 = c := by simp
  rw [e] at h
  exact h
theorem qF_enc : ∀ (n : Nat) (rs : List Nat), (∀ r ∈ rs, Tx.okRune r) → (Tx.enc rs).length ≤ n → qF n (Tx.enc rs) = pcs rs
  | 0, [], _, _ => rfl
  | 0, r :: rs, h, hl => by
    rw [Tx.enc_cons, List.length_append] at hl
    have := (Tx.enc_len (r : Int)).1
    omega
  | n + 1, [], _, _ => by rw [Tx.enc_nil]; rfl
  | n + 1, r :: rs, h, hl => by
    rw [Tx.enc_cons, pcs_cons]
    rw [Tx.enc_cons, List.length_append] at hl
    have h1 := (Tx.enc_len (r : Int)).1
    show (if E r ++ Tx.enc rs = [] then [] else qPiece (decodeL (E r ++ Tx.enc rs)).1 ++ qF n ((E r ++ Tx.enc rs).drop (decodeL (E r ++ Tx.enc rs)).2)) = _
    rw [if_neg (E_append_ne r _), dec_E r (h r (by simp)), List.drop_left]
    rw [qF_enc n rs (fun q hq => h q (by simp [hq])) (by omega)]
theorem quoteL_enc (rs : List Nat) (h : ∀ r ∈ rs, Tx.okRune r) : quoteL (Tx.enc rs) = [34] ++ pcs rs ++ [34] := by
  unfold quoteL
  rw [qF_enc _ rs h (Nat.le_refl _)]
theorem codeF_dig4 (r : Nat) (hr : r < 128) (t : List UInt8) : codeF (dig4 r ++ t) 4 0 = some (r : Int) := by
  unfold dig4
  simp only [List.cons_append, List.nil_append]
  simp only [codeF, hexZ_hexD _ (show r / 4096 % 16 < 16 by omega), hexZ_hexD _ (show r / 256 % 16 < 16 by omega), hexZ_hexD _ (show r / 16 % 16 < 16 by omega), hexZ_hexD _ (show r % 16 < 16 by omega)]
  rw [if_neg (by omega), if_neg (by omega), if_neg (by omega), if_neg (by omega)]
  congr 1
  omega
theorem qPiece_pos (r : Nat) : 1 ≤ (qPiece r).length := by
  unfold qPiece
  split
  · simp
  · split
    · simp
    · exact (Tx.enc_len (r : Int)).1
theorem qPiece_le (r : Nat) : (qPiece r).length ≤ 6 := by
  unfold qPiece
  split
  · have := (Tx.enc_len (r : Int)).2
    simp; omega
  · split
    · simp [dig4]
    · have := (Tx.enc_len (r : Int)).2
      omega
theorem pcs_le (rs : List Nat) : (pcs rs).length ≤ 6 * rs.length := by
  induction rs with
  | nil => simp [pcs]
  | cons r rs ih =>
    have := qPiece_le r
    rw [pcs_cons, List.length_append, List.length_cons]
    omega
theorem uq_pcs : ∀ (n : Nat) (rs : List Nat) (t acc : List UInt8) (i : Nat), (∀ r ∈ rs, Tx.okRune r) → (pcs rs).length + 1 ≤ n →
    uqF n (pcs rs ++ 34 :: t) acc i = some (acc ++ Tx.enc rs, i + (pcs rs).length + 1)
  | 0, _, _, _, _, _, h => by omega
  | n + 1, [], t, acc, i, _, _ => by
    rw [pcs_nil, List.nil_append, Tx.enc_nil, List.append_nil]
    unfold uqF
    rw [if_neg (by simp), dec_low 34 (by decide)]
    simp
  | n + 1, r :: rs, t, acc, i, h, hl => by
    have hr := h r (by simp)
    have ih := uq_pcs n rs t
    rw [pcs_cons, List.length_append] at hl ⊢
    rw [Tx.enc_cons]
    have hp := qPiece_pos r
    by_cases h1 : r = 34 ∨ r = 92
    · have hq : qPiece r = [92] ++ E r := by unfold qPiece; rw [if_pos h1]
      have hlow : r < 128 := by omega
      rw [hq, E_low hlow] at hl ⊢
      simp only [List.cons_append, List.nil_append, List.length_cons, List.length_nil] at hl ⊢
      unfold uqF
      rw [if_neg (by simp), dec_low 92 (by decide)]
      have hc : r.toUInt8 = 34 ∨ r.toUInt8 = 92 := by rcases h1 with rfl | rfl <;> decide
      rw [if_neg (by decide), if_neg (by decide), if_neg (by decide)]
      rw [if_pos (show (92 :: r.toUInt8 :: (pcs rs ++ 34 :: t)).getD 1 0 = 34 ∨ (92 :: r.toUInt8 :: (pcs rs ++ 34 :: t)).getD 1 0 = 92 from hc)]
      show uqF n (pcs rs ++ 34 :: t) (acc ++ [r.toUInt8]) (i + (1 + 1)) = _
      rw [ih _ _ (fun q hq => h q (by simp [hq])) (by omega), show encodeRune (r : Int) = E r from rfl, E_low hlow]
      simp
      omega
    · by_cases h2 : r < 32 ∨ r = 127
      · have hq : qPiece r = [92, 117] ++ dig4 r := by unfold qPiece; rw [if_neg h1, if_pos h2]
        have hlow : r < 128 := by omega
        have hd4 : (dig4 r).length = 4 := rfl
        rw [hq, List.length_append, hd4] at hl
        rw [hq]
        simp only [List.cons_append, List.nil_append, List.length_cons, List.length_nil, List.append_assoc] at hl ⊢
        unfold uqF
        rw [if_neg (by simp), dec_low 92 (by decide)]
        rw [if_neg (by decide), if_neg (by decide), if_neg (by decide)]
        rw [if_neg (show ¬ ((92 :: 117 :: (dig4 r ++ (pcs rs ++ 34 :: t))).getD 1 0 = 34 ∨ (92 :: 117 :: (dig4 r ++ (pcs rs ++ 34 :: t))).getD 1 0 = 92) by simp)]
        have hm : moreOf ((92 :: 117 :: (dig4 r ++ (pcs rs ++ 34 :: t))).getD 1 0) = 4 := rfl
        simp only [hm]
        rw [if_neg (by decide)]
        have hcd : codeF ((92 :: 117 :: (dig4 r ++ (pcs rs ++ 34 :: t))).drop (1 + 1)) 4 0 = some (r : Int) := codeF_dig4 r hlow _
        simp only [hcd]
        rw [if_pos (by rfl)]
        have hco : codeOut (some (r : Int)) = r := by
          rw [fix_eq _ (by omega)]
          unfold fixR
          rw [if_neg (by omega)]
        rw [hco]
        show uqF n (pcs rs ++ 34 :: t) (acc ++ encodeRune (r : Int)) (i + (1 + (1 + 4))) = _
        rw [ih _ _ (fun q hq => h q (by simp [hq])) (by omega)]
        simp [hd4]
        omega
      · have hq : qPiece r = E r := by unfold qPiece; rw [if_neg h1, if_neg h2]
        rw [hq] at hl ⊢
        rw [List.append_assoc]
        have h1E := (Tx.enc_len (r : Int)).1
        unfold uqF
        rw [if_neg (E_append_ne r _), dec_E r hr]
        rw [if_neg (by show r ≠ 34; omega), if_neg (by show r ≠ 10; omega), if_pos (by show r ≠ 92; omega)]
        rw [List.drop_left]
        show uqF n (pcs rs ++ 34 :: t) (acc ++ encodeRune (r : Int)) (i + (E r).length) = _
        rw [ih _ _ (fun q hq => h q (by simp [hq])) (by show _ ≤ n; have : 1 ≤ (E r).length := h1E; omega)]
        simp
        omega
/-- What is quoted, with anything behind, is told again. -/
theorem uq_quote (rs : List Nat) (h : ∀ r ∈ rs, Tx.okRune r) (t : List UInt8) : uq (quoteL (Tx.enc rs) ++ t) = some (Tx.enc rs, (quoteL (Tx.enc rs)).length) := by
  rw [quoteL_enc rs h]
  unfold uq
  rw [show [34] ++ pcs rs ++ [34] ++ t = 34 :: (pcs rs ++ 34 :: t) by simp]
  rw [if_pos (by rfl)]
  rw [show (34 :: (pcs rs ++ 34 :: t)).drop 1 = pcs rs ++ 34 :: t from rfl]
  rw [uq_pcs _ rs t [] 1 h (by simp only [List.length_cons, List.length_append]; omega)]
  simp
  omega
theorem less32 (r : Nat) (hr : Tx.okRune r) : Op.bytesLess (E r) [32] = decide (r < 32) := by
  by_cases h : r < 128
  · rw [E_low h]
    have hm := low_toNat h
    unfold Op.bytesLess
    by_cases h2 : r < 32
    · simp [h2, UInt8.lt_iff_toNat_lt, hm]
    · simp only [h2, decide_false]
      by_cases h3 : r = 32
      · subst h3; decide
      · have : (32 : UInt8) < r.toUInt8 := by rw [UInt8.lt_iff_toNat_lt, hm]; show 32 < r; omega
        simp [UInt8.lt_iff_toNat_lt, hm, Op.bytesLess]
        omega
  · cases he : E r with
    | nil => exact absurd he (Tx.enc_ne _)
    | cons b t =>
      have hb := Tx.enc_high r hr (by omega) b (by show b ∈ E r; rw [he]; simp)
      have h2 : ¬ r < 32 := by omega
      have h3 : ¬ b < 32 := by rw [UInt8.lt_iff_toNat_lt]; show ¬ b.toNat < 32; omega
      have h4 : (b == 32) = false := by rw [beq_eq_false_iff_ne]; rintro rfl; exact absurd hb (by decide)
      show (decide (b < 32) || (b == 32 && Op.bytesLess t [])) = decide (r < 32)
      rw [h4, decide_eq_false h2, decide_eq_false h3]; rfl
end Go.Proofs.YtaijjabbkmdcdaaDoor
