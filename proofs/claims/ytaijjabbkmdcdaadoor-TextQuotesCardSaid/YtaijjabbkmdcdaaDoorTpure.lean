/- Plain laws on bytes and signs: decoding, encoding, what is between quotes. No program in sight. -/
import Derived.Lib.ValidLaws
import Derived.Lib.MapLaws
import Derived.Lib.RuneBytes
import Derived.Lib.Index
namespace Go.Proofs.YtaijjabbkmdcdaaDoor.Tx
open Go.Lib

/-! ### decode and encode -/
theorem enc_byte (r : Int) (h0 : 0 ≤ r) (h1 : r ≤ 127) : encodeRune r = [r.toNat.toUInt8] := by
  unfold encodeRune; rw [encodeRuneZ_one h0 h1]; rfl

theorem toByteN (z : Int) (h0 : 0 ≤ z) (h1 : z < 256) : ((z.toNat.toUInt8).toNat : Int) = z := by
  simp [Nat.toUInt8]; omega

/-- A rune that may be encoded. -/
def okRune (r : Nat) : Prop := r < 55296 ∨ (57343 < r ∧ r ≤ 1114111)

set_option maxHeartbeats 1000000 in
/-- What was encoded is decoded as the same, whatever stands behind. -/
theorem decode_encode (r : Nat) (hr : okRune r) (t : List UInt8) : decodeL (encodeRune (r : Int) ++ t) = (r, (encodeRune (r : Int)).length) := by
  rw [decodeL_N]
  unfold encodeRune
  unfold okRune at hr
  by_cases c1 : r ≤ 127
  · rw [encodeRuneZ_one (by omega) (by omega)]
    have e0 := toByteN r (by omega) (by omega)
    simp only [List.map_cons, List.map_nil, List.cons_append, List.nil_append, List.getD_cons_zero, List.length_cons, List.length_nil]
    unfold decodeN
    rw [if_pos (by omega)]
    ext <;> simp; omega
  by_cases c2 : r ≤ 2047
  · rw [encodeRuneZ_two (by omega) (by omega)]
    have e0 := toByteN (192 + (r : Int) / 64) (by omega) (by omega)
    have e1 := toByteN (128 + (r : Int) % 64) (by omega) (by omega)
    simp only [List.map_cons, List.map_nil, List.cons_append, List.nil_append, List.getD_cons_zero, List.getD_cons_succ, List.length_cons, List.length_nil]
    generalize (192 + (r : Int) / 64).toNat.toUInt8.toNat = b0 at e0 ⊢
    generalize (128 + (r : Int) % 64).toNat.toUInt8.toNat = b1 at e1 ⊢
    unfold decodeN
    rw [if_neg (by omega), if_pos ⟨by omega, by omega, by omega⟩, if_pos (by omega)]
    ext <;> simp; omega
  by_cases c3 : r ≤ 65535
  · rw [encodeRuneZ_three (by omega)]
    have e0 := toByteN (224 + (r : Int) / 4096) (by omega) (by omega)
    have e1 := toByteN (128 + (r : Int) / 64 % 64) (by omega) (by omega)
    have e2 := toByteN (128 + (r : Int) % 64) (by omega) (by omega)
    simp only [List.map_cons, List.map_nil, List.cons_append, List.nil_append, List.getD_cons_zero, List.getD_cons_succ, List.length_cons, List.length_nil]
    generalize (224 + (r : Int) / 4096).toNat.toUInt8.toNat = b0 at e0 ⊢
    generalize (128 + (r : Int) / 64 % 64).toNat.toUInt8.toNat = b1 at e1 ⊢
    generalize (128 + (r : Int) % 64).toNat.toUInt8.toNat = b2 at e2 ⊢
    unfold decodeN
    rw [if_neg (by omega), if_neg (by omega), if_pos ⟨by omega, ⟨by omega, by omega⟩, by omega, by omega⟩, if_pos (by omega)]
    ext <;> simp; omega
  · rw [encodeRuneZ_four (by omega) (by omega)]
    have e0 := toByteN (240 + (r : Int) / 262144) (by omega) (by omega)
    have e1 := toByteN (128 + (r : Int) / 4096 % 64) (by omega) (by omega)
    have e2 := toByteN (128 + (r : Int) / 64 % 64) (by omega) (by omega)
    have e3 := toByteN (128 + (r : Int) % 64) (by omega) (by omega)
    simp only [List.map_cons, List.map_nil, List.cons_append, List.nil_append, List.getD_cons_zero, List.getD_cons_succ, List.length_cons, List.length_nil]
    generalize (240 + (r : Int) / 262144).toNat.toUInt8.toNat = b0 at e0 ⊢
    generalize (128 + (r : Int) / 4096 % 64).toNat.toUInt8.toNat = b1 at e1 ⊢
    generalize (128 + (r : Int) / 64 % 64).toNat.toUInt8.toNat = b2 at e2 ⊢
    generalize (128 + (r : Int) % 64).toNat.toUInt8.toNat = b3 at e3 ⊢
    unfold decodeN
    rw [if_neg (by omega), if_neg (by omega), if_neg (by omega), if_pos ⟨by omega, ⟨by omega, by omega⟩, ⟨by omega, by omega⟩, by omega, by omega⟩, if_pos (by omega)]
    ext <;> simp; omega

/-- What is decoded may be encoded. -/
theorem decode_ok (l : List UInt8) (hne : l ≠ []) : okRune (decodeL l).1 := by
  have hl : 0 < l.length := List.length_pos_iff.2 hne
  rw [decodeL_N]
  have k0 := (l.getD 0 0).toNat_lt
  have k1 := (l.getD 1 0).toNat_lt
  have k2 := (l.getD 2 0).toNat_lt
  have k3 := (l.getD 3 0).toNat_lt
  unfold okRune
  rcases decodeN_shape l.length (l.getD 0 0).toNat (l.getD 1 0).toNat (l.getD 2 0).toNat (l.getD 3 0).toNat with ⟨c, e⟩ | ⟨c1, c2, c3, cv, e⟩ | ⟨c1, c2, c3, c4, cv, cs, e⟩ | ⟨c1, c2, c3, c4, c5, cv, cw, e⟩ | e
  all_goals (rw [e]; dsimp only; omega)

/-- The bytes of a sign beyond ASCII are all beyond ASCII. -/
theorem enc_high (r : Nat) (hr : okRune r) (h : 128 ≤ r) : ∀ b ∈ encodeRune (r : Int), 128 ≤ b.toNat := by
  intro b hb
  unfold encodeRune at hb
  obtain ⟨z, hz, rfl⟩ := List.mem_map.1 hb
  obtain ⟨z0, z1⟩ := encodeRuneZ_byte r z hz
  have e := toByteN z z0 z1
  suffices 128 ≤ z by omega
  unfold okRune at hr
  unfold encodeRuneZ at hz
  split at hz
  · omega
  · split at hz
    · simp at hz; omega
    · split at hz
      · simp at hz; omega
      · split at hz
        · simp at hz; omega
        · simp at hz; omega

theorem enc_ne (r : Int) : encodeRune r ≠ [] := by
  intro h
  have := encodeRuneZ_length r
  have h' := congrArg List.length h
  simp [encodeRune] at h'
  simp [h'] at this
theorem enc_len (r : Int) : 1 ≤ (encodeRune r).length ∧ (encodeRune r).length ≤ 4 := by
  have := encodeRuneZ_length r
  simpa [encodeRune] using this

theorem enc_inj {r q : Nat} (hr : okRune r) (hq : okRune q) (h : encodeRune (r : Int) = encodeRune (q : Int)) : r = q := by
  have a := decode_encode r hr []
  have b := decode_encode q hq []
  rw [h, b] at a
  exact (Prod.ext_iff.1 a).1.symm

/-- A sign is the sign of one ASCII byte just if its rune is that byte. -/
theorem enc_one {r : Nat} (hr : okRune r) {c : UInt8} (hc : c.toNat < 128) : encodeRune (r : Int) = [c] ↔ r = c.toNat := by
  have e : encodeRune ((c.toNat : Nat) : Int) = [c] := by
    rw [enc_byte _ (by omega) (by omega)]; simp
  constructor
  · intro h
    exact enc_inj hr (Or.inl (by omega)) (h.trans e.symm)
  · rintro rfl; exact e

theorem bad_enc : encodeRune ((65533 : Nat) : Int) = [239, 191, 189] := by decide

/-! ### text.Decode -/
def piece (r : Nat) : List UInt8 := if r = 13 then [] else encodeRune (r : Int)
def decF : Nat → List UInt8 → List UInt8
  | 0, _ => []
  | n + 1, l => if l = [] then [] else piece (decodeL l).1 ++ decF n (l.drop (decodeL l).2)
def dec (l : List UInt8) : List UInt8 := decF l.length l

theorem decF_nil : ∀ n, decF n [] = []
  | 0 => rfl
  | n + 1 => by simp [decF]
theorem decF_fuel : ∀ (n m : Nat) (l : List UInt8), l.length ≤ n → l.length ≤ m → decF n l = decF m l
  | 0, m, l, hn, _ => by
    obtain rfl : l = [] := List.eq_nil_of_length_eq_zero (by omega)
    rw [decF_nil, decF_nil]
  | n + 1, 0, l, _, hm => by
    obtain rfl : l = [] := List.eq_nil_of_length_eq_zero (by omega)
    rw [decF_nil, decF_nil]
  | n + 1, m + 1, l, hn, hm => by
    by_cases hne : l = []
    · subst hne; rw [decF_nil, decF_nil]
    · have hw := decodeL_width l
      have hl : 0 < l.length := List.length_pos_iff.2 hne
      simp only [decF, if_neg hne]
      rw [decF_fuel n m _ (by rw [List.length_drop]; omega) (by rw [List.length_drop]; omega)]
theorem dec_nil : dec [] = [] := rfl
theorem dec_step (l : List UInt8) (hne : l ≠ []) : dec l = piece (decodeL l).1 ++ dec (l.drop (decodeL l).2) := by
  have hw := decodeL_width l
  have hl : 0 < l.length := List.length_pos_iff.2 hne
  unfold dec
  obtain ⟨n, hn⟩ : ∃ n, l.length = n + 1 := ⟨l.length - 1, by omega⟩
  rw [hn]
  simp only [decF, if_neg hne]
  rw [decF_fuel n _ _ (by rw [List.length_drop]; omega) (Nat.le_refl _)]
theorem piece_len (r : Nat) : (piece r).length ≤ 4 := by
  unfold piece; split
  · simp
  · exact (enc_len _).2
/-- A sign, and what stands behind it. -/
theorem dec_sign (r : Nat) (hr : okRune r) (t : List UInt8) : dec (encodeRune (r : Int) ++ t) = piece r ++ dec t := by
  rw [dec_step _ (by simp [enc_ne]), decode_encode r hr t]
  simp
theorem drop_lt (l : List UInt8) (hne : l ≠ []) : (l.drop (decodeL l).2).length < l.length := by
  have hw := decodeL_width l
  have hl : 0 < l.length := List.length_pos_iff.2 hne
  rw [List.length_drop]; omega

theorem dec_len : ∀ (n : Nat) (l : List UInt8), l.length ≤ n → (dec l).length ≤ 4 * l.length
  | 0, l, hn => by
    obtain rfl : l = [] := List.eq_nil_of_length_eq_zero (by omega)
    simp [dec_nil]
  | n + 1, l, hn => by
    by_cases hne : l = []
    · subst hne; simp [dec_nil]
    · have hw := decodeL_width l
      have hl : 0 < l.length := List.length_pos_iff.2 hne
      have hp := piece_len (decodeL l).1
      have ih := dec_len n (l.drop (decodeL l).2) (by have := drop_lt l hne; omega)
      rw [dec_step l hne, List.length_append]
      rw [List.length_drop] at ih
      omega
/-- The reference's part of a round. -/
def part (l : List UInt8) : List UInt8 := if (decodeL l).1 = 65533 ∧ (decodeL l).2 = 1 then [239, 191, 189] else l.take (decodeL l).2
theorem part_enc (l : List UInt8) (hne : l ≠ []) : part l = encodeRune ((decodeL l).1 : Int) := by
  unfold part
  split
  · rename_i h; rw [h.1]; exact bad_enc.symm
  · rename_i h; exact (encode_decode l hne h).symm
theorem part_piece (l : List UInt8) (hne : l ≠ []) : (if part l = [13] then [] else part l) = piece (decodeL l).1 := by
  rw [part_enc l hne]
  unfold piece
  have h := enc_one (decode_ok l hne) (c := 13) (by decide)
  by_cases e : (decodeL l).1 = 13
  · rw [if_pos e, if_pos (h.2 e)]
  · rw [if_neg e, if_neg (fun x => e (h.1 x))]

/-! ### Signs -/
def sigF : Nat → List UInt8 → Option (List (List UInt8))
  | 0, l => if l = [] then some [] else none
  | n + 1, l => if l = [] then some [] else if (decodeL l).1 = 65533 ∧ (decodeL l).2 ≤ 1 then none else (sigF n (l.drop (decodeL l).2)).map (l.take (decodeL l).2 :: ·)
def sig (l : List UInt8) : Option (List (List UInt8)) := sigF l.length l
theorem sigF_nil : ∀ n, sigF n [] = some []
  | 0 => rfl
  | n + 1 => by simp [sigF]
theorem sigF_fuel : ∀ (n m : Nat) (l : List UInt8), l.length ≤ n → l.length ≤ m → sigF n l = sigF m l
  | 0, m, l, hn, _ => by
    obtain rfl : l = [] := List.eq_nil_of_length_eq_zero (by omega)
    rw [sigF_nil, sigF_nil]
  | n + 1, 0, l, _, hm => by
    obtain rfl : l = [] := List.eq_nil_of_length_eq_zero (by omega)
    rw [sigF_nil, sigF_nil]
  | n + 1, m + 1, l, hn, hm => by
    by_cases hne : l = []
    · subst hne; rw [sigF_nil, sigF_nil]
    · have hw := decodeL_width l
      have hl : 0 < l.length := List.length_pos_iff.2 hne
      simp only [sigF, if_neg hne]
      rw [sigF_fuel n m _ (by rw [List.length_drop]; omega) (by rw [List.length_drop]; omega)]
theorem sig_nil : sig [] = some [] := rfl
theorem sig_step (l : List UInt8) (hne : l ≠ []) : sig l = if (decodeL l).1 = 65533 ∧ (decodeL l).2 ≤ 1 then none else (sig (l.drop (decodeL l).2)).map (l.take (decodeL l).2 :: ·) := by
  have hw := decodeL_width l
  have hl : 0 < l.length := List.length_pos_iff.2 hne
  unfold sig
  obtain ⟨n, hn⟩ : ∃ n, l.length = n + 1 := ⟨l.length - 1, by omega⟩
  rw [hn]
  simp only [sigF, if_neg hne]
  rw [sigF_fuel n _ _ (by rw [List.length_drop]; omega) (Nat.le_refl _)]

/-- The bytes of signs. -/
def enc (rs : List Nat) : List UInt8 := (rs.map fun (r : Nat) => encodeRune (r : Int)).flatten
theorem enc_cons (r : Nat) (rs : List Nat) : enc (r :: rs) = encodeRune (r : Int) ++ enc rs := by simp [enc]
theorem enc_nil : enc [] = [] := rfl
theorem enc_append (a b : List Nat) : enc (a ++ b) = enc a ++ enc b := by simp [enc]

/-- A text that is made of signs alone is the bytes of its runes, and its signs are theirs; and the other way round. -/
theorem sig_of_enc : ∀ (rs : List Nat), (∀ r ∈ rs, okRune r) → sig (enc rs) = some (rs.map fun (r : Nat) => encodeRune (r : Int))
  | [], _ => rfl
  | r :: rs, h => by
    have hr := h r (by simp)
    have e := decode_encode r hr (enc rs)
    rw [enc_cons, sig_step _ (by simp [enc_ne]), e]
    have hn : ¬ (r = 65533 ∧ (encodeRune (r : Int)).length ≤ 1) := by
      rintro ⟨rfl, h2⟩
      rw [bad_enc] at h2
      simp at h2
    dsimp only
    rw [if_neg hn]
    simp only [List.take_left, List.drop_left]
    rw [sig_of_enc rs (fun q hq => h q (by simp [hq]))]
    simp
theorem enc_of_sig : ∀ (n : Nat) (l : List UInt8), l.length ≤ n → ∀ L, sig l = some L → ∃ rs : List Nat, (∀ r ∈ rs, okRune r) ∧ l = enc rs ∧ L = rs.map fun (r : Nat) => encodeRune (r : Int)
  | 0, l, hn, L, h => by
    obtain rfl : l = [] := List.eq_nil_of_length_eq_zero (by omega)
    rw [sig_nil] at h
    cases h
    exact ⟨[], by simp, rfl, rfl⟩
  | n + 1, l, hn, L, h => by
    by_cases hne : l = []
    · subst hne
      rw [sig_nil] at h
      cases h
      exact ⟨[], by simp, rfl, rfl⟩
    · rw [sig_step l hne] at h
      split at h
      · cases h
      · rename_i hv
        obtain ⟨L', h1, rfl⟩ := Option.map_eq_some_iff.1 h
        obtain ⟨rs, hok, hl, rfl⟩ := enc_of_sig n _ (by have := drop_lt l hne; omega) L' h1
        have hv' : ¬ ((decodeL l).1 = 65533 ∧ (decodeL l).2 = 1) := fun hx => hv ⟨hx.1, by omega⟩
        refine ⟨(decodeL l).1 :: rs, ?_, ?_, ?_⟩
        · intro r hr
          rcases List.mem_cons.1 hr with rfl | hr
          · exact decode_ok l hne
          · exact hok r hr
        · rw [enc_cons, ← hl, encode_decode l hne hv', List.take_append_drop]
        · simp [encode_decode l hne hv']
theorem sig_some {l : List UInt8} {L : List (List UInt8)} (h : sig l = some L) : ∃ rs : List Nat, (∀ r ∈ rs, okRune r) ∧ l = enc rs ∧ L = rs.map fun (r : Nat) => encodeRune (r : Int) := enc_of_sig l.length l (Nat.le_refl _) L h

theorem valid_sig : ∀ (n : Nat) (l : List UInt8), l.length ≤ n → validD l = (sig l).isSome
  | 0, l, hn => by
    obtain rfl : l = [] := List.eq_nil_of_length_eq_zero (by omega)
    rfl
  | n + 1, l, hn => by
    by_cases hne : l = []
    · subst hne; rfl
    · have hw := decodeL_width l
      rw [validD_step l hne, sig_step l hne]
      by_cases hv : (decodeL l).1 = 65533 ∧ (decodeL l).2 = 1
      · rw [if_pos hv, if_pos ⟨hv.1, by omega⟩]; rfl
      · rw [if_neg hv, if_neg (fun hx => hv ⟨hx.1, by omega⟩), valid_sig n _ (by have := drop_lt l hne; omega)]
        simp

/-- text.Decode of signs: the same but for carriage returns. -/
theorem dec_enc : ∀ (rs : List Nat) (t : List UInt8), (∀ r ∈ rs, okRune r) → dec (enc rs ++ t) = enc (rs.filter (· != 13)) ++ dec t
  | [], t, _ => by simp [enc_nil]
  | r :: rs, t, h => by
    rw [enc_cons, List.append_assoc, dec_sign r (h r (by simp)), dec_enc rs t (fun q hq => h q (by simp [hq]))]
    by_cases hr : r = 13
    · subst hr; simp [piece]
    · simp [piece, hr, enc_cons]
/-- What text.Decode tells is made of signs, none of them a carriage return. -/
theorem dec_signs : ∀ (n : Nat) (l : List UInt8), l.length ≤ n → ∃ rs : List Nat, (∀ r ∈ rs, okRune r) ∧ (∀ r ∈ rs, r ≠ 13) ∧ dec l = enc rs
  | 0, l, hn => by
    obtain rfl : l = [] := List.eq_nil_of_length_eq_zero (by omega)
    exact ⟨[], by simp, by simp, rfl⟩
  | n + 1, l, hn => by
    by_cases hne : l = []
    · subst hne; exact ⟨[], by simp, by simp, rfl⟩
    · obtain ⟨rs, h1, h2, h3⟩ := dec_signs n (l.drop (decodeL l).2) (by have := drop_lt l hne; omega)
      rw [dec_step l hne, h3]
      by_cases e : (decodeL l).1 = 13
      · exact ⟨rs, h1, h2, by simp [piece, e]⟩
      · refine ⟨(decodeL l).1 :: rs, ?_, ?_, by simp [piece, e, enc_cons]⟩
        · intro r hr
          rcases List.mem_cons.1 hr with rfl | hr
          · exact decode_ok l hne
          · exact h1 r hr
        · intro r hr
          rcases List.mem_cons.1 hr with rfl | hr
          · exact e
          · exact h2 r hr

/-- Is a byte among the bytes of signs? An ASCII byte: just if it is one of the signs. -/
theorem mem_enc (rs : List Nat) (h : ∀ r ∈ rs, okRune r) (c : UInt8) (hc : c.toNat < 128) : c ∈ enc rs ↔ c.toNat ∈ rs := by
  unfold enc
  rw [List.mem_flatten]
  constructor
  · rintro ⟨x, hx, hcx⟩
    obtain ⟨r, hr, rfl⟩ := List.mem_map.1 hx
    by_cases h128 : 128 ≤ r
    · have := enc_high r (h r hr) h128 c hcx; omega
    · rw [enc_byte _ (by omega) (by omega)] at hcx
      simp at hcx
      subst hcx
      have : (Nat.toUInt8 r).toNat = r := by simp [Nat.toUInt8]; omega
      rw [this]; exact hr
  · intro hr
    exact ⟨_, List.mem_map.2 ⟨c.toNat, hr, rfl⟩, by rw [enc_byte _ (by omega) (by omega)]; simp⟩

/-- The reference's 'right': signs alone, none of them a carriage return. -/
def rightL (l : List UInt8) : Bool := match sig l with | none => false | some L => L.all (· != [13])
theorem right_enc (rs : List Nat) (h : ∀ r ∈ rs, okRune r) : rightL (enc rs) = rs.all (· != 13) := by
  unfold rightL
  rw [sig_of_enc rs h]
  simp only [List.all_map]
  apply Bool.eq_iff_iff.2
  simp only [List.all_eq_true, Function.comp, bne_iff_ne, ne_eq]
  constructor
  · intro hx r hr e
    subst e
    exact hx 13 hr (by decide)
  · intro hx r hr e
    exact hx r hr ((enc_one (h r hr) (c := 13) (by decide)).1 e)
theorem right_eq (l : List UInt8) : rightL l = (validD l && !l.contains 13) := by
  rw [valid_sig l.length l (Nat.le_refl _)]
  cases hs : sig l with
  | none => simp [rightL, hs]
  | some L =>
    obtain ⟨rs, hok, rfl, rfl⟩ := sig_some hs
    rw [right_enc rs hok]
    have hm := mem_enc rs hok 13 (by decide)
    apply Bool.eq_iff_iff.2
    simp only [List.all_eq_true, bne_iff_ne, ne_eq, Option.isSome_some, Bool.true_and, Bool.not_eq_true', List.contains_eq_mem, decide_eq_false_iff_not]
    rw [hm]
    exact ⟨fun h hx => h 13 hx rfl, fun h r hr e => h (by subst e; exact hr)⟩
/-- All of TextRights' plain law. -/
theorem rights (l : List UInt8) : rightL (dec l) = true ∧ (validD (dec l) && !(dec l).contains 13) = true ∧ dec (dec l) = dec l ∧ ((validD l && !l.contains 13) = true → dec l = l) := by
  have key : ∀ rs : List Nat, (∀ r ∈ rs, okRune r) → (∀ r ∈ rs, r ≠ 13) → dec (enc rs) = enc rs := by
    intro rs h1 h2
    have := dec_enc rs [] h1
    rw [List.append_nil, dec_nil, List.append_nil] at this
    rw [this]
    congr 1
    rw [List.filter_eq_self]
    intro r hr
    simpa using h2 r hr
  obtain ⟨rs, h1, h2, h3⟩ := dec_signs l.length l (Nat.le_refl _)
  have hr : rightL (dec l) = true := by
    rw [h3, right_enc rs h1]
    simpa using fun r hr => h2 r hr
  refine ⟨hr, by rw [← right_eq]; exact hr, by rw [h3]; exact key rs h1 h2, fun h => ?_⟩
  rw [← right_eq] at h
  unfold rightL at h
  cases hs : sig l with
  | none => rw [hs] at h; cases h
  | some L =>
    obtain ⟨qs, hok, rfl, rfl⟩ := sig_some hs
    have : rightL (enc qs) = true := by unfold rightL; rw [hs]; rw [hs] at h; exact h
    rw [right_enc qs hok] at this
    exact key qs hok (by simpa using this)

/-- TextJoins' plain law. -/
theorem joins (a b : List UInt8) (h : (sig a).isSome = true) : dec (a ++ b) = dec a ++ dec b := by
  obtain ⟨L, hL⟩ := Option.isSome_iff_exists.1 h
  obtain ⟨rs, hok, rfl, rfl⟩ := sig_some hL
  rw [dec_enc rs b hok]
  have := dec_enc rs [] hok
  rw [List.append_nil, dec_nil, List.append_nil] at this
  rw [this]
end Go.Proofs.YtaijjabbkmdcdaaDoor.Tx
