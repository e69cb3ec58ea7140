/- TextUnquotes' plain law: over signs and over bytes the same is read between quotes. -/
import Derived.Test.YtaijjabbkmdcdaaDoorTrunq
namespace Go.Proofs.YtaijjabbkmdcdaaDoor
open Go.Lib
set_option linter.unusedVariables false

abbrev E (r : Nat) : List UInt8 := encodeRune (r : Int)
theorem E_low {r : Nat} (h : r < 128) : E r = [r.toUInt8] := by
  rw [E, Tx.enc_byte _ (by omega) (by omega)]; rfl
theorem low_toNat {r : Nat} (h : r < 128) : (r.toUInt8).toNat = r := by simp [Nat.toUInt8]; omega
theorem E_long {r : Nat} (hr : Tx.okRune r) (h : 128 ≤ r) : 2 ≤ (E r).length := by
  have h1 := (Tx.enc_len (r : Int)).1
  by_cases h2 : (E r).length = 1
  · obtain ⟨b, hb⟩ := List.length_eq_one_iff.1 h2
    have hh := Tx.enc_high r hr h b (by show b ∈ E r; rw [hb]; simp)
    exfalso
    have e := Tx.decode_encode r hr []
    rw [List.append_nil, show encodeRune (r : Int) = [b] from hb] at e
    have hbad : decodeL [b] = (65533, 1) := by
      rw [decodeL_N]
      have hb256 := b.toNat_lt
      simp only [List.length_cons, List.length_nil, List.getD_cons_zero]
      unfold decodeN
      rw [if_neg (by omega), if_neg (by omega), if_neg (by omega), if_neg (by omega)]
    rw [hbad] at e
    have hr3 : r = 65533 := (Prod.ext_iff.1 e).1.symm
    subst hr3
    have := congrArg List.length hb
    rw [show E 65533 = [239, 191, 189] from Tx.bad_enc] at this
    simp at this
  · have h2' : (E r).length ≠ 1 := h2
    have : 1 ≤ (E r).length := h1
    omega
/-- The first byte of a sign. -/
theorem E_head (r : Nat) (hr : Tx.okRune r) (t : List UInt8) : (r < 128 ∧ (E r ++ t).getD 0 0 = r.toUInt8) ∨ (128 ≤ r ∧ 128 ≤ ((E r ++ t).getD 0 0).toNat) := by
  by_cases h : r < 128
  · left; rw [E_low h]; exact ⟨h, rfl⟩
  · right
    refine ⟨by omega, ?_⟩
    have hne : E r ≠ [] := Tx.enc_ne _
    cases he : E r with
    | nil => exact absurd he hne
    | cons b t' =>
      have := Tx.enc_high r hr (by omega) b (by show b ∈ E r; rw [he]; simp)
      simpa using this
theorem head_is (r : Nat) (hr : Tx.okRune r) (t : List UInt8) (c : UInt8) (hc : c.toNat < 128) : (E r ++ t).getD 0 0 = c ↔ r = c.toNat := by
  rcases E_head r hr t with ⟨h, e⟩ | ⟨h, e⟩
  · rw [e]
    constructor
    · rintro rfl; exact (low_toNat h).symm
    · rintro rfl; simp
  · constructor
    · rintro rfl; omega
    · rintro rfl; omega

theorem rc_eq : ∀ (m : Nat) (rs : List Nat) (v : Int), (∀ r ∈ rs, Tx.okRune r) → codeF (Tx.enc rs) m v = rcF (rs.map E) m v ∧ (∀ x, codeF (Tx.enc rs) m v = some x → (Tx.enc rs).drop m = Tx.enc (rs.drop m))
  | 0, rs, v, _ => by rw [codeF_zero, rcF_zero]; exact ⟨rfl, fun _ _ => by simp⟩
  | m + 1, [], v, _ => ⟨rfl, fun x h => by cases h⟩
  | m + 1, r :: rs, v, h => by
    have hr := h r (by simp)
    rw [Tx.enc_cons, List.map_cons]
    by_cases hl : r < 128
    · have ih := rc_eq m rs (16 * v + hexZ r) (fun q hq => h q (by simp [hq]))
      rw [show encodeRune (r : Int) = E r from rfl, E_low hl, List.cons_append, List.nil_append]
      unfold codeF rcF
      rw [numZ_byte, low_toNat hl]
      by_cases hn : hexZ r < 0
      · rw [if_pos hn, if_pos hn]
        exact ⟨rfl, fun x h => by cases h⟩
      · rw [if_neg hn, if_neg hn, show v * 16 + hexZ r = 16 * v + hexZ r by omega]
        exact ⟨ih.1, fun x hx => by simpa using ih.2 x hx⟩
    · have hn : numZ (E r) = -1 := numZ_long _ (by have := E_long hr (by omega); omega)
      have hz : codeF (encodeRune (r : Int) ++ Tx.enc rs) (m + 1) v = none := by
        have hh := E_head r hr (Tx.enc rs)
        have hne : encodeRune (r : Int) ≠ [] := Tx.enc_ne _
        cases he : encodeRune (r : Int) with
        | nil => exact absurd he hne
        | cons b t' =>
          rw [show E r = b :: t' from he] at hh
          simp at hh
          have hb := b.toNat_lt
          rw [List.cons_append]
          show (if hexZ b.toNat < 0 then none else _) = none
          rw [if_pos]
          unfold hexZ
          rw [if_neg (by omega), if_neg (by omega), if_neg (by omega)]
          omega
      rw [hz]
      unfold rcF
      rw [hn, if_pos (by omega)]
      exact ⟨rfl, fun x h => by cases h⟩

theorem more_eq (q : Nat) (hq : Tx.okRune q) (t : List UInt8) : moreOf ((E q ++ t).getD 0 0) = moreS (E q) := by
  unfold moreOf moreS
  have a := head_is q hq t 117 (by decide)
  have b := head_is q hq t 85 (by decide)
  have c := Tx.enc_one hq (c := 117) (by decide)
  have d := Tx.enc_one hq (c := 85) (by decide)
  by_cases h1 : q = 117
  · rw [if_pos (a.2 h1), if_pos (c.2 h1)]
  · rw [if_neg (fun h => h1 (a.1 h)), if_neg (fun h => h1 (c.1 h))]
    by_cases h2 : q = 85
    · rw [if_pos (b.2 h2), if_pos (d.2 h2)]
    · rw [if_neg (fun h => h2 (b.1 h)), if_neg (fun h => h2 (d.1 h))]

theorem rcF_nonneg : ∀ (m : Nat) (L : List (List UInt8)) (v x : Int), 0 ≤ v → rcF L m v = some x → 0 ≤ x
  | 0, L, v, x, h0, h => by rw [rcF_zero] at h; cases h; exact h0
  | m + 1, [], v, x, h0, h => by cases h
  | m + 1, z :: t, v, x, h0, h => by
    unfold rcF at h
    split at h
    · cases h
    · exact rcF_nonneg m t _ x (by omega) h
theorem fix_eq (x : Int) (h : 0 ≤ x) : codeOut (some x) = fixR x := by
  show (if validRune x then x else 65533) = fixR x
  unfold fixR validRune
  by_cases hb : x > 1114111 ∨ (55296 ≤ x ∧ x ≤ 57343)
  · rw [if_pos hb, if_neg]; simp; omega
  · rw [if_neg hb, if_pos]; simp; omega

theorem unq_eq : ∀ (n m : Nat) (rs : List Nat) (acc : List UInt8) (i : Nat), (∀ r ∈ rs, Tx.okRune r) → (Tx.enc rs).length ≤ n → rs.length ≤ m → uqF n (Tx.enc rs) acc i = rqF m (rs.map E) acc i
  | 0, m, [], acc, i, _, _, _ => by cases m <;> rfl
  | n + 1, m, [], acc, i, _, _, _ => by cases m <;> simp [uqF, rqF, Tx.enc_nil]
  | 0, m, r :: rs, acc, i, h, hn, _ => by
    rw [Tx.enc_cons, List.length_append] at hn
    have := (Tx.enc_len (r : Int)).1
    omega
  | n + 1, 0, r :: rs, acc, i, h, hn, hm => by simp at hm
  | n + 1, m + 1, r :: rs, acc, i, h, hn, hm => by
    have hr := h r (by simp)
    have hrs : ∀ q ∈ rs, Tx.okRune q := fun q hq => h q (by simp [hq])
    have hEl := (Tx.enc_len (r : Int)).1
    have hd := Tx.decode_encode r hr (Tx.enc rs)
    rw [Tx.enc_cons, List.length_append] at hn
    have ih := unq_eq n m rs (acc ++ E r) (i + (E r).length) hrs (by omega) (by simp at hm; omega)
    rw [Tx.enc_cons, List.map_cons]
    unfold uqF rqF
    rw [if_neg (by simp [Tx.enc_ne]), hd]
    simp only [List.drop_left]
    have e34 := Tx.enc_one hr (c := 34) (by decide)
    have e10 := Tx.enc_one hr (c := 10) (by decide)
    have e92 := Tx.enc_one hr (c := 92) (by decide)
    by_cases h34 : r = 34
    · rw [if_pos h34, if_pos (e34.2 h34)]
    rw [if_neg h34, if_neg (fun x => h34 (e34.1 x))]
    by_cases h10 : r = 10
    · rw [if_pos h10, if_pos (e10.2 h10)]
    rw [if_neg h10, if_neg (fun x => h10 (e10.1 x))]
    by_cases h92 : r = 92
    · rw [if_neg (show ¬ (r ≠ 92) from fun hx => hx h92), if_neg (show ¬ (E r ≠ [92]) from fun hx => hx (e92.2 h92))]
      have hE1 : encodeRune (r : Int) = [92] := e92.2 h92
      have hE1' : E r = [92] := hE1
      simp only [hE1, hE1', List.length_cons, List.length_nil, List.cons_append, List.nil_append, Nat.zero_add]
      cases rs with
      | nil =>
        simp [Tx.enc_nil, moreOf]
      | cons q rs =>
        have hq := hrs q (by simp)
        have hqs : ∀ p ∈ rs, Tx.okRune p := fun p hp => hrs p (by simp [hp])
        rw [Tx.enc_cons, List.map_cons]
        simp only [List.getD_cons_succ, List.drop_succ_cons]
        have k34 := head_is q hq (Tx.enc rs) 34 (by decide)
        have k92 := head_is q hq (Tx.enc rs) 92 (by decide)
        have y34 := Tx.enc_one hq (c := 34) (by decide)
        have y92 := Tx.enc_one hq (c := 92) (by decide)
        have hmo := more_eq q hq (Tx.enc rs)
        rw [show encodeRune (q : Int) = E q from rfl] at *
        have hn2 : 1 + ((E q).length + (Tx.enc rs).length) ≤ n + 1 := by
          rw [hE1, Tx.enc_cons, List.length_append] at hn
          simpa using hn
        have hEq := (Tx.enc_len (q : Int)).1
        have hEq' : 1 ≤ (E q).length := hEq
        by_cases hq2 : q = 34 ∨ q = 92
        · rw [if_pos (hq2.elim (fun e => Or.inl (k34.2 e)) (fun e => Or.inr (k92.2 e))), if_pos (hq2.elim (fun e => Or.inl (y34.2 e)) (fun e => Or.inr (y92.2 e)))]
          have hlow : q < 128 := by omega
          have hEq1 : E q = [q.toUInt8] := E_low hlow
          rw [hEq1]
          simp only [List.cons_append, List.nil_append, List.getD_cons_zero, List.drop_succ_cons, List.drop_zero, List.length_cons, List.length_nil]
          exact unq_eq n m rs _ _ hqs (by omega) (by simp at hm; omega)
        · have n1 : ¬ ((E q ++ Tx.enc rs).getD 0 0 = 34 ∨ (E q ++ Tx.enc rs).getD 0 0 = 92) := fun x => hq2 (x.elim (fun e => Or.inl (k34.1 e)) (fun e => Or.inr (k92.1 e)))
          have n2 : ¬ (E q = [34] ∨ E q = [92]) := fun x => hq2 (x.elim (fun e => Or.inl (y34.1 e)) (fun e => Or.inr (y92.1 e)))
          rw [if_neg n1, if_neg n2]
          rw [hmo]
          by_cases hm0 : moreS (E q) = 0
          · rw [if_pos hm0, if_pos hm0]
          rw [if_neg hm0, if_neg hm0]
          have hlow : E q = [117] ∨ E q = [85] := by
            unfold moreS at hm0
            by_cases a : E q = [117]
            · exact Or.inl a
            · rw [if_neg a] at hm0
              by_cases b : E q = [85]
              · exact Or.inr b
              · rw [if_neg b] at hm0; exact absurd rfl hm0
          have hEl1 : (E q).length = 1 := by rcases hlow with a | a <;> rw [a] <;> rfl
          have hdr : ∀ k, (E q ++ Tx.enc rs).drop (1 + k) = (Tx.enc rs).drop k := by
            intro k
            rw [← hEl1, ← List.drop_drop, List.drop_left]
          rw [show (E q ++ Tx.enc rs).drop 1 = Tx.enc rs by have := hdr 0; simpa using this]
          obtain ⟨r1, r2⟩ := rc_eq (moreS (E q)) rs 0 hqs
          rw [← r1]
          cases hc : codeF (Tx.enc rs) (moreS (E q)) 0 with
          | none => simp
          | some x =>
            rw [hc] at r1
            have hx0 := rcF_nonneg _ _ _ _ (Int.le_refl 0) r1.symm
            have hdd := r2 x hc
            have hlen := codeF_run _ _ _ _ hc
            simp only [Option.isSome_some, if_true]
            rw [fix_eq x hx0, show 1 + (1 + moreS (E q)) = (1 + moreS (E q)) + 1 by omega, List.drop_succ_cons, hdr, hdd, ← List.map_drop, hEl1, show i + (1 + moreS (E q) + 1) = i + 1 + 1 + moreS (E q) by omega]
            refine unq_eq n m (rs.drop (moreS (E q))) _ _ (fun p hp => hqs p (List.mem_of_mem_drop hp)) ?_ ?_
            · rw [← hdd, List.length_drop]; omega
            · rw [List.length_drop]; simp at hm; omega
    · rw [if_pos h92, if_pos (fun x => h92 (e92.1 x))]
      exact ih

theorem unquote_law (l : List UInt8) (L : List (List UInt8)) (h : Tx.sig l = some L) : uq l = rq L := by
  obtain ⟨rs, hok, rfl, rfl⟩ := Tx.sig_some h
  unfold uq rq
  cases rs with
  | nil => rfl
  | cons r rs =>
    have hr := hok r (by simp)
    have k34 := head_is r hr (Tx.enc rs) 34 (by decide)
    have y34 := Tx.enc_one hr (c := 34) (by decide)
    rw [Tx.enc_cons]
    by_cases h34 : r = 34
    · have hE : encodeRune (r : Int) = [34] := y34.2 h34
      rw [if_pos (k34.2 h34), if_pos (by simp [hE])]
      simp only [hE, List.cons_append, List.nil_append, List.drop_succ_cons, List.drop_zero, List.length_cons, List.map_cons]
      exact unq_eq _ _ rs [] 1 (fun q hq => hok q (by simp [hq])) (by omega) (by simp)
    · rw [if_neg (fun x => h34 (k34.1 x)), if_neg (by simp; exact fun x => h34 (y34.1 x))]
end Go.Proofs.YtaijjabbkmdcdaaDoor
