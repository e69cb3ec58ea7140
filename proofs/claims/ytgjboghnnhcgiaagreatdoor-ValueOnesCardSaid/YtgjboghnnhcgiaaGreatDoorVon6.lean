/- of the words of categories just one is meant of any number (Text 7 of 7: what the law's proof rests on, joined; walks printed by the kit's print over given contracts, walks and plain laws by hand.) -/
import Derived.Test.YtgjboghnnhcgiaaGreatDoorVon0
import Derived.Test.YtgjboghnnhcgiaaGreatDoorVon1
import Derived.Test.YtgjboghnnhcgiaaGreatDoorVon2
import Derived.Test.YtgjboghnnhcgiaaGreatDoorVon3
import Derived.Test.YtgjboghnnhcgiaaGreatDoorVon4
import Derived.Test.YtgjboghnnhcgiaaGreatDoorVon5
namespace Go.Proofs.YtgjboghnnhcgiaaGreatDoor.VO
open Go.RowKit Go.Proofs.YtgjboghnnhcgiaaGreatDoor Go.Proofs.YtgjboghnnhcgiaaGreatDoor.GV Go.Proofs.YtgjboghnnhcgiaaGreatDoor.Z Go.Proofs.YtgjboghnnhcgiaaGreatDoor.PN Go.Proofs.YtgjboghnnhcgiaaGreatDoorW.PrintWords
set_option linter.unusedVariables false
set_option linter.unusedSimpArgs false
def Rg (c : Int) : Prop := 0 ≤ c ∧ c ≤ 5
theorem pick_rg (lang : ByteArray) : ∀ (T : List (List (List UInt8) × Int)), (∀ p ∈ T, Rg p.2) → Rg (pick lang T)
  | [], _ => (show Rg 0 from ⟨by decide, by decide⟩)
  | (F, c) :: r, h => by
    unfold pick
    split
    · exact h (F, c) (.head _)
    · exact pick_rg lang r (fun p hp => h p (.tail _ hp))
theorem table_rg (L : List UInt8) (v : Int) (b : Bool) : ∀ p ∈ table L v b, Rg p.2 := by
  intro p hp
  have h := (List.of_mem_zip hp).2
  simp only [List.mem_cons, List.not_mem_nil, or_false] at h
  rcases h with h | h | h | h | h | h | h <;> rw [h]
  · unfold enC; split <;> exact ⟨by decide, by decide⟩
  · unfold frC; split <;> exact ⟨by decide, by decide⟩
  · unfold esC; split <;> exact ⟨by decide, by decide⟩
  · unfold polC; split <;> (try split) <;> (try split) <;> exact ⟨by decide, by decide⟩
  · unfold rusC; split <;> (try split) <;> (try split) <;> exact ⟨by decide, by decide⟩
  · unfold czeC; split <;> (try split) <;> (try split) <;> exact ⟨by decide, by decide⟩
  · unfold araC; split <;> (try split) <;> (try split) <;> (try split) <;> (try split) <;> (try split) <;> exact ⟨by decide, by decide⟩
theorem rank_rg (lang : ByteArray) (L : List UInt8) (b : Bool) : Rg (rankC lang L b) := by
  unfold rankC rankT
  split <;> (try split) <;> (try split) <;> (try split) <;> (try split) <;> (try split) <;> (try split) <;> exact ⟨by decide, by decide⟩
theorem plC_rg (rk : Bool) (lang E : ByteArray) (K : Nat) : Rg (plC rk lang E K) := by
  unfold plC
  split
  · exact rank_rg _ _ _
  · exact pick_rg _ _ (table_rg _ _ _)
theorem digB_app {a b : ByteArray} (ha : G.digB a = true) (hb : G.digB b = true) : G.digB (a ++ b) = true := by
  unfold G.digB at *
  rw [ByteArray.data_append, Array.toList_append, List.all_append, ha, hb]
  rfl
theorem digB_zs (m : Nat) : G.digB (zs m) = true := by
  unfold G.digB zs
  rw [List.all_eq_true]
  intro c hc
  rw [List.eq_of_mem_replicate hc]
  decide
theorem digB_ext {a : ByteArray} (i : Nat) (h : G.digB a = true) : G.digB (a.extract 0 i) = true := by
  unfold G.digB at *
  rw [List.all_eq_true] at *
  intro c hc
  refine h c ?_
  rw [Lib.extract_data] at hc
  exact List.mem_of_mem_drop (List.mem_of_mem_take hc)
theorem shD_dig (mi mf : Nat) {r : ByteArray} (k : Nat) (h : G.digB r = true) : G.digB (shD mi mf r k) = true := digB_app (digB_zs _) (digB_app (digB_ext _ h) (digB_zs _))
theorem round_sh (n : Bool) (D : ByteArray) (sc xf : Int) (ho : G.okN D sc = true) (hx : xf ≤ 60) : ∃ r k1, G.dec_Dec_Round.f n D sc xf = some (n, r, k1) ∧ ∀ mi mf : Int, 0 ≤ mi → mi ≤ 20 → 0 ≤ mf → mf ≤ 20 → shOk n (n, r, k1) mi mf = true := by
  obtain ⟨j, rfl, h1, h2, h3⟩ := G.okN_of ho
  obtain ⟨A, rfl⟩ : ∃ l : List UInt8, D = ⟨l.toArray⟩ := ⟨D.data.toList, by cases D; rfl⟩
  have hz : (⟨A.toArray⟩ : ByteArray).size = A.length := rfl
  rw [hz] at h1 h2
  have hA : S.Num A j := ⟨h3, h1, by omega⟩
  obtain ⟨R, r, e, hR, _⟩ := S.round_ok n hA h2 xf hx
  refine ⟨⟨R.toArray⟩, r, e, fun mi mf m0 m1 f0 f1 => ?_⟩
  have hl := hR.lt
  have hm := hR.max
  have hd : G.digB ⟨R.toArray⟩ = true := hR.dig
  have hz2 : (⟨R.toArray⟩ : ByteArray).size = R.length := rfl
  unfold shOk
  rw [shD_dig _ _ _ hd, hz2]
  simp only [decide_true, Bool.true_and, Bool.and_true, Bool.and_eq_true, decide_eq_true_eq]
  omega
theorem rd_at {L : List S78} {i : Nat} (h : i < L.length) : rd_T78 L (i : Int) = L[i] := by
  unfold rd_T78
  rw [Int.toNat_natCast, List.getD_eq_getElem?_getD, List.getElem?_eq_getElem h]
  rfl
theorem opts_loop (L : List S78) (hL : ∀ p ∈ L, G.okN p.f2.f1 p.f2.f2 = true) (h20 : L.length ≤ 20) : ∀ (d i : Nat) (m f x : Int) (p r : Bool), L.length - i ≤ d → i ≤ L.length → Inv m f x →
    ∃ m1 f1 x1 p1 r1, polyglotlaw12_Opts.l0 (d + 1) L (L.length : Int) (i : Int) m f x p r = some (m1, f1, x1, p1, r1) ∧ Inv m1 f1 x1 := by
  intro d
  induction d with
  | zero =>
    intro i m f x p r h1 h2 h3
    exact ⟨m, f, x, p, r, by rw [polyglotlaw12_Opts.l0, if_neg (by omega)], h3⟩
  | succ d ih =>
    intro i m f x p r h1 h2 h3
    by_cases hi : i < L.length
    · have hp := hL _ (List.getElem_mem hi)
      have hw : wrap64 ((i : Int) + 1) = ((i + 1 : Nat) : Int) := by rw [w64 _ (by omega) (by omega)]; omega
      rw [polyglotlaw12_Opts.l0, if_pos (by omega), if_pos (by omega), if_pos (by omega), rd_at hi, hw]
      generalize L[i] = e at hp
      unfold GV.number_Opts_Set.f G.number_Opts_Set.f
      rw [if_pos hp, Option.bind_some]
      have hV := stS_inv h3 p r e.f0 e.f1 (dgV e.f2.f0 (G.trE e.f2.f1 e.f2.f2.toNat) (G.trK e.f2.f1 e.f2.f2.toNat)) e.f3
      generalize stS m f x p r e.f0 e.f1 (dgV e.f2.f0 (G.trE e.f2.f1 e.f2.f2.toNat) (G.trK e.f2.f1 e.f2.f2.toNat)) e.f3 = V at *
      obtain ⟨z, m1, f1, x1, p1, r1⟩ := V
      cases z with
      | true => exact ih (i + 1) m1 f1 x1 p1 r1 (by omega) (by omega) hV
      | false => exact ih (i + 1) m f x p r (by omega) (by omega) h3
    · exact ⟨m, f, x, p, r, by rw [polyglotlaw12_Opts.l0, if_neg (by omega)], h3⟩
theorem mright_loop (L : List S78) (hl : L.length ≤ 281474976710656) (kd : Int) (tx : ByteArray) (n : Bool) (D : ByteArray) (sc se st : Int) : ∀ (d i : Nat), L.length - i ≤ d → i ≤ L.length → (∀ j (h : j < L.length), j < i → G.okN L[j].f2.f1 L[j].f2.f2 = true) →
    ∃ b, polyglotlaw14_Make_Right.l0 (d + 101) L (L.length : Int) (i : Int) kd tx n D sc L se st = some b ∧ (b = true → (∀ p ∈ L, G.okN p.f2.f1 p.f2.f2 = true) ∧ L.length ≤ 20 ∧ G.okN D sc = true) := by
  have fin : ∀ (i k : Nat), 100 ≤ k → L.length ≤ i → (∀ j (h : j < L.length), j < i → G.okN L[j].f2.f1 L[j].f2.f2 = true) → ∃ b, polyglotlaw14_Make_Right.l0 (k + 1) L (L.length : Int) (i : Int) kd tx n D sc L se st = some b ∧ (b = true → (∀ p ∈ L, G.okN p.f2.f1 p.f2.f2 = true) ∧ L.length ≤ 20 ∧ G.okN D sc = true) := by
    intro i k h0 h1 h2
    obtain ⟨b, hb, hok⟩ := right_ok n D sc k h0
    have hb' : GV.polyglotlaw02_Right.f k n D sc = some b := hb
    rw [polyglotlaw14_Make_Right.l0, if_neg (by omega), hb', Option.bind_some]
    cases b with
    | false => exact ⟨false, rfl, fun h => by cases h⟩
    | true =>
      rw [if_pos rfl]
      by_cases h3 : (L.length : Int) ≤ 20
      · rw [if_pos h3]
        refine ⟨_, rfl, fun _ => ⟨fun p hp => ?_, by omega, (hok rfl).1⟩⟩
        obtain ⟨j, hj, rfl⟩ := List.getElem_of_mem hp
        exact h2 j hj (by omega)
      · rw [if_neg h3]
        exact ⟨false, rfl, fun h => by cases h⟩
  intro d
  induction d with
  | zero => intro i h1 h2 h3; exact fin i 100 (by omega) (by omega) h3
  | succ d ih =>
    intro i h1 h2 h3
    by_cases hi : i < L.length
    · obtain ⟨b, hb, hok⟩ := right_ok L[i].f2.f0 L[i].f2.f1 L[i].f2.f2 (d + 101) (by omega)
      have hb' : GV.polyglotlaw02_Right.f (d + 101) L[i].f2.f0 L[i].f2.f1 L[i].f2.f2 = some b := hb
      rw [show d + 1 + 101 = d + 101 + 1 by omega, polyglotlaw14_Make_Right.l0, if_pos (by omega), if_pos (by omega), if_pos (by omega), rd_at hi, hb', Option.bind_some]
      cases b with
      | false => exact ⟨false, rfl, fun h => by cases h⟩
      | true =>
        rw [if_pos rfl, w64 _ (by omega) (by omega), show (i : Int) + 1 = ((i + 1 : Nat) : Int) by omega]
        refine ih (i + 1) (by omega) (by omega) ?_
        intro j hj hji
        by_cases e : j = i
        · subst e; exact (hok rfl).1
        · exact h3 j hj (by omega)
    · exact fin i (d + 1 + 100) (by omega) (by omega) h3
abbrev sixW : List ByteArray := [(⟨#[122, 101, 114, 111]⟩ : ByteArray), (⟨#[111, 110, 101]⟩ : ByteArray), (⟨#[116, 119, 111]⟩ : ByteArray), (⟨#[102, 101, 119]⟩ : ByteArray), (⟨#[109, 97, 110, 121]⟩ : ByteArray), (⟨#[111, 116, 104, 101, 114]⟩ : ByteArray)]
theorem is_six (k : Nat) (n : Bool) (D : ByteArray) (sc m f x : Int) (p r : Bool) (lang q : ByteArray) (k1 : Int) (hi : Inv m f x) (hr : G.dec_Dec_Round.f n D sc x = some (n, q, k1)) (ho : shOk n (n, q, k1) m f = true) (wd : ByteArray) (hw : ∃ b d e, R.dec_Parse.f wd = some (b, d, e, false)) :
    value_Value_Is.f k 1 ⟨#[]⟩ n D sc m f x p r 0 0 wd lang = some (wordL (plC r lang (shD m.toNat f.toNat q k1.toNat) (shK f.toNat q k1.toNat)) == wd.toList) := by
  obtain ⟨b, d, e, hp⟩ := hw
  unfold value_Value_Is.f
  rw [if_neg (by decide), if_pos rfl, hp, Option.bind_some, if_neg (by simp), hr, Option.bind_some, if_pos ho]
theorem ones_loop (k : Nat) (tx : ByteArray) (n : Bool) (D : ByteArray) (sc : Int) (L : List S78) (se st m f x : Int) (p r : Bool) (lang : ByteArray) (C : Int) (hC : Rg C)
    (hM : ∀ j, polyglotlaw14_Make_Value.f (k + j) 1 tx n D sc L se st = some (1, ⟨#[]⟩, n, D, sc, m, f, x, p, r, 0, 0))
    (hI : ∀ j wd, (wd ∈ sixW ∨ wd = ⟨#[]⟩) → value_Value_Is.f j 1 ⟨#[]⟩ n D sc m f x p r 0 0 wd lang = some (wordL C == wd.toList)) :
    polyglotlaw14_ValueOnes.l0 (k + 6 + 1) lang 0 sixW 6 0 1 tx n D sc L se st = some true := by
  have hlen : (sixW.length : Int) = 6 := rfl
  have step : ∀ (i : Nat) (c : Int) (j : Nat) (hi : i < 6) (hc : 0 ≤ c ∧ c ≤ 6), polyglotlaw14_ValueOnes.l0 (k + j + 1) lang c sixW 6 (i : Int) 1 tx n D sc L se st =
      if (wordL C == (sixW[i]'hi).toList) = true then polyglotlaw14_ValueOnes.l0 (k + j) lang (c + 1) sixW 6 ((i + 1 : Nat) : Int) 1 tx n D sc L se st else polyglotlaw14_ValueOnes.l0 (k + j) lang c sixW 6 ((i + 1 : Nat) : Int) 1 tx n D sc L se st := by
    intro i c j hi hc
    have hrd : rdOf ByteArray.empty sixW (i : Int) = sixW[i]'hi := by
      unfold rdOf
      rw [Int.toNat_natCast, List.getD_eq_getElem?_getD, List.getElem?_eq_getElem hi]
      rfl
    have hw : wrap64 ((i : Int) + 1) = ((i + 1 : Nat) : Int) := by rw [w64 _ (by omega) (by omega)]; omega
    have hw2 : wrap64 (c + 1) = c + 1 := w64 _ (by omega) (by omega)
    rw [polyglotlaw14_ValueOnes.l0, if_pos (by omega), if_pos (by omega), if_pos (by rw [hlen]; omega), hM, Option.bind_some, hrd, hI _ _ (.inl (List.getElem_mem hi)), Option.bind_some, hw, hw2]
  have last : polyglotlaw14_ValueOnes.l0 (k + 0 + 1) lang 1 sixW 6 ((6 : Nat) : Int) 1 tx n D sc L se st = some (!(wordL C == (⟨#[]⟩ : ByteArray).toList)) := by
    have hM0 : polyglotlaw14_Make_Value.f k 1 tx n D sc L se st = some (1, ⟨#[]⟩, n, D, sc, m, f, x, p, r, 0, 0) := hM 0
    rw [polyglotlaw14_ValueOnes.l0, if_neg (by omega), if_pos rfl, hM0, Option.bind_some, hI _ _ (.inr rfl), Option.bind_some]
  obtain ⟨h0, h5⟩ := hC
  rcases (show C = 0 ∨ C = 1 ∨ C = 2 ∨ C = 3 ∨ C = 4 ∨ C = 5 by omega) with rfl | rfl | rfl | rfl | rfl | rfl
  · have v6 : (wordL 0 == (⟨#[]⟩ : ByteArray).toList) = false := by kernel_rfl
    rw [v6] at last
    have v0 : (wordL 0 == (sixW[0]'(by decide)).toList) = false := by kernel_rfl
    refine (step 0 0 6 (by omega) (by omega)).trans ?_
    rw [v0, if_neg (by decide)]
    have v1 : (wordL 0 == (sixW[1]'(by decide)).toList) = false := by kernel_rfl
    refine (step 1 0 5 (by omega) (by omega)).trans ?_
    rw [v1, if_neg (by decide)]
    have v2 : (wordL 0 == (sixW[2]'(by decide)).toList) = false := by kernel_rfl
    refine (step 2 0 4 (by omega) (by omega)).trans ?_
    rw [v2, if_neg (by decide)]
    have v3 : (wordL 0 == (sixW[3]'(by decide)).toList) = false := by kernel_rfl
    refine (step 3 0 3 (by omega) (by omega)).trans ?_
    rw [v3, if_neg (by decide)]
    have v4 : (wordL 0 == (sixW[4]'(by decide)).toList) = false := by kernel_rfl
    refine (step 4 0 2 (by omega) (by omega)).trans ?_
    rw [v4, if_neg (by decide)]
    have v5 : (wordL 0 == (sixW[5]'(by decide)).toList) = true := by kernel_rfl
    refine (step 5 0 1 (by omega) (by omega)).trans ?_
    rw [v5, if_pos rfl]
    exact last
  · have v6 : (wordL 1 == (⟨#[]⟩ : ByteArray).toList) = false := by kernel_rfl
    rw [v6] at last
    have v0 : (wordL 1 == (sixW[0]'(by decide)).toList) = true := by kernel_rfl
    refine (step 0 0 6 (by omega) (by omega)).trans ?_
    rw [v0, if_pos rfl]
    have v1 : (wordL 1 == (sixW[1]'(by decide)).toList) = false := by kernel_rfl
    refine (step 1 1 5 (by omega) (by omega)).trans ?_
    rw [v1, if_neg (by decide)]
    have v2 : (wordL 1 == (sixW[2]'(by decide)).toList) = false := by kernel_rfl
    refine (step 2 1 4 (by omega) (by omega)).trans ?_
    rw [v2, if_neg (by decide)]
    have v3 : (wordL 1 == (sixW[3]'(by decide)).toList) = false := by kernel_rfl
    refine (step 3 1 3 (by omega) (by omega)).trans ?_
    rw [v3, if_neg (by decide)]
    have v4 : (wordL 1 == (sixW[4]'(by decide)).toList) = false := by kernel_rfl
    refine (step 4 1 2 (by omega) (by omega)).trans ?_
    rw [v4, if_neg (by decide)]
    have v5 : (wordL 1 == (sixW[5]'(by decide)).toList) = false := by kernel_rfl
    refine (step 5 1 1 (by omega) (by omega)).trans ?_
    rw [v5, if_neg (by decide)]
    exact last
  · have v6 : (wordL 2 == (⟨#[]⟩ : ByteArray).toList) = false := by kernel_rfl
    rw [v6] at last
    have v0 : (wordL 2 == (sixW[0]'(by decide)).toList) = false := by kernel_rfl
    refine (step 0 0 6 (by omega) (by omega)).trans ?_
    rw [v0, if_neg (by decide)]
    have v1 : (wordL 2 == (sixW[1]'(by decide)).toList) = true := by kernel_rfl
    refine (step 1 0 5 (by omega) (by omega)).trans ?_
    rw [v1, if_pos rfl]
    have v2 : (wordL 2 == (sixW[2]'(by decide)).toList) = false := by kernel_rfl
    refine (step 2 1 4 (by omega) (by omega)).trans ?_
    rw [v2, if_neg (by decide)]
    have v3 : (wordL 2 == (sixW[3]'(by decide)).toList) = false := by kernel_rfl
    refine (step 3 1 3 (by omega) (by omega)).trans ?_
    rw [v3, if_neg (by decide)]
    have v4 : (wordL 2 == (sixW[4]'(by decide)).toList) = false := by kernel_rfl
    refine (step 4 1 2 (by omega) (by omega)).trans ?_
    rw [v4, if_neg (by decide)]
    have v5 : (wordL 2 == (sixW[5]'(by decide)).toList) = false := by kernel_rfl
    refine (step 5 1 1 (by omega) (by omega)).trans ?_
    rw [v5, if_neg (by decide)]
    exact last
  · have v6 : (wordL 3 == (⟨#[]⟩ : ByteArray).toList) = false := by kernel_rfl
    rw [v6] at last
    have v0 : (wordL 3 == (sixW[0]'(by decide)).toList) = false := by kernel_rfl
    refine (step 0 0 6 (by omega) (by omega)).trans ?_
    rw [v0, if_neg (by decide)]
    have v1 : (wordL 3 == (sixW[1]'(by decide)).toList) = false := by kernel_rfl
    refine (step 1 0 5 (by omega) (by omega)).trans ?_
    rw [v1, if_neg (by decide)]
    have v2 : (wordL 3 == (sixW[2]'(by decide)).toList) = true := by kernel_rfl
    refine (step 2 0 4 (by omega) (by omega)).trans ?_
    rw [v2, if_pos rfl]
    have v3 : (wordL 3 == (sixW[3]'(by decide)).toList) = false := by kernel_rfl
    refine (step 3 1 3 (by omega) (by omega)).trans ?_
    rw [v3, if_neg (by decide)]
    have v4 : (wordL 3 == (sixW[4]'(by decide)).toList) = false := by kernel_rfl
    refine (step 4 1 2 (by omega) (by omega)).trans ?_
    rw [v4, if_neg (by decide)]
    have v5 : (wordL 3 == (sixW[5]'(by decide)).toList) = false := by kernel_rfl
    refine (step 5 1 1 (by omega) (by omega)).trans ?_
    rw [v5, if_neg (by decide)]
    exact last
  · have v6 : (wordL 4 == (⟨#[]⟩ : ByteArray).toList) = false := by kernel_rfl
    rw [v6] at last
    have v0 : (wordL 4 == (sixW[0]'(by decide)).toList) = false := by kernel_rfl
    refine (step 0 0 6 (by omega) (by omega)).trans ?_
    rw [v0, if_neg (by decide)]
    have v1 : (wordL 4 == (sixW[1]'(by decide)).toList) = false := by kernel_rfl
    refine (step 1 0 5 (by omega) (by omega)).trans ?_
    rw [v1, if_neg (by decide)]
    have v2 : (wordL 4 == (sixW[2]'(by decide)).toList) = false := by kernel_rfl
    refine (step 2 0 4 (by omega) (by omega)).trans ?_
    rw [v2, if_neg (by decide)]
    have v3 : (wordL 4 == (sixW[3]'(by decide)).toList) = true := by kernel_rfl
    refine (step 3 0 3 (by omega) (by omega)).trans ?_
    rw [v3, if_pos rfl]
    have v4 : (wordL 4 == (sixW[4]'(by decide)).toList) = false := by kernel_rfl
    refine (step 4 1 2 (by omega) (by omega)).trans ?_
    rw [v4, if_neg (by decide)]
    have v5 : (wordL 4 == (sixW[5]'(by decide)).toList) = false := by kernel_rfl
    refine (step 5 1 1 (by omega) (by omega)).trans ?_
    rw [v5, if_neg (by decide)]
    exact last
  · have v6 : (wordL 5 == (⟨#[]⟩ : ByteArray).toList) = false := by kernel_rfl
    rw [v6] at last
    have v0 : (wordL 5 == (sixW[0]'(by decide)).toList) = false := by kernel_rfl
    refine (step 0 0 6 (by omega) (by omega)).trans ?_
    rw [v0, if_neg (by decide)]
    have v1 : (wordL 5 == (sixW[1]'(by decide)).toList) = false := by kernel_rfl
    refine (step 1 0 5 (by omega) (by omega)).trans ?_
    rw [v1, if_neg (by decide)]
    have v2 : (wordL 5 == (sixW[2]'(by decide)).toList) = false := by kernel_rfl
    refine (step 2 0 4 (by omega) (by omega)).trans ?_
    rw [v2, if_neg (by decide)]
    have v3 : (wordL 5 == (sixW[3]'(by decide)).toList) = false := by kernel_rfl
    refine (step 3 0 3 (by omega) (by omega)).trans ?_
    rw [v3, if_neg (by decide)]
    have v4 : (wordL 5 == (sixW[4]'(by decide)).toList) = true := by kernel_rfl
    refine (step 4 0 2 (by omega) (by omega)).trans ?_
    rw [v4, if_pos rfl]
    have v5 : (wordL 5 == (sixW[5]'(by decide)).toList) = false := by kernel_rfl
    refine (step 5 1 1 (by omega) (by omega)).trans ?_
    rw [v5, if_neg (by decide)]
    exact last
theorem lift_ {α : Type} {f : Nat → Option α} (h : ∀ k, LeO (f k) (f (k + 1))) {a b : Nat} (hab : a ≤ b) {r : α} (ha : f a = some r) : f b = some r := by
  induction hab with
  | refl => exact ha
  | step _ ih => exact h _ _ ih
theorem six_parse (wd : ByteArray) (h : wd ∈ sixW ∨ wd = ⟨#[]⟩) : ∃ b d e, R.dec_Parse.f wd = some (b, d, e, false) := by
  rcases h with h | rfl
  · simp only [List.mem_cons, List.not_mem_nil, or_false] at h
    rcases h with rfl | rfl | rfl | rfl | rfl | rfl <;> exact ⟨false, ⟨#[]⟩, 0, by kernel_rfl⟩
  · exact ⟨false, ⟨#[]⟩, 0, by kernel_rfl⟩
theorem ones_pure (kd : Int) (tx : ByteArray) (n : Bool) (D : ByteArray) (sc : Int) (L : List S78) (se st : Int) (lang : ByteArray) (hl : L.length ≤ 281474976710656) : ∃ k, polyglotlaw14_ValueOnes.f k kd tx n D sc L se st lang = some true := by
  refine ⟨L.length + 101, ?_⟩
  obtain ⟨b, hb, hok⟩ := mright_loop L hl kd tx n D sc se st L.length 0 (by omega) (by omega) (fun _ _ h => by omega)
  have hb' : polyglotlaw14_Make_Right.f (L.length + 101) kd tx n D sc L se st = some b := hb
  unfold polyglotlaw14_ValueOnes.f GV.polyglotlaw14_head.f
  rw [Option.bind_some, if_pos rfl, hb', Option.bind_some]
  cases b with
  | false => rw [if_neg (by decide)]
  | true =>
    obtain ⟨h1, h2, h3⟩ := hok rfl
    rw [if_pos rfl, Option.bind_some]
    obtain ⟨m, f, x, p, r, ho, hi⟩ := opts_loop L h1 h2 L.length 0 1 0 3 false false (by omega) (by omega) ⟨by decide, by decide, by decide, by decide, by decide⟩
    have hO : polyglotlaw12_Opts.f (L.length + 1) L = some (m, f, x, p, r) := by
      unfold polyglotlaw12_Opts.f GV.number_Default.f G.number_Default.f
      rw [Option.bind_some]
      exact ho
    obtain ⟨q, k1, hr, hs⟩ := round_sh n D sc x h3 (by have := hi.2.2.2.2; omega)
    have hs1 := hs m f (by have := hi.1; omega) hi.2.1 hi.2.2.1 (by have := hi.2.2.2.1; have := hi.2.2.2.2; omega)
    refine ones_loop (L.length + 94) tx n D sc L se st m f x p r lang _ (plC_rg r lang _ _) (fun j => ?_) (fun j wd hw => is_six j n D sc m f x p r lang q k1 hi hr hs1 wd (six_parse wd hw))
    unfold polyglotlaw14_Make_Value.f
    rw [if_pos (by decide), lift_ (f := fun k => polyglotlaw12_Opts.f k L) (fun k => polyglotlaw12_Opts.mono L k) (show L.length + 1 ≤ L.length + 94 + j by omega) hO, Option.bind_some]
theorem ones_walk (kd : Int) (tx : ByteArray) (n : Bool) (D : ByteArray) (sc : Int) (A : Option Addr) (c : Nat) (l : List S78) (se st : Int) (lang : ByteArray) (W : World) (hc : l.length ≤ c) (hC : Kd.C k78 W A l.length l) (hl : l.length ≤ 281474976710656) (hT : GV.Tab_ W) :
    Calls Tryz.prog 5 #[.agg #[.int .i64 kd, .string tx, .bool n, .string D, .int .i64 sc, .slice A l.length c, .int .i64 se, .int .i64 st], .string lang] W fun e w' => e = .returned (.bool true) ∧ Below W.heap.size W w' := by
  obtain ⟨k, hk⟩ := ones_pure kd tx n D sc l se st lang hl
  exact polyglotlaw14_ValueOnes.calls k kd tx n D sc A c l se st lang true W hC hc hk hT
end Go.Proofs.YtgjboghnnhcgiaaGreatDoor.VO
namespace Go.Proofs.YtgjboghnnhcgiaaGreatDoor.valueOnes
open Go.ChangeShapes Go.WideShapes Go.ChangeAt Go.RowKit Go.Proofs.YtgjboghnnhcgiaaGreatDoor.E
open Go.ChangeMaps (open_string shut_string)
set_option linter.unusedVariables false
set_option linter.unusedSimpArgs false
theorem laid_met (os : Os) : laidMet Tryz.prog Rows.valueOnesRow.laid ((laidWorld os).forCall (fun _ _ => 0) ⟨#[], #[.agg #[.int .i64 0, .string ByteArray.empty, .bool false, .string ByteArray.empty, .int .i64 0, .slice none 0 0, .int .i64 0, .int .i64 0], .string ByteArray.empty], []⟩).memory :=
  laidMet_of_run3 8 (by kernel_rfl) (by kernel_rfl) (by kernel_rfl)
set_option maxRecDepth 100000 in
theorem reads (os : Os) {H : Type} (enc : TypeId × Value → H) : ∃ places, DataW.whole enc Tryz.prog ((laidWorld os).forCall (fun _ _ => 0) ⟨#[], #[.agg #[.int .i64 0, .string ByteArray.empty, .bool false, .string ByteArray.empty, .int .i64 0, .slice none 0 0, .int .i64 0, .int .i64 0], .string ByteArray.empty], []⟩).memory Tryz.f5.params.toList Rows.valueOnesSpec.vars false #[Value.agg #[.int .i64 0, .string ByteArray.empty, .bool false, .string ByteArray.empty, .int .i64 0, .slice none 0 0, .int .i64 0, .int .i64 0], Value.string ByteArray.empty].toList 8 = some ([.agg [.lit (.int .i64 0), .lit (.string []), .agg [.lit (.bool false), .lit (.string []), .lit (.int .i64 0)], .nil, .lit (.int .i64 0), .lit (.int .i64 0)], .lit (.string [])], [], places) :=
  ⟨[], by kernel_rfl⟩
set_option maxRecDepth 100000 in
theorem contract (H : Type) (enc : TypeId × Value → H) (W : World) (base : Nat) (args : Array Value) (ds gs : List (DataW H)) (before : List MemPlace)
    (hval : ∀ (j : Nat) t v, Tryz.f5.params[j]? = some t → args[j]? = some v → Value.okWide Tryz.prog W .any base t v)
    (hW : DataW.Whole enc Tryz.prog Tryz.f5.params.toList Rows.valueOnesSpec.vars false W args.toList ds gs before) (hL : laidMetH Tryz.prog Rows.valueOnesRow.laid W) (hS : W.ShapedOpen Tryz.prog) (hsz : (DataW.weightsEach Tryz.prog (Tryz.f5.params.toList ++ (OpenSpec.ofChange Rows.valueOnesSpec).bare.plain.varTypes Tryz.prog) (ds ++ gs)).all (· ≤ reachBytes) = true) :
    Calls Tryz.prog 5 args W fun e W' => ∃ v, e = .returned v ∧ Rows.valueOnesSpec.post enc Tryz.prog Tryz.f5 false true false false W args v W' := by
  have hW' := hW
  obtain ⟨p, q, hA0, hV, rfl, hfz, hnd⟩ := hW
  have hA : DataW.TrodAll enc Tryz.prog W 0 (fun _ => true) true Tryz.f5.params.toList args.toList ds p := hA0
  rw [Tryz.params5] at hA hval
  have hAk := hA
  have hlt : ∀ x ∈ p, x.block < W.heap.size := fun x hx => by simpa using hW'.lt x (List.mem_append.2 (Or.inl hx))
  obtain ⟨v0, vs0, d0, ds0, p0, q0, hargs, rfl, rfl, h0, r0⟩ := trodAll_cons hA
  obtain ⟨v1, vs1, d1, ds1, p1, q1, rfl, rfl, rfl, h1, r1⟩ := trodAll_cons r0
  obtain ⟨rfl, rfl, rfl⟩ := trodAll_nil r1
  obtain rfl : args = #[v0, v1] := by cases args; simp_all
  obtain ⟨rfl, rfl⟩ := trodVars_none hV
  obtain ⟨k0, x0, n0, D0, c0, A0, cp0, l0, se0, st0, rfl, hc0, hC0, hl0⟩ := open_make (hval 0 42 v0 rfl rfl) h0 (fun n hn => by have := of_decide_eq_true (List.all_eq_true.1 hsz n (DataW.weights_mem_each (j := 0) rfl rfl n hn)); unfold reachBytes at this; omega)
  obtain ⟨s1, rfl, rfl, rfl, hm1⟩ := open_string Tryz.underlying9 (hval 1 9 v1 rfl rfl) h1
  clear hA0
  simp only [List.append_nil] at hW' hAk hlt
  have hT : GV.Tab_ W := ⟨tab_of hS, asc_of (Lib.laidMet.reads hL (.tail _ (.tail _ (.tail _ (.tail _ (.tail _ (.tail _ (.head _))))))))⟩
  refine (VO.ones_walk k0 x0 n0 D0 c0 A0 cp0 l0 se0 st0 s1 W hc0 hC0 hl0 hT).mono fun e W' ⟨he, hb⟩ => ?_
  subst he
  exact ⟨_, rfl, _, _, _, [], _, [], hW', trodAll_mk1 (shut_bool Tryz.underlying4 _), args_below laidOut hb _ _ _ _ (by decide +kernel) hAk hlt, rfl, hb.frame _, fun h => by cases h⟩
set_option maxRecDepth 100000 in
theorem lifted (os : Os) (started : os.Started) (H : Type) (enc : TypeId × Value → H) (F : Stop.Interp) :
    ReturnsInHanded {} Tryz.checked os 5 .any ((OpenSpec.ofChange Rows.valueOnesSpec).preRow enc Tryz.prog Tryz.f5 Rows.valueOnesRow.domain false Rows.valueOnesRow.laid) (((OpenSpec.ofChange Rows.valueOnesSpec).at F).post enc Tryz.prog Tryz.f5 false true false false) := by
  obtain ⟨places, hx⟩ := reads os enc
  refine returnsInHanded_of_row (C := Tryz.checked) (s := OpenSpec.ofChange Rows.valueOnesSpec) own started (by kernel_rfl) Tryz.func5
    (witness_row_atRef (enc := enc) (C := Tryz.checked) false (laidWorld os) #[.agg #[.int .i64 0, .string ByteArray.empty, .bool false, .string ByteArray.empty, .int .i64 0, .slice none 0 0, .int .i64 0, .int .i64 0], .string ByteArray.empty] rfl (by kernel_rfl) (by kernel_rfl) (by kernel_rfl)
      (OpenSpec.preRow_of_cond 8 hx (by kernel_rfl) (fun k hk => by cases hk) (by kernel_rfl) (laid_met os))) ?_
  intro W base args ds gs before hval hW _ _ hsz hL hS _
  exact contract H enc W base args ds gs before hval hW hL hS hsz
theorem said : Rows.ValueOnesSaid :=
  OpenClaim.holds_of_cond 5 Tryz.f5 rfl rfl rfl rfl rfl rfl rfl ⟨rfl, rfl, rfl, rfl, rfl⟩ rfl rfl rfl rfl rfl (by kernel_rfl) Tryz.func5 (by kernel_rfl)
    (of_decide_eq_true (by kernel_rfl)) (by unfold Func.isWrapper; first | (rw [if_pos (by decide +kernel)]; kernel_rfl) | (rw [if_neg (by decide +kernel)]; exact ⟨rfl, rfl⟩))
    (fun os started H enc _ F => by rw [OpenClaim.pre_eq_preRow]; exact lifted os started H enc F)
theorem plain (f : FuncId) (fn : Func) (hf : Tryz.pinned.checked.prog.funcNamed "polyglot/polyglotlaw14.ValueOnes" = some f) (hfn : Tryz.pinned.checked.prog.funcs[f]? = some fn) :
    false = Tryz.pinned.checked.prog.looks [] ∧ ∀ (j : Nat) t, fn.params[j]? = some t → Tryz.pinned.checked.prog.wantsStandIn t = false := by
  obtain rfl : f = 5 := Option.some.inj ((show Tryz.prog.funcNamed "polyglot/polyglotlaw14.ValueOnes" = some 5 by kernel_rfl).symm.trans hf) |>.symm
  obtain rfl : fn = Tryz.f5 := (Option.some.inj (Tryz.func5.symm.trans hfn)).symm
  refine ⟨by kernel_rfl, fun j t ht => ?_⟩
  rw [Tryz.params5] at ht
  have hmem := Array.mem_of_getElem? ht
  have hall : ∀ t ∈ (#[42, 9] : Array TypeId), Tryz.prog.wantsStandIn t = false := by
    intro t ht
    simp at ht
    rcases ht with rfl | rfl
    all_goals kernel_rfl
  exact hall t hmem
end Go.Proofs.YtgjboghnnhcgiaaGreatDoor.valueOnes
namespace Go.Proofs.YtgjboghnnhcgiaaGreatDoor
theorem valueOnes_holds : Rows.ValueOnesCardSaid :=
  Claim7.holds_tied_plain_at .later [] _ _ _ _ valueOnes.said (fun _ h => by cases h) (by kernel_rfl) (fun _ h => by cases h) valueOnes_row_tie rfl ⟨rfl, rfl⟩ (by kernel_rfl) rfl valueOnes.plain (by kernel_rfl)
end Go.Proofs.YtgjboghnnhcgiaaGreatDoor
