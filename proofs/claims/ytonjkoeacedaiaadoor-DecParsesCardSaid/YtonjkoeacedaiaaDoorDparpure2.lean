/- dec.Parse tells what the law's Parse tells; DecParses' pure statement. -/
import Derived.Test.YtonjkoeacedaiaaDoorDparpure
namespace Go.Proofs.YtonjkoeacedaiaaDoor.S
open Go.RowKit Go.Proofs.YtonjkoeacedaiaaDoor Go.Proofs.YtonjkoeacedaiaaDoor.G Go.Proofs.YtonjkoeacedaiaaDoor.U Go.Proofs.YtonjkoeacedaiaaDoor.R Go.Proofs.YtonjkoeacedaiaaDoor.PU Go.Proofs.YtonjkoeacedaiaaDoorW.PrintWords
set_option linter.unusedVariables false
set_option linter.unusedSimpArgs false

theorem occ46 (R : List UInt8) (j : Nat) : Lib.occAt R [46] j = (R[j]? == some 46) := by
  unfold Lib.occAt
  have h : R[j]? = (R.drop j).head? := by rw [List.head?_drop]
  rw [h]
  cases R.drop j with
  | nil => rfl
  | cons c t =>
    show ((46 == c) && List.isPrefixOf [] t) = ((some c : Option UInt8) == some 46)
    by_cases e : c = 46
    · subst e; rfl
    · rw [show ((46 : UInt8) == c) = false by rw [beq_eq_false_iff_ne]; exact fun h => e h.symm]
      rw [show ((some c : Option UInt8) == some 46) = false by rw [beq_eq_false_iff_ne]; exact fun h => e (Option.some.inj h)]
      rfl
theorem cut46 (R : List UInt8) : Lib.cut R [46] = match behind R with | [] => (R, [], false) | _ :: P => (ahead R, P, true) := by
  have hsp := ahead_behind R
  cases hb : behind R with
  | nil =>
    rw [hb, List.append_nil] at hsp
    have hn : Lib.index R [46] = -1 := Lib.index_none fun j hj => by
      rw [occ46, beq_eq_false_iff_ne]
      intro h
      have hm := List.mem_of_getElem? h
      rw [hsp] at hm
      exact ahead_not R 46 hm rfl
    unfold Lib.cut
    rw [hn]
    rfl
  | cons z P =>
    have hz := behind_head hb
    subst hz
    rw [hb] at hsp
    have hne := ahead_not R
    obtain ⟨W, hW⟩ : ∃ W, ahead R = W := ⟨_, rfl⟩
    rw [hW] at hne hsp ⊢
    subst hsp
    have hi : Lib.index (W ++ 46 :: P) [46] = (W.length : Nat) := Lib.index_hit (fun j hj => by
      rw [occ46, beq_eq_false_iff_ne]
      intro h
      rw [List.getElem?_append_left hj] at h
      exact hne 46 (List.mem_of_getElem? h) rfl) (by rw [List.length_append]; omega) (by
      rw [occ46, List.getElem?_append_right (Nat.le_refl _), Nat.sub_self]
      rfl)
    unfold Lib.cut
    rw [hi, if_pos (by omega), Int.toNat_natCast]
    have h2 : (W ++ 46 :: P).drop (W.length + 1) = P := by
      rw [← List.drop_drop, List.drop_left]; rfl
    rw [List.take_left]
    show (W, (W ++ 46 :: P).drop (W.length + 1), true) = (W, P, true)
    rw [h2]
theorem parse_ok (s : ByteArray) (hs : s.size ≤ 200) : dec_Parse.f s = some (parseV (negOf s) (restOf s)) := by
  have hC : strings_CutPrefix.f s ⟨#[45]⟩ = some (⟨(restOf s).toArray⟩, negOf s) := rfl
  have hrl : (restOf s).length ≤ 200 := by
    unfold restOf Lib.trimPrefix
    split
    · rw [List.length_drop, ← sz]; omega
    · rw [← sz]; exact hs
  obtain ⟨R, hR⟩ : ∃ R, restOf s = R := ⟨_, rfl⟩
  obtain ⟨neg, hneg⟩ : ∃ n, negOf s = n := ⟨_, rfl⟩
  rw [hR] at hC hrl ⊢
  rw [hneg] at hC ⊢
  have hcut := cut46 R
  have hsp := ahead_behind R
  have hD : ∀ l : List UInt8, l.length ≤ 200 → dec_isDigits.f ⟨l.toArray⟩ = some (!l.isEmpty && digs l) := fun l hl => isDigits_ok ⟨l.toArray⟩ (by rw [sz]; exact Nat.le_trans hl (by omega))
  unfold dec_Parse.f
  rw [hC, Option.bind_some]
  have hK : strings_Cut.f ⟨R.toArray⟩ ⟨#[46]⟩ = some (⟨(Lib.cut R [46]).1.toArray⟩, ⟨(Lib.cut R [46]).2.1.toArray⟩, (Lib.cut R [46]).2.2) := by
    unfold strings_Cut.f
    rw [if_pos (by rw [sz]; show R.length < _; omega)]
  rw [hK, Option.bind_some, hcut]
  unfold parseV parseL
  cases hb : behind R with
  | nil =>
    dsimp only
    rw [hD R (by omega), Option.bind_some]
    by_cases hq : (!R.isEmpty && digs R) = true
    · have hq2 : R ≠ [] ∧ digs R = true := by simpa using hq
      have hl0 := List.length_pos_iff.2 hq2.1
      have z1 : (⟨R.toArray⟩ : ByteArray).size = R.length := sz _
      have z2 : (⟨([] : List UInt8).toArray⟩ : ByteArray).size = 0 := rfl
      rw [if_pos hq, if_neg (by decide), z1, z2, w64 _ (by omega) (by omega)]
      by_cases h40 : R.length ≤ 40
      · rw [if_neg (by omega), if_pos (by omega), if_pos (show R ≠ [] ∧ digs R = true ∧ R.length ≤ 40 from ⟨hq2.1, hq2.2, h40⟩)]
        have e : (⟨R.toArray⟩ : ByteArray) ++ ⟨([] : List UInt8).toArray⟩ = ⟨R.toArray⟩ := ba_ext (by rw [bl_app]; simp)
        have hm := make0_ok neg ⟨R.toArray⟩ 0 (by show 0 + 1 ≤ R.length; omega) (by show R.length ≤ _; omega)
        rw [e, show ((0 : Nat) : Int) = (0 : Nat) from rfl, hm, Option.bind_some]
      · rw [if_pos (by omega), if_neg (fun h => h40 h.2.2)]
    · rw [if_neg hq, if_neg (fun h => hq (by simp [h.1, h.2.1]))]
  | cons z P =>
    dsimp only
    have hz := behind_head hb
    subst hz
    rw [hb] at hsp
    have hlen : R.length = (ahead R).length + 1 + P.length := by
      have := congrArg List.length hsp
      rw [List.length_append, List.length_cons] at this
      omega
    obtain ⟨W, hW⟩ : ∃ W, ahead R = W := ⟨_, rfl⟩
    rw [hW] at hlen ⊢
    rw [hD W (by omega), Option.bind_some]
    by_cases hq : (!W.isEmpty && digs W) = true
    · have hq2 : W ≠ [] ∧ digs W = true := by simpa using hq
      have hl0 := List.length_pos_iff.2 hq2.1
      rw [if_pos hq, if_pos rfl, hD P (by omega), Option.bind_some]
      by_cases hp : (!P.isEmpty && digs P) = true
      · have hp2 : P ≠ [] ∧ digs P = true := by simpa using hp
        have hp0 := List.length_pos_iff.2 hp2.1
        have z1 : (⟨W.toArray⟩ : ByteArray).size = W.length := sz _
        have z2 : (⟨P.toArray⟩ : ByteArray).size = P.length := sz _
        rw [if_pos hp, z1, z2, w64 _ (by omega) (by omega)]
        by_cases h40 : (W ++ P).length ≤ 40
        · have h41 := h40
          rw [List.length_append] at h41
          rw [if_neg (by omega), if_pos (by omega), if_pos (show digs W = true ∧ W ≠ [] ∧ P ≠ [] ∧ digs P = true ∧ (W ++ P).length ≤ 40 from ⟨hq2.2, hq2.1, hp2.1, hp2.2, h40⟩)]
          have e : (⟨W.toArray⟩ : ByteArray) ++ ⟨P.toArray⟩ = ⟨(W ++ P).toArray⟩ := ba_ext (by rw [bl_app])
          have hm := make0_ok neg ⟨(W ++ P).toArray⟩ P.length (by show _ ≤ (W ++ P).length; rw [List.length_append]; omega) (by show (W ++ P).length ≤ _; omega)
          rw [e, hm, Option.bind_some]
        · have h41 := h40
          rw [List.length_append] at h41
          rw [if_pos (by omega), if_neg (fun h => h40 h.2.2.2.2)]
      · rw [if_neg hp, if_neg (fun h => hp (by simp [h.2.2.1, h.2.2.2.1]))]
    · rw [if_neg hq, if_neg (fun h => hq (by simp [h.1, h.2.1]))]

/-- A number as calls tell it. -/
structure NumOk (N : List UInt8) (sc : Nat) : Prop where
  dig : digs N = true
  len : sc + 1 ≤ N.length
  max : N.length ≤ 100
  norm : N.length = sc + 1 ∨ N.head? ≠ some 48
theorem numOk_of {R D : List UInt8} {sc : Nat} (h : parseL R = some (D, sc)) : digs D = true ∧ sc + 1 ≤ D.length ∧ D.length ≤ 40 := by
  unfold parseL at h
  cases hb : behind R with
  | nil =>
    rw [hb] at h
    dsimp only at h
    split at h
    · rename_i hq
      obtain ⟨rfl, rfl⟩ := Prod.mk.inj (Option.some.inj h)
      exact ⟨hq.2.1, by have := List.length_pos_iff.2 hq.1; omega, hq.2.2⟩
    · cases h
  | cons z P =>
    rw [hb] at h
    dsimp only at h
    split at h
    · rename_i hq
      obtain ⟨rfl, rfl⟩ := Prod.mk.inj (Option.some.inj h)
      have := List.length_pos_iff.2 hq.2.1
      have h5 := hq.2.2.2.2
      refine ⟨by simp only [digs, List.all_append, Bool.and_eq_true]; exact ⟨hq.1, hq.2.2.2.1⟩, by rw [List.length_append]; omega, h5⟩
    · cases h
theorem parseL_of {N : List UInt8} {sc : Nat} (h : NumOk N sc) (h40 : N.length ≤ 40) : parseL (N.take (N.length - sc) ++ if 0 < sc then 46 :: N.drop (N.length - sc) else []) = some (N, sc) := by
  have hl := h.len
  have hall : ∀ c ∈ N, isDig c = true := List.all_eq_true.1 h.dig
  have hW : digs (N.take (N.length - sc)) = true := List.all_eq_true.2 fun c hc => hall c (List.mem_of_mem_take hc)
  have hP : digs (N.drop (N.length - sc)) = true := List.all_eq_true.2 fun c hc => hall c (List.mem_of_mem_drop hc)
  have hWne : ∀ c ∈ N.take (N.length - sc), (c != 46) = true := fun c hc => dig_ne (hall c (List.mem_of_mem_take hc))
  have hW0 : N.take (N.length - sc) ≠ [] := by
    intro he
    have := congrArg List.length he
    rw [List.length_take] at this
    simp at this
    omega
  by_cases h0 : 0 < sc
  · rw [if_pos h0]
    have hbh : behind (N.take (N.length - sc) ++ 46 :: N.drop (N.length - sc)) = 46 :: N.drop (N.length - sc) := by
      unfold behind
      rw [List.dropWhile_append_of_pos hWne, List.dropWhile_cons, if_neg (by decide)]
    have hah : ahead (N.take (N.length - sc) ++ 46 :: N.drop (N.length - sc)) = N.take (N.length - sc) := by
      unfold ahead
      rw [List.takeWhile_append_of_pos hWne, List.takeWhile_cons, if_neg (by decide), List.append_nil]
    have hP0 : N.drop (N.length - sc) ≠ [] := by
      intro he
      have := congrArg List.length he
      rw [List.length_drop] at this
      simp at this
      omega
    unfold parseL
    rw [hbh, hah]
    dsimp only
    rw [List.take_append_drop, if_pos ⟨hW, hW0, hP0, hP, h40⟩, List.length_drop]
    congr 2
    omega
  · obtain rfl : sc = 0 := by omega
    rw [if_neg h0, List.append_nil, Nat.sub_zero, List.take_length]
    have hbh : behind N = [] := by
      unfold behind
      exact dw_nil.2 fun c hc => dig_ne (hall c hc)
    unfold parseL
    rw [hbh]
    dsimp only
    rw [if_pos ⟨by intro he; rw [he] at hl; simp at hl, h.dig, h40⟩]
theorem whole_ok (neg : Bool) (N : List UInt8) (sc : Nat) (h : sc + 1 ≤ N.length) (hm : N.length ≤ 1000) : dec_Dec_Whole.f neg ⟨N.toArray⟩ sc = some ⟨(N.take (N.length - sc)).toArray⟩ := by
  unfold dec_Dec_Whole.f
  have hz : (⟨N.toArray⟩ : ByteArray).size = N.length := sz _
  rw [hz, w64 _ (by omega) (by omega), if_pos (by omega), if_pos (by omega)]
  refine congrArg some (ba_ext ?_)
  rw [bl_ext, show ((N.length : Int) - (sc : Int)).toNat = N.length - sc by omega]
  rfl
theorem part_ok (neg : Bool) (N : List UInt8) (sc : Nat) (h : sc + 1 ≤ N.length) (hm : N.length ≤ 1000) : dec_Dec_Part.f neg ⟨N.toArray⟩ sc = some ⟨(N.drop (N.length - sc)).toArray⟩ := by
  unfold dec_Dec_Part.f
  have hz : (⟨N.toArray⟩ : ByteArray).size = N.length := sz _
  rw [hz, w64 _ (by omega) (by omega), if_pos (by omega), if_pos (by omega)]
  refine congrArg some (ba_ext ?_)
  rw [bl_ext, show ((N.length : Int) - (sc : Int)).toNat = N.length - sc by omega, bl_mk, bl_mk, List.take_of_length_le (by rw [List.length_drop]; omega)]
theorem string_ok (neg : Bool) (N : List UInt8) (sc : Nat) (h : sc + 1 ≤ N.length) (hm : N.length ≤ 1000) :
    dec_Dec_String.f neg ⟨N.toArray⟩ sc = some ⟨((if neg = true then [45] else []) ++ (N.take (N.length - sc) ++ if 0 < sc then 46 :: N.drop (N.length - sc) else [])).toArray⟩ := by
  unfold dec_Dec_String.f
  rw [whole_ok neg N sc h hm, Option.bind_some]
  have z1 : (⟨(N.take (N.length - sc)).toArray⟩ : ByteArray).size ≤ 1000 := by rw [sz, bl_mk, List.length_take]; omega
  have z2 : (⟨(N.drop (N.length - sc)).toArray⟩ : ByteArray).size ≤ 1000 := by rw [sz, bl_mk, List.length_drop]; omega
  have z3 : (⟨#[46]⟩ : ByteArray).size = 1 := rfl
  by_cases h0 : 0 < sc
  · rw [if_pos (by omega), part_ok neg N sc h hm, Option.bind_some, if_pos (by omega), if_pos (by rw [sz_app, z3]; omega), if_pos h0]
    cases neg with
    | true =>
      rw [if_pos rfl, if_pos (by rw [sz_app, sz_app, z3]; omega), if_pos rfl]
      refine congrArg some (ba_ext ?_)
      rw [bl_app, bl_app, bl_app]
      rfl
    | false =>
      rw [if_neg (by decide), if_neg (by decide)]
      refine congrArg some (ba_ext ?_)
      rw [bl_app, bl_app]
      rfl
  · rw [if_neg (by omega), if_neg h0]
    cases neg with
    | true =>
      rw [if_pos rfl, if_pos (by omega), if_pos rfl]
      refine congrArg some (ba_ext ?_)
      rw [bl_app, bl_mk, bl_mk, List.append_nil]
      try rfl
    | false =>
      rw [if_neg (by decide), if_neg (by decide)]
      refine congrArg some (ba_ext ?_)
      rw [bl_mk, bl_mk, List.append_nil]
      try rfl
theorem right_ok (neg : Bool) (N : List UInt8) (sc : Nat) (h : NumOk N sc) : dec_Dec_Right.f neg ⟨N.toArray⟩ sc = some true := by
  have hl := h.len
  have hmx := h.max
  have hz : (⟨N.toArray⟩ : ByteArray).size = N.length := sz _
  have hD : dec_isDigits.f ⟨N.toArray⟩ = some true := by
    rw [isDigits_ok _ (by rw [hz]; omega)]
    show some (!N.isEmpty && digs N) = some true
    have h1 : N.isEmpty = false := by
      cases N with
      | nil => simp at hl
      | cons _ _ => rfl
    rw [h1, h.dig]; rfl
  unfold dec_Dec_Right.f
  rw [hD, Option.bind_some, if_pos rfl, if_pos (by omega), hz, if_pos (by omega), w64 _ (by omega) (by omega)]
  by_cases h1 : (N.length : Int) = (sc : Int) + 1
  · rw [if_pos h1]
  · rw [if_neg h1, if_pos (by omega)]
    cases N with
    | nil => simp at hl
    | cons c t =>
      have hb : bt ⟨(c :: t).toArray⟩ 0 = c.toNat := bt_nat _ 0 c rfl
      rw [hb]
      congr 1
      rw [bne_iff_ne]
      intro he
      rcases h.norm with h2 | h2
      · omega
      · exact h2 (by rw [show c = 48 from UInt8.toNat_inj.1 (by show c.toNat = 48; omega)]; rfl)

theorem parses_pure (s : ByteArray) : ∃ k, polyglotlaw02_DecParses.f k s = some true := by
  have hH : ∀ k, polyglotlaw02_head.f (k + 3) = some true := fun k => by
    induction k with
    | zero => exact head_ok
    | succ k ih => exact polyglotlaw02_head.mono _ _ ih
  by_cases h1 : s.size > 100
  · refine ⟨3, ?_⟩
    unfold polyglotlaw02_DecParses.f
    rw [hH 0, Option.bind_some, if_pos rfl, if_pos (by omega)]
  obtain ⟨k, hk⟩ := lawParse_ok s (by omega)
  have hk3 : ∀ j, polyglotlaw02_Parse.f (k + j) s = some (parseV (negOf s) (restOf s)) := fun j => by
    induction j with
    | zero => exact hk
    | succ j ih => exact polyglotlaw02_Parse.mono _ _ _ ih
  refine ⟨k + 3, ?_⟩
  unfold polyglotlaw02_DecParses.f
  rw [hH k, Option.bind_some, if_pos rfl, if_neg (by omega), parse_ok s (by omega), Option.bind_some, hk3 3, Option.bind_some]
  rw [if_neg (by simp)]
  have hx : (!((parseV (negOf s) (restOf s)).1 == (parseV (negOf s) (restOf s)).1) || (!((parseV (negOf s) (restOf s)).2.1.toList == (parseV (negOf s) (restOf s)).2.1.toList) || (!((parseV (negOf s) (restOf s)).2.2.1 == (parseV (negOf s) (restOf s)).2.2.1)))) = false := by simp
  rw [hx, show k + 3 = (k + 2) + 1 by omega, polyglotlaw02_DecParses.j0, if_neg (by decide)]
  unfold parseV
  cases hp : parseL (restOf s) with
  | none => dsimp only; rw [if_neg (by decide)]
  | some Dsc =>
    obtain ⟨D, sc⟩ := Dsc
    dsimp only
    rw [if_pos rfl]
    obtain ⟨hd, hl, h40⟩ := numOk_of hp
    have hs1 := stripTo_len (sc + 1) D
    have hN : NumOk (stripTo (sc + 1) D) sc := ⟨stripTo_digs _ _ hd, hs1.2 hl, by have := hs1.1; omega, stripTo_norm _ _ hl⟩
    have hNl : (stripTo (sc + 1) D).length ≤ 40 := Nat.le_trans hs1.1 h40
    obtain ⟨N, hNe⟩ : ∃ N, stripTo (sc + 1) D = N := ⟨_, rfl⟩
    simp only [hNe] at hN hNl ⊢
    obtain ⟨neg, hneg⟩ : ∃ n, negOf s = n := ⟨_, rfl⟩
    rw [hneg]
    have hlen := hN.len
    have hz : (⟨N.toArray⟩ : ByteArray).size = N.length := sz _
    obtain ⟨X, hX⟩ : ∃ X : List UInt8, (N.take (N.length - sc) ++ if 0 < sc then 46 :: N.drop (N.length - sc) else []) = X := ⟨_, rfl⟩
    have hXp := parseL_of hN hNl
    rw [hX] at hXp
    have hXl : X.length ≤ 50 := by
      rw [← hX, List.length_append, List.length_take]
      split
      · rw [List.length_cons, List.length_drop]; omega
      · simp; omega
    have hX0 : ∃ c t, X = c :: t ∧ isDig c = true := by
      cases hNc : N with
      | nil => rw [hNc] at hlen; simp at hlen
      | cons c t =>
        rw [hNc, List.length_cons] at hX hlen
        rw [show t.length + 1 - sc = (t.length - sc) + 1 by omega, List.take_succ_cons, List.cons_append] at hX
        exact ⟨c, _, hX.symm, List.all_eq_true.1 hN.dig c (by rw [hNc]; simp)⟩
    rw [string_ok neg N sc hlen (by omega), Option.bind_some, hX]
    have hT : negOf ⟨((if neg = true then [45] else []) ++ X).toArray⟩ = neg ∧ restOf ⟨((if neg = true then [45] else []) ++ X).toArray⟩ = X := by
      unfold negOf restOf Lib.trimPrefix
      obtain ⟨c, t, rfl, hc⟩ := hX0
      rw [bl_mk]
      cases neg with
      | true =>
        rw [if_pos rfl]
        exact ⟨rfl, rfl⟩
      | false =>
        rw [if_neg (by decide)]
        have hp : Lib.hasPrefix (c :: t) [45] = false := by
          show ((45 == c) && List.isPrefixOf [] t) = false
          rw [show ((45 : UInt8) == c) = false by
            rw [beq_eq_false_iff_ne]
            rintro rfl
            exact absurd hc (by decide)]
          rfl
        rw [List.nil_append, hp]
        exact ⟨rfl, rfl⟩
    rw [parse_ok _ (by rw [sz, bl_mk, List.length_append]; split <;> simp <;> omega), hT.1, hT.2, Option.bind_some]
    have hV : parseV neg X = (neg, ⟨N.toArray⟩, (sc : Int), true) := by
      unfold parseV
      rw [hXp]
      dsimp only
      rw [stripTo_id _ _ hN.norm]
    rw [hV, hz, w64 _ (by omega) (by omega), if_pos (by omega), if_pos (by omega), right_ok neg N sc hN, Option.bind_some, if_pos rfl, if_pos rfl]
    rw [if_pos (by simp), whole_ok neg N sc hlen (by omega), Option.bind_some]
    have hE : bl ((⟨N.toArray⟩ : ByteArray).extract 0 ((N.length : Int) - (sc : Int)).toNat) = N.take (N.length - sc) := by
      rw [bl_ext, show ((N.length : Int) - (sc : Int)).toNat = N.length - sc by omega]
      rfl
    rw [tl, tl, hE, if_pos rfl, Option.bind_some, part_ok neg N sc hlen (by omega), Option.bind_some]
    rw [if_pos (by rw [sz, sz, bl_mk, bl_mk, List.length_take, List.length_drop]; omega), tl, tl, bl_app, bl_mk, bl_mk, bl_mk, List.take_append_drop]
    simp
theorem parses_walk (s : ByteArray) (w : World) (hT : Tab_ w) : Calls Tryd.prog 9 #[.string s] w fun e w' => e = .returned (.bool true) ∧ Below w.heap.size w w' := by
  obtain ⟨k, hk⟩ := parses_pure s
  exact polyglotlaw02_DecParses.calls k s true w hk hT
end Go.Proofs.YtonjkoeacedaiaaDoor.S
