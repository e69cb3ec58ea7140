/- PluralAll's pure statement. -/
import Derived.Test.YtonjkoeacedaiaaDoorJx2
import Derived.Test.YtonjkoeacedaiaaDoorDplof2
import Derived.Test.YtonjkoeacedaiaaDoorDfarint
namespace Go.Proofs.YtonjkoeacedaiaaDoor.J
open Go.RowKit Go.Proofs.YtonjkoeacedaiaaDoor Go.Proofs.YtonjkoeacedaiaaDoor.P4 Go.Proofs.YtonjkoeacedaiaaDoor.F Go.Proofs.YtonjkoeacedaiaaDoor.H Go.Proofs.YtonjkoeacedaiaaDoorW.PrintWords
set_option linter.unusedVariables false
set_option linter.unusedSimpArgs false

theorem dec_fix (x : Nat) (h : x ≤ 1000) : fixOk ⟨(Lib.decDigits x).toArray⟩ 0 = true ∧ digOk ⟨(Lib.decDigits x).toArray⟩ 0 = true ∧ 0 < (Lib.decDigits x).length ∧ (Lib.decDigits x).length ≤ 20 := by
  have h1 : (⟨(Lib.decDigits x).toArray⟩ : ByteArray).size = (Lib.decDigits x).length := sz _
  have h2 : (Lib.decDigits x).length ≤ 20 := by
    have e := revD_dec x x (Nat.le_refl _)
    rw [← e, List.length_map, List.length_reverse]
    exact revD_len 19 x (by omega)
  have h4 : 0 < (Lib.decDigits x).length := by
    rw [Lib.decDigits]
    split
    · simp
    · simp
  have h3 : ((⟨(Lib.decDigits x).toArray⟩ : ByteArray).data.toList.all fun c => decide (48 ≤ c.toNat) && decide (c.toNat ≤ 57)) = true := List.all_eq_true.2 fun c hc => dec_all _ _ (Nat.le_refl x) c hc
  refine ⟨?_, ?_, h4, h2⟩
  · unfold fixOk
    rw [h3, h1]
    simp
    omega
  · unfold digOk
    rw [h3, h1]
    simp
    omega
/-- The law's Of and Rank tell what plural tells, of a whole number. -/
theorem whole_same (x : Nat) (h : x ≤ 1000) (lang : ByteArray) (n : Bool) (k : Nat) :
    plural_Of.f lang n ⟨(Lib.decDigits x).toArray⟩ 0 = some (ofC lang ⟨(Lib.decDigits x).toArray⟩ 0) ∧ plural_Rank.f lang n ⟨(Lib.decDigits x).toArray⟩ 0 = some (rkC lang ⟨(Lib.decDigits x).toArray⟩ 0) ∧
      polyglotlaw04_Of.f (k + 10) lang n ⟨(Lib.decDigits x).toArray⟩ 0 = some (ofC lang ⟨(Lib.decDigits x).toArray⟩ 0) ∧ polyglotlaw04_Rank.f (k + 10) lang n ⟨(Lib.decDigits x).toArray⟩ 0 = some (rkC lang ⟨(Lib.decDigits x).toArray⟩ 0) := by
  obtain ⟨hF, hD, hl0, hl⟩ := dec_fix x h
  have hz : (⟨(Lib.decDigits x).toArray⟩ : ByteArray).size = (Lib.decDigits x).length := sz _
  have hd : ∀ c ∈ Lib.decDigits x, 48 ≤ c.toNat ∧ c.toNat ≤ 57 := fun c hc => by
    have := dec_all _ _ (Nat.le_refl x) c hc
    simpa [isDig] using this
  obtain ⟨P, hw⟩ := parts_ok (Lib.decDigits x) 0 hl0 (by omega) hd
  have hp : polyglotlaw04_parts.f n ⟨(Lib.decDigits x).toArray⟩ ((0 : Nat) : Int) = some (10 * fixD (Lib.decDigits x) ((Lib.decDigits x).length - 0) (Lib.decDigits x).length 98 + fixD (Lib.decDigits x) ((Lib.decDigits x).length - 0) (Lib.decDigits x).length 99, moreB (fixD (Lib.decDigits x) ((Lib.decDigits x).length - 0) (Lib.decDigits x).length) 200, wholeB (fixD (Lib.decDigits x) ((Lib.decDigits x).length - 0) (Lib.decDigits x).length) 200) := by
    unfold polyglotlaw04_parts.f
    rw [show (((0 : Nat) : Int)) = 0 from rfl, if_pos hF, hz]
    rfl
  have l1 := law_of k lang n ⟨(Lib.decDigits x).toArray⟩ 0 _ _ _ _ P hp
  have l2 := law_rank k lang n ⟨(Lib.decDigits x).toArray⟩ 0 _ _ _ _ P hp
  rw [hw] at l1 l2
  have e1 : ofC lang ⟨(Lib.decDigits x).toArray⟩ 0 = pick lang (table (Lib.trimLeftB ((Lib.decDigits x).take ((Lib.decDigits x).length - 0)) 48) (((0 : Nat) : Int)) (Lib.trimB ((Lib.decDigits x).drop ((Lib.decDigits x).length - 0)) 48).isEmpty) := by
    unfold ofC Ld bd
    rw [hz]
  have e2 : rkC lang ⟨(Lib.decDigits x).toArray⟩ 0 = rankC lang (Lib.trimLeftB ((Lib.decDigits x).take ((Lib.decDigits x).length - 0)) 48) (Lib.trimB ((Lib.decDigits x).drop ((Lib.decDigits x).length - 0)) 48).isEmpty := by
    unfold rkC Ld bd
    rw [hz]
  refine ⟨?_, ?_, by rw [e1]; exact l1, by rw [e2]; exact l2⟩
  · unfold plural_Of.f
    rw [if_pos hD]
    rfl
  · unfold plural_Rank.f
    rw [if_pos hD]
    rfl
theorem ja_other (d : ByteArray) : ofC ⟨#[106, 97]⟩ d 0 = 0 := by
  unfold ofC
  rw [pick_eq, show (⟨#[106, 97]⟩ : ByteArray).toList = [106, 97] from Lib.toList_data _]
  simp
theorem str_ok (n : Bool) (x : Nat) (h : x ≤ 1000) : ∃ r, dec_Dec_String.f n ⟨(Lib.decDigits x).toArray⟩ 0 = some r ∧ r.toList ≠ [] := by
  obtain ⟨_, _, hl0, hl⟩ := dec_fix x h
  have hz : (⟨(Lib.decDigits x).toArray⟩ : ByteArray).size = (Lib.decDigits x).length := sz _
  have hne : ∀ (c : UInt8) (t : List UInt8), Lib.decDigits x = c :: t → True := fun _ _ _ => trivial
  have hW : dec_Dec_Whole.f n ⟨(Lib.decDigits x).toArray⟩ 0 = some ⟨(Lib.decDigits x).toArray⟩ := by
    unfold dec_Dec_Whole.f
    rw [hz, w64 _ (by omega) (by omega), if_pos (by omega), if_pos (by omega)]
    refine congrArg some (ba_ext ?_)
    rw [bl_ext, show ((Lib.decDigits x).length - (0 : Int)).toNat = (Lib.decDigits x).length by omega]
    show ((Lib.decDigits x).drop 0).take _ = _
    rw [List.drop_zero, Nat.sub_zero, List.take_length]
  unfold dec_Dec_String.f
  rw [hW, Option.bind_some, if_neg (by decide)]
  cases n with
  | true =>
    rw [if_pos rfl, if_pos (by rw [hz]; omega)]
    refine ⟨_, rfl, ?_⟩
    rw [tl, bl_app]
    intro h
    have := congrArg List.length h
    simp at this
  | false =>
    rw [if_neg (by decide)]
    refine ⟨_, rfl, ?_⟩
    rw [tl]
    intro h
    have := congrArg List.length h
    rw [show (bl ⟨(Lib.decDigits x).toArray⟩).length = (Lib.decDigits x).length from rfl] at this
    simp at this
    rw [this] at hl0
    simp at hl0
theorem all_loop (x : Nat) (h : x ≤ 1000) (n m : Bool) (y : List ByteArray) (hy : y.length ≤ 100) : ∀ (j i : Nat), y.length - i ≤ j → i ≤ y.length →
    polyglotlaw04_PluralAll.l0 (j + 20) y (y.length : Int) (i : Int) n ⟨(Lib.decDigits x).toArray⟩ 0 m ⟨(Lib.decDigits x).toArray⟩ 0 = some true := by
  obtain ⟨r, hr, hne⟩ := str_ok n x h
  have fin : ∀ (k : Nat), polyglotlaw04_PluralAll.l0 (k + 20) y (y.length : Int) (y.length : Int) n ⟨(Lib.decDigits x).toArray⟩ 0 m ⟨(Lib.decDigits x).toArray⟩ 0 = some true := fun k => by
    rw [show k + 20 = (k + 19) + 1 by omega, polyglotlaw04_PluralAll.l0, if_neg (by omega), (whole_same x h _ n k).1, Option.bind_some, ja_other, if_pos rfl, hr, Option.bind_some]
    refine congrArg some ?_
    rw [bne_iff_ne]
    exact hne
  intro j
  induction j with
  | zero =>
    intro i h1 h2
    obtain rfl : i = y.length := by omega
    exact fin 0
  | succ j ih =>
    intro i h1 h2
    by_cases hi : i < y.length
    · obtain ⟨o1, o2, o3, o4⟩ := whole_same x h (rdOf ByteArray.empty y (i : Int)) n (j + 10)
      obtain ⟨p1, p2, p3, p4⟩ := whole_same x h (rdOf ByteArray.empty y (i : Int)) m (j + 10)
      rw [show j + 10 + 10 = j + 20 by omega] at o3 o4
      rw [show j + 1 + 20 = (j + 20) + 1 by omega, polyglotlaw04_PluralAll.l0, if_pos (by omega), if_pos (by omega), if_pos (by omega), o1, Option.bind_some, o3, Option.bind_some, if_pos rfl, o2, Option.bind_some, o4, Option.bind_some, if_pos rfl, p1, Option.bind_some, Option.bind_some, if_pos rfl, p2, Option.bind_some, Option.bind_some, if_pos rfl]
      rw [w64 _ (by omega) (by omega), show (i : Int) + 1 = ((i + 1 : Nat) : Int) by omega]
      exact ih (i + 1) (by omega) (by omega)
    · obtain rfl : i = y.length := by omega
      exact fin (j + 1)
theorem all_pure (a : Int) : ∃ k, polyglotlaw04_PluralAll.f k a = some true := by
  have hw : 0 ≤ IntKind.u64.wrap a := by
    show 0 ≤ a % 18446744073709551616
    exact Int.emod_nonneg _ (by decide)
  obtain ⟨x, hx, hx3⟩ : ∃ x : Nat, wrap64 (Int.tmod (IntKind.u64.wrap a) 1000) = (x : Int) ∧ x ≤ 1000 := by
    have h1 : Int.tmod (IntKind.u64.wrap a) 1000 = IntKind.u64.wrap a % 1000 := Int.tmod_eq_emod_of_nonneg hw
    rw [h1, w64 (IntKind.u64.wrap a % 1000) (by omega) (by omega)]
    exact ⟨(IntKind.u64.wrap a % 1000).toNat, by omega, by omega⟩
  have hn : wrap64 (-(x : Int)) = -(x : Int) := w64 _ (by omega) (by omega)
  obtain ⟨k1, e1⟩ := int_ok (x : Int) (by omega) (by omega)
  obtain ⟨k2, e2⟩ := int_ok (-(x : Int)) (by omega) (by omega)
  have lift : ∀ (x : Int) (k : Nat) r, dec_Int.f k x = some r → ∀ j, dec_Int.f (k + j) x = some r := fun x k r h j => by
    induction j with
    | zero => exact h
    | succ j ih => exact dec_Int.mono _ _ _ ih
  have f1 := lift _ _ _ e1 (k2 + 40)
  have f2 := lift _ _ _ e2 (k1 + 40)
  rw [show k2 + (k1 + 40) = k1 + (k2 + 40) by omega] at f2
  rw [Int.natAbs_natCast] at f1
  rw [Int.natAbs_neg, Int.natAbs_natCast] at f2
  refine ⟨k1 + (k2 + 40), ?_⟩
  unfold polyglotlaw04_PluralAll.f
  rw [show polyglotlaw04_head.f = some true from rfl, Option.bind_some, if_pos rfl, hx, hn, f1, Option.bind_some, f2, Option.bind_some, Option.bind_some]
  have := all_loop x hx3 (decide ((x : Int) < 0)) (decide (-(x : Int) < 0)) [(⟨#[101, 110]⟩ : ByteArray), (⟨#[100, 101]⟩ : ByteArray), (⟨#[110, 108]⟩ : ByteArray), (⟨#[115, 118]⟩ : ByteArray), (⟨#[102, 114]⟩ : ByteArray), (⟨#[101, 115]⟩ : ByteArray), (⟨#[112, 108]⟩ : ByteArray), (⟨#[114, 117]⟩ : ByteArray), (⟨#[99, 115]⟩ : ByteArray), (⟨#[97, 114]⟩ : ByteArray), (⟨#[106, 97]⟩ : ByteArray), (⟨#[]⟩ : ByteArray)] (by decide) (k1 + k2 + 20) 0 (by simp) (by omega)
  rw [show k1 + k2 + 20 + 20 = k1 + (k2 + 40) by omega] at this
  exact this
theorem all_walk (a : Int) (w : World) (hT : Asc w) : Calls Tryd.prog 6 #[.int .i64 a] w fun e w' => e = .returned (.bool true) ∧ Below w.heap.size w w' := by
  obtain ⟨k, hk⟩ := all_pure a
  exact polyglotlaw04_PluralAll.calls k a true w hk hT
end Go.Proofs.YtonjkoeacedaiaaDoor.J
