/- DecGroups' pure statement. -/
import Derived.Test.YtonjkoeacedaiaaDoorSx2
import Derived.Test.YtonjkoeacedaiaaDoorDpure
namespace Go.Proofs.YtonjkoeacedaiaaDoor.S
open Go.RowKit Go.Proofs.YtonjkoeacedaiaaDoor Go.Proofs.YtonjkoeacedaiaaDoor.G Go.Proofs.YtonjkoeacedaiaaDoor.U Go.Proofs.YtonjkoeacedaiaaDoor.R Go.Proofs.YtonjkoeacedaiaaDoor.PU Go.Proofs.YtonjkoeacedaiaaDoorW.PrintWords
set_option linter.unusedVariables false
set_option linter.unusedSimpArgs false

theorem grpR_app (B : List UInt8) (T : List UInt8) (h : T.length % 3 = 0) : ∀ A, grpR B (A ++ T) = grpR B A ++ grpR B T
  | [] => rfl
  | c :: t => by
    rw [List.cons_append]
    show (if ((t ++ T).length + 1) % 3 = 0 then B else []) ++ c :: grpR B (t ++ T) = ((if (t.length + 1) % 3 = 0 then B else []) ++ c :: grpR B t) ++ grpR B T
    rw [grpR_app B T h t, List.length_append, show (t.length + T.length + 1) % 3 = (t.length + 1) % 3 by omega]
    simp
theorem grp_app (B : List UInt8) (T A : List UInt8) (h : T.length % 3 = 0) (hA : A ≠ []) : grp B (A ++ T) = grp B A ++ grpR B T := by
  cases A with
  | nil => exact absurd rfl hA
  | cons c t =>
    show c :: grpR B (t ++ T) = (c :: grpR B t) ++ grpR B T
    rw [grpR_app B T h]; rfl
theorem grpR_three (B L : List UInt8) (h : L.length = 3) : grpR B L = B ++ L := by
  match L, h with
  | [a, b, c], _ => simp [grpR]
theorem grp_short (B L : List UInt8) (h : L.length ≤ 3) : grp B L = L := by
  match L, h with
  | [], _ => rfl
  | [a], _ => rfl
  | [a, b], _ => simp [grp, grpR]
  | [a, b, c], _ => simp [grp, grpR]
  | _ :: _ :: _ :: _ :: _, h => simp at h

theorem l1_ok (d b : ByteArray) (hd : d.size ≤ 100) (hb : b.size ≤ 20) : ∀ (n : Nat) (want rest : ByteArray) (T : List UInt8), rest.size ≤ n → bl d = bl rest ++ T → T.length % 3 = 0 → bl want = grpR (bl b) T → (bl rest ≠ [] ∨ T = []) →
    ∃ k, polyglotlaw02_DecGroups.l1 k d b want rest = some true := by
  intro n
  induction n with
  | zero =>
    intro want rest T hn hdt hT hw hr
    have h0 : bl rest = [] := List.eq_nil_of_length_eq_zero (by rw [← sz]; omega)
    have hT0 : T = [] := hr.resolve_left (fun h => h h0)
    subst hT0
    have hdn : bl d = [] := by rw [hdt, h0]; rfl
    have hG : dec_Group.f d b = some ⟨(grp (bl b) (bl d)).toArray⟩ := by unfold dec_Group.f; rw [if_pos (by omega)]
    refine ⟨1, ?_⟩
    have hws : want.size = 0 := by rw [sz, hw]; rfl
    rw [polyglotlaw02_DecGroups.l1, if_neg (by omega), hG, Option.bind_some, if_pos (by omega), tl, tl, bl_app, bl_mk, hdn, h0, hw]
    rfl
  | succ n ih =>
    intro want rest T hn hdt hT hw hr
    have hTl : T.length ≤ d.size := by rw [sz, hdt, List.length_append]; omega
    have hrd : rest.size ≤ d.size := by rw [sz, sz, hdt, List.length_append]; omega
    have hws : want.size ≤ 2100 := by
      rw [sz, hw]
      have h1 := grpR_len (bl b) T
      have h2 : ((bl b).length + 1) * T.length ≤ 21 * 100 := Nat.mul_le_mul (by rw [← sz]; omega) (by omega)
      omega
    by_cases h3 : rest.size > 3
    · have hx : wrap64 ((rest.size : Int) - 3) = ((rest.size - 3 : Nat) : Int) := by rw [w64 _ (by omega) (by omega)]; omega
      have hlr : (bl rest).length = rest.size := (sz rest).symm
      have e1 : bl (rest.extract (rest.size - 3) rest.size) = (bl rest).drop (rest.size - 3) := by
        rw [bl_ext, List.take_of_length_le (by rw [List.length_drop]; omega)]
      have e2 : bl (rest.extract 0 (rest.size - 3)) = (bl rest).take (rest.size - 3) := by rw [bl_ext]; rfl
      have l3 : ((bl rest).drop (rest.size - 3)).length = 3 := by rw [List.length_drop]; omega
      have s3 : (rest.extract (rest.size - 3) rest.size).size = 3 := by rw [sz, e1, l3]
      have s0 : (rest.extract 0 (rest.size - 3)).size = rest.size - 3 := by rw [sz, e2, List.length_take]; omega
      obtain ⟨k, hk⟩ := ih ((b ++ rest.extract (rest.size - 3) rest.size) ++ want) (rest.extract 0 (rest.size - 3)) ((bl rest).drop (rest.size - 3) ++ T)
        (by omega) (by rw [e2, ← List.append_assoc, List.take_append_drop]; exact hdt) (by rw [List.length_append]; omega)
        (by rw [bl_app, bl_app, e1, grpR_app _ _ hT, grpR_three _ _ l3, hw])
        (Or.inl (by intro h; have := congrArg List.length h; rw [e2, List.length_take] at this; simp at this; omega))
      refine ⟨k + 1, ?_⟩
      rw [polyglotlaw02_DecGroups.l1, if_pos (by omega), hx, Int.toNat_natCast, if_pos (by omega), if_pos (by omega), if_pos (by omega), if_pos (by rw [sz_app]; omega)]
      exact hk
    · have hG : dec_Group.f d b = some ⟨(grp (bl b) (bl d)).toArray⟩ := by unfold dec_Group.f; rw [if_pos (by omega)]
      have e : grp (bl b) (bl d) = bl rest ++ bl want := by
        rcases hr with hr | rfl
        · rw [hdt, grp_app _ _ _ hT hr, grp_short _ (bl rest) (by rw [← sz]; omega), hw]
        · rw [hdt, List.append_nil, grp_short _ (bl rest) (by rw [← sz]; omega), hw]
          simp [grpR]
      refine ⟨1, ?_⟩
      rw [polyglotlaw02_DecGroups.l1, if_neg (by omega), hG, Option.bind_some, if_pos (by omega), tl, tl, bl_app, bl_mk, e]
      simp

theorem l0_ok (d b : ByteArray) (hd : d.size ≤ 100) (h1 : ∃ k, polyglotlaw02_DecGroups.l1 k d b ⟨#[]⟩ d = some true) : ∀ (n i : Nat), i + n = d.size → ∃ k, polyglotlaw02_DecGroups.l0 k d b (i : Int) = some true
  | 0, i, h => by
    obtain ⟨k, hk⟩ := h1
    refine ⟨k + 1, ?_⟩
    rw [polyglotlaw02_DecGroups.l0, if_neg (by omega)]
    exact hk
  | n + 1, i, h => by
    obtain ⟨k, hk⟩ := l0_ok d b hd h1 n (i + 1) (by omega)
    obtain ⟨c, hc⟩ : ∃ c, (bl d)[i]? = some c := ⟨_, List.getElem?_eq_getElem (by rw [← sz]; omega)⟩
    refine ⟨k + 1, ?_⟩
    rw [polyglotlaw02_DecGroups.l0, if_pos (by omega), if_pos (by omega), bt_nat d i c hc, digit_f, Option.bind_some]
    by_cases hg : isDig c = true
    · rw [if_pos hg, w64 _ (by omega) (by omega)]
      rw [show ((i : Int) + 1) = ((i + 1 : Nat) : Int) by simp]
      exact hk
    · rw [if_neg hg]

theorem groups_pure (d b : ByteArray) : ∃ k, polyglotlaw02_DecGroups.f k d b = some true := by
  have hH : ∀ k, polyglotlaw02_head.f (k + 3) = some true := fun k => by
    induction k with
    | zero => exact head_ok
    | succ k ih => exact polyglotlaw02_head.mono _ _ ih
  by_cases h1 : d.size > 100
  · refine ⟨3, ?_⟩
    unfold polyglotlaw02_DecGroups.f
    rw [hH 0, Option.bind_some, if_pos rfl, if_pos (by omega), polyglotlaw02_DecGroups.j0, if_pos rfl]
  by_cases h2 : b.size > 20
  · refine ⟨3, ?_⟩
    unfold polyglotlaw02_DecGroups.f
    rw [hH 0, Option.bind_some, if_pos rfl, if_neg (by omega), polyglotlaw02_DecGroups.j0, if_pos (by simp; omega)]
  have hl1 := l1_ok d b (by omega) (by omega) d.size ⟨#[]⟩ d [] (Nat.le_refl _) (by simp) rfl rfl (Or.inr rfl)
  obtain ⟨k, hk⟩ := l0_ok d b (by omega) hl1 d.size 0 (by omega)
  have hk3 : ∀ j, polyglotlaw02_DecGroups.l0 (k + j) d b ((0 : Nat) : Int) = some true := fun j => by
    induction j with
    | zero => exact hk
    | succ j ih => exact (polyglotlaw02_DecGroups.mono_l (k + j)).2.1 _ _ _ _ ih
  refine ⟨k + 3, ?_⟩
  unfold polyglotlaw02_DecGroups.f
  rw [hH k, Option.bind_some, if_pos rfl, if_neg (by omega), show k + 3 = (k + 2) + 1 by omega, polyglotlaw02_DecGroups.j0, if_neg (by simp; omega)]
  exact hk3 2
theorem groups_walk (d b : ByteArray) (w : World) (hT : Tab_ w) : Calls Tryd.prog 8 #[.string d, .string b] w fun e w' => e = .returned (.bool true) ∧ Below w.heap.size w w' := by
  obtain ⟨k, hk⟩ := groups_pure d b
  exact polyglotlaw02_DecGroups.calls k d b true w hk hT
end Go.Proofs.YtonjkoeacedaiaaDoor.S
