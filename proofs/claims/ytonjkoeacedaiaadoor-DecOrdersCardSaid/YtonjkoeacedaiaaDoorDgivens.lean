/- Contracts in the print's form: dec.Group, dec.Round. -/
import Derived.Test.YtonjkoeacedaiaaDoorDround
import Derived.Test.YtonjkoeacedaiaaDoorDgroup
namespace Go.Proofs.YtonjkoeacedaiaaDoor.G
open Go.RowKit Go.Proofs.YtonjkoeacedaiaaDoor Go.Proofs.YtonjkoeacedaiaaDoorW.PrintWords Go.Proofs.YtonjkoeacedaiaaDoorW.PrintMore
set_option linter.unusedVariables false
set_option linter.unusedSimpArgs false

def dec_Group.f (d b : ByteArray) : Option ByteArray := if d.size ≤ 1000 ∧ b.size ≤ 1000 then some ⟨(grp b.data.toList d.data.toList).toArray⟩ else none
theorem dec_Group.calls (d b r : ByteArray) (w : World) (h : dec_Group.f d b = some r) :
    Calls Tryd.prog 36 #[.string d, .string b] w fun e w' => e = .returned (.string r) ∧ Below w.heap.size w w' := by
  unfold dec_Group.f at h
  by_cases hs : d.size ≤ 1000 ∧ b.size ≤ 1000
  · rw [if_pos hs] at h
    obtain rfl := Option.some.inj h
    exact group_any d b w hs.1 hs.2
  · rw [if_neg hs] at h
    exact absurd h (by simp)

attribute [local go_sem] max2_int max_two
set_option maxRecDepth 100000 in
theorem round_same (n : Bool) (d : ByteArray) (k : Int) (sc : Int) (s : Int) (w : World) (hsc : (if s < 0 then (0 : Int) else s) = sc) (hks : k ≤ sc) :
    Calls Tryd.prog 40 #[decV n d k, .int .i64 s] w fun e w' => e = .returned (decV n d k) ∧ Below w.heap.size w w' := by
  unfold decV
  have bX : Below w.heap.size w ((w.alloc (.cells #[.bool n, .string d, .int .i64 k] 23)).alloc (.cells #[.bool false, .string ⟨#[]⟩, .int .i64 0] 23)) := ((Below.refl _ _).alloc (Nat.le_refl _) _).alloc (by simp) _
  go_enter Tryd.func40, Tryd.ntmps40
  go_wp2
  go_returns
  exact ⟨rfl, ((Below.refl _ _).alloc (Nat.le_refl _) _).alloc (by simp) _⟩

def digB (d : ByteArray) : Bool := d.data.toList.all fun c => decide (48 ≤ c.toNat) && decide (c.toNat ≤ 57)
theorem digB_at {d : ByteArray} (h : digB d = true) : ∀ c ∈ d.data.toList, 48 ≤ c.toNat ∧ c.toNat ≤ 57 := fun c hc => by
  have := List.all_eq_true.1 h c hc
  simpa using this
/-- What Round leaves of the digits, with sc of the k ones behind the point. -/
def roundL (D : List UInt8) (k sc : Nat) : List UInt8 :=
  if cmpS (D.drop (D.length - (k - sc))) (53 :: List.replicate (k - sc - 1) 48) > 0 ∨ cmpS (D.drop (D.length - (k - sc))) (53 :: List.replicate (k - sc - 1) 48) = 0 ∧ ((D.getD (D.length - (k - sc) - 1) 0).toNat - 48) % 2 = 1
  then incL (D.take (D.length - (k - sc))) else D.take (D.length - (k - sc))
def rndOk (a1 : ByteArray) (a2 : Int) : Bool := decide (0 ≤ a2) && decide (a2 < a1.size) && decide (a1.size ≤ 1000) && digB a1
def dec_Dec_Round.f (a0 : Bool) (a1 : ByteArray) (a2 a3 : Int) : Option (Bool × ByteArray × Int) :=
  if rndOk a1 a2 = true then (if a2 ≤ (if a3 < 0 then (0 : Int) else a3) then some (a0, a1, a2)
    else U.dec_make0.f a0 ⟨(roundL a1.data.toList a2.toNat (if a3 < 0 then (0 : Int) else a3).toNat).toArray⟩ (if a3 < 0 then (0 : Int) else a3)) else none
theorem if_iff {α : Type} {p q : Prop} [Decidable p] [Decidable q] (h : p ↔ q) {a b : α} : (if p then a else b) = if q then a else b := by
  by_cases hp : p
  · rw [if_pos hp, if_pos (h.1 hp)]
  · rw [if_neg hp, if_neg (fun hq => hp (h.2 hq))]
theorem cmpS_or (a b : List UInt8) : cmpS a b = -1 ∨ cmpS a b = 0 ∨ cmpS a b = 1 := by
  unfold cmpS
  split
  · exact Or.inl rfl
  · split
    · exact Or.inr (Or.inl rfl)
    · exact Or.inr (Or.inr rfl)
theorem repeatL_one (c : UInt8) : ∀ m, Lib.repeatL [c] m = List.replicate m c
  | 0 => rfl
  | m + 1 => by
    show [c] ++ Lib.repeatL [c] m = _
    rw [repeatL_one c m, List.replicate_succ]
    rfl
theorem dec_Dec_Round.calls (a0 : Bool) (a1 : ByteArray) (a2 a3 : Int) (r1 : Bool) (r2 : ByteArray) (r3 : Int) (w : World) (h : dec_Dec_Round.f a0 a1 a2 a3 = some (r1, r2, r3)) :
    Calls Tryd.prog 40 #[.agg #[.bool a0, .string a1, .int .i64 a2], .int .i64 a3] w fun e w' => e = .returned (.agg #[.bool r1, .string r2, .int .i64 r3]) ∧ Below w.heap.size w w' := by
  unfold dec_Dec_Round.f at h
  by_cases hok : rndOk a1 a2 = true
  · rw [if_pos hok] at h
    obtain ⟨⟨⟨h0, h1⟩, h2⟩, hd⟩ : ((0 ≤ a2 ∧ a2 < a1.size) ∧ a1.size ≤ 1000) ∧ digB a1 = true := by simpa [rndOk] using hok
    obtain ⟨s, hs⟩ : ∃ s, (if a3 < 0 then (0 : Int) else a3) = s := ⟨_, rfl⟩
    have hs0 : 0 ≤ s := by rw [← hs]; split <;> omega
    rw [hs] at h
    by_cases hk : a2 ≤ s
    · rw [if_pos hk] at h
      obtain ⟨rfl, g⟩ := Prod.mk.inj (Option.some.inj h)
      obtain ⟨rfl, rfl⟩ := Prod.mk.inj g
      exact round_same a0 a1 a2 s a3 w hs hk
    · rw [if_neg hk] at h
      obtain ⟨k, rfl⟩ := Int.eq_ofNat_of_zero_le h0
      obtain ⟨sc, rfl⟩ := Int.eq_ofNat_of_zero_le hs0
      rw [Int.toNat_natCast, Int.toNat_natCast] at h
      have hD := digB_at hd
      have hl : a1.data.toList.length = a1.size := (Lib.size_eq a1).symm
      obtain ⟨ct, hct⟩ : ∃ ct, ct + 1 + (k - sc) = a1.size := ⟨a1.size - (k - sc) - 1, by omega⟩
      obtain ⟨x, hx⟩ : ∃ x, a1.data.toList[ct]? = some x := ⟨_, List.getElem?_eq_getElem (by omega)⟩
      have e1 : (a1.extract (ct + 1) a1.size).toList = a1.data.toList.drop (ct + 1) := by rw [Lib.toList_data, Lib.extract_to_end]
      have e2 : ((⟨#[53]⟩ : ByteArray) ++ ⟨(Lib.repeatL [48] (k - sc - 1)).toArray⟩).toList = 53 :: List.replicate (k - sc - 1) 48 := by
        rw [Lib.toList_data, ByteArray.data_append, Array.toList_append, repeatL_one]
        rfl
      have hcut : a1.data.toList.length - (k - sc) = ct + 1 := by omega
      refine round_more a0 a1 k sc ct a3 w hs (by omega) (by omega) hct hD h2 x hx (cmpS (a1.data.toList.drop (ct + 1)) (53 :: List.replicate (k - sc - 1) 48)) (cmpS_or _ _) ((((x.toNat : Int) - 48) % 2 == 1)) ?_ rfl r1 r2 r3 ?_
      · intro W
        have := cmp_str (a1.extract (ct + 1) a1.size) ((⟨#[53]⟩ : ByteArray) ++ ⟨(Lib.repeatL [48] (k - sc - 1)).toArray⟩) W
        rw [e1, e2] at this
        exact this
      · unfold roundL at h
        rw [hcut, show ct + 1 - 1 = ct by omega, List.getD_eq_getElem?_getD, hx, Option.getD_some] at h
        have hxr := hD x (List.mem_of_getElem? hx)
        have e3 : ((((x.toNat : Int) - 48) % 2 == 1) = true) = ((x.toNat - 48) % 2 = 1) := by
          rw [beq_iff_eq, eq_iff_iff]; omega
        rw [if_iff (or_congr Iff.rfl (and_congr Iff.rfl (iff_of_eq e3)))]
        exact h
  · rw [if_neg hok] at h
    exact absurd h (by simp)
end Go.Proofs.YtonjkoeacedaiaaDoor.G
