/- Walks of the law's digit and Right (layer 2). -/
import Derived.Test.YtonjkoeacedaiaaDoorDrules
namespace Go.Proofs.YtonjkoeacedaiaaDoor
open Go.RowKit
set_option linter.unusedVariables false
set_option linter.unusedSimpArgs false

def digB (c : Int) : Bool := decide (48 ≤ c) && decide (c ≤ 57)
theorem digit_any (c : Int) (w : World) : Calls Tryd.prog 35 #[.int .u8 c] w fun e w' => e = .returned (.bool (digB c)) ∧ w' = w := by
  unfold digB
  by_cases h1 : 48 ≤ c
  · by_cases h2 : c ≤ 57
    · go_enter Tryd.func35, Tryd.ntmps35
      go_wp2
      go_ret
      exact ⟨by simp [h1, h2], rfl⟩
    · go_enter Tryd.func35, Tryd.ntmps35
      go_wp2
      go_ret
      exact ⟨by simp [h1, h2], rfl⟩
  · go_enter Tryd.func35, Tryd.ntmps35
    go_wp2
    go_ret
    exact ⟨by simp; omega, rfl⟩

def digL (l : List UInt8) : Bool := l.all fun c => digB c.toNat
/-- A number such as the page says. -/
def rightC (d : ByteArray) (k : Int) : Bool := if k < 0 ∨ (d.size : Int) ≤ k ∨ 60 < d.size then false else digL d.data.toList && (!(d.data.toList.getD 0 0 == 48) || decide ((d.size : Int) = k + 1))

set_option maxRecDepth 100000 in
set_option maxHeartbeats 4000000 in
theorem lright_any (n : Bool) (d : ByteArray) (k : Int) (w : World) (hk0 : -9223372036854775808 ≤ k) (hk1 : k ≤ 9223372036854775807) (hs : d.size ≤ 4611686018427387904) :
    Calls Tryd.prog 18 #[decV n d k] w fun e w' => e = .returned (.bool (rightC d k)) ∧ Below w.heap.size w w' := by
  unfold rightC decV
  have bA := (Below.refl w.heap.size w).alloc (Nat.le_refl _) (.cells #[.bool n, .string d, .int .i64 k] 23)
  by_cases h0 : k < 0
  · rw [if_pos (Or.inl h0)]
    go_enter Tryd.func18, Tryd.ntmps18
    go_wp2
    go_ret
    exact ⟨rfl, bA⟩
  by_cases h1 : (d.size : Int) ≤ k
  · rw [if_pos (Or.inr (Or.inl h1))]
    go_enter Tryd.func18, Tryd.ntmps18
    go_wp2
    go_ret
    exact ⟨rfl, bA⟩
  by_cases h2 : 60 < d.size
  · rw [if_pos (Or.inr (Or.inr h2))]
    have h2z : (60 : Int) < d.size := by omega
    go_enter Tryd.func18, Tryd.ntmps18
    go_wp2
    go_ret
    exact ⟨rfl, bA⟩
  rw [if_neg (by omega)]
  have h2z : ¬ (60 : Int) < d.size := by omega
  obtain ⟨R, hR⟩ : ∃ R, (digL d.data.toList && (!(d.data.toList.getD 0 0 == 48) || decide ((d.size : Int) = k + 1))) = R := ⟨_, rfl⟩
  rw [hR]
  have hl : d.data.toList.length = d.size := (Lib.size_eq d).symm
  obtain ⟨T, hT⟩ : ∃ T, (!(d.data.toList.getD 0 0 == 48) || decide ((d.size : Int) = k + 1)) = T := ⟨_, rfl⟩
  rw [hT] at hR
  have HT := Lib.hid hT; clear hT
  go_enter Tryd.func18, Tryd.ntmps18
  go_wp2
  go_loopg [3] d.size (fun gk si wx => ∃ i : Nat, si = .int .i64 i ∧ i ≤ d.size ∧ wx = w.alloc (.cells #[.bool n, .string d, .int .i64 k] 23) ∧ (digL (d.data.toList.drop i) && T) = R ∧ d.size ≤ i + gk)
  case atStart => exact ⟨0, rfl, by omega, rfl, hR, by omega⟩
  case round =>
    obtain ⟨i, rfl, hi, rfl, hr, hfu⟩ := hrel
    clear hR
    by_cases hp : i < d.size
    · obtain ⟨f, rfl⟩ : ∃ f, gk = f + 1 := ⟨gk - 1, by omega⟩
      have hdr : d.data.toList.drop i = (d[i]'hp) :: d.data.toList.drop (i + 1) := List.drop_eq_getElem_cons (by omega)
      rw [hdr] at hr
      have cD := fun w => digit_any ((d[i]'hp).toNat : Int) w
      have hr2 : ((digB ((d[i]'hp).toNat : Int) && digL (d.data.toList.drop (i + 1))) && T) = R := hr
      obtain ⟨B, hB⟩ : ∃ B, digB ((d[i]'hp).toNat : Int) = B := ⟨_, rfl⟩
      rw [hB] at hr2 cD
      clear hr hdr hB
      cases B with
      | true =>
        have HR : Hid ((digL (d.data.toList.drop (i + 1)) && T) = R) := Lib.hid (by simpa using hr2)
        clear hr2
        go_wp2_with (go_at_call 35; refine (cD _).mono ?_; rintro e W1 ⟨rfl, rfl⟩)
        go_roundg f
        case measure => omega
        case rel => exact ⟨i + 1, by go_num, by omega, rfl, HR.out, by omega⟩
      | false =>
        have HR : Hid (false = R) := Lib.hid (by simpa using hr2)
        clear hr2
        go_wp2_with (go_at_call 35; refine (cD _).mono ?_; rintro e W1 ⟨rfl, rfl⟩)
        go_ret
        exact ⟨by rw [← HR.out]; rfl, bA⟩
    · have hr2 : T = R := by
        rw [List.drop_eq_nil_of_le (by omega)] at hr
        simpa [digL] using hr
      have h0s : (0 : Int) < d.size := by omega
      have h0n : 0 < d.size := by omega
      have e0 : d.data.toList.getD 0 0 = d[0]'h0n := by rw [List.getD_eq_getElem?_getD, List.getElem?_eq_getElem (by omega)]; rfl
      have HR : Hid ((!(((d[0]'h0n).toNat : Int) == 48) || decide ((d.size : Int) = k + 1)) = R) := Lib.hid (by
        rw [← hr2, ← HT.out, e0]
        congr 2
        refine Bool.eq_iff_iff.2 ?_
        simp [← UInt8.toNat_inj]
        omega)
      clear hr hr2 e0
      go_wp2
      all_goals
        go_ret
        refine ⟨?_, bA⟩
        rw [← HR.out]
        first | (simp [*]; done) | (simp [*]; rfl)
end Go.Proofs.YtonjkoeacedaiaaDoor
