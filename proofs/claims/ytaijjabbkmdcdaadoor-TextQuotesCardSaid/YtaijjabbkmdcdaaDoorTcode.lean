/- The walk of text.code. -/
import Derived.Test.YtaijjabbkmdcdaaDoorTsmall
namespace Go.Proofs.YtaijjabbkmdcdaaDoor
open Go.RowKit
set_option linter.unusedVariables false
set_option linter.unusedSimpArgs false

def codeF : List UInt8 → Nat → Int → Option Int
  | _, 0, x => some x
  | [], _ + 1, _ => none
  | b :: t, n + 1, x => if hexZ b.toNat < 0 then none else codeF t n (x * 16 + hexZ b.toNat)
def codeOut (r : Option Int) : Int := match r with | none => 0 | some x => if Lib.validRune x then x else 65533
theorem codeF_zero (l : List UInt8) (x : Int) : codeF l 0 x = some x := by cases l <;> rfl
theorem codeF_short : ∀ (l : List UInt8) (n : Nat) (x : Int), l.length < n → codeF l n x = none
  | _, 0, _, h => by omega
  | [], _ + 1, _, _ => rfl
  | b :: t, n + 1, x, h => by
    unfold codeF
    split
    · rfl
    · exact codeF_short t n _ (by simp at h; omega)
theorem drop_cons (s : ByteArray) (i : Nat) (h : i < s.size) : s.data.toList.drop i = s[i] :: s.data.toList.drop (i + 1) := by
  rw [List.drop_eq_getElem_cons (by simpa using h)]; rfl

set_option maxRecDepth 100000 in
set_option maxHeartbeats 400000 in
theorem code_any (s : ByteArray) (n : Nat) (hn : n ≤ 6) (w : World) (hs : s.size ≤ 9223372036854775807) :
    Calls Tryd.prog 23 #[.string s, .int .i64 n] w fun e w' => e = .returned (.tuple #[.int .i32 (codeOut (codeF s.data.toList n 0)), .bool (codeF s.data.toList n 0).isSome]) ∧ w' = w := by
  have hlen : s.data.toList.length = s.size := (Lib.size_eq s).symm
  by_cases hlt : s.size < n
  · rw [codeF_short _ _ _ (by omega)]
    have hz : (s.size : Int) < (n : Int) := by omega
    go_enter Tryd.func23, Tryd.ntmps23
    go_wp2
    go_ret2
    exact ⟨rfl, rfl⟩
  · have hz : ¬ (s.size : Int) < (n : Int) := by omega
    obtain ⟨R, hR⟩ : ∃ R, codeF s.data.toList n 0 = R := ⟨_, rfl⟩
    rw [hR]
    have HR := Lib.hid hR; clear hR
    go_enter Tryd.func23, Tryd.ntmps23
    go_wp2
    go_loop [6, 14] (fun sx si => ∃ (i : Nat) (x : Int), i ≤ n ∧ si = .int .i64 i ∧ sx = .int .i64 x ∧ 0 ≤ x ∧ x < 16 ^ i ∧ codeF (s.data.toList.drop i) (n - i) x = R) (fun _ i => n - (intOf i).toNat)
    case atStart => exact ⟨0, 0, Nat.zero_le _, rfl, rfl, by omega, by decide, by simpa using HR.out⟩
    case round =>
      obtain ⟨i, x, hi, rfl, rfl, hx0, hx1, hc⟩ := hrel
      have HC := Lib.hid hc; clear hc
      have hp : (16 : Int) ^ i ≤ 16 ^ 6 := by
        rcases (show i = 0 ∨ i = 1 ∨ i = 2 ∨ i = 3 ∨ i = 4 ∨ i = 5 ∨ i = 6 by omega) with rfl | rfl | rfl | rfl | rfl | rfl | rfl <;> decide
      have hx2 : x < 16777216 := by have : (16 : Int) ^ 6 = 16777216 := by decide
                                    omega
      by_cases hin : i < n
      · have hiz : (i : Int) < (n : Int) := by omega
        have hb : i < s.size := by omega
        have hbz : (i : Int) < (s.size : Int) := by omega
        obtain ⟨b, hbe⟩ : ∃ b, s[i] = b := ⟨_, rfl⟩
        have hbd := hexZ_bd b.toNat
        have hb256 := b.toNat_lt
        have hbx : (b.toNat : Int) < 256 := by omega
        have hstep : codeF (s.data.toList.drop i) (n - i) x = if hexZ b.toNat < 0 then none else codeF (s.data.toList.drop (i + 1)) (n - (i + 1)) (x * 16 + hexZ b.toNat) := by
          rw [drop_cons s i hb, hbe, show n - i = (n - (i + 1)) + 1 by omega]
          rfl
        rw [hstep] at HC
        clear hstep
        obtain ⟨H, hH⟩ : ∃ H, hexZ b.toNat = H := ⟨_, rfl⟩
        have cH := fun w => hex_any b.toNat (by omega) (by omega) w
        rw [hH] at cH HC hbd
        clear hH
        by_cases hneg : H < 0
        · rw [if_pos hneg] at HC
          go_wp2_with (go_at_call 32; refine (cH _).mono ?_; rintro e w' ⟨rfl, rfl⟩)
          go_ret2
          rw [← HC.out]
          exact ⟨rfl, rfl⟩
        · rw [if_neg hneg] at HC
          go_wp2_with (go_at_call 32; refine (cH _).mono ?_; rintro e w' ⟨rfl, rfl⟩)
          go_round
          case rel => exact ⟨i + 1, x * 16 + H, by omega, by go_num, by go_num, by omega, by rw [Int.pow_succ]; omega, HC.out⟩
          case measure => simp [intOf]; omega
      · have hiz : ¬ (i : Int) < (n : Int) := by omega
        obtain rfl : i = n := by omega
        have hfin : R = some x := by
          have := HC.out
          rw [Nat.sub_self, codeF_zero] at this
          exact this.symm
        subst hfin
        clear HC HR
        have cV : ∀ w, Calls Tryd.prog 33 #[.int .i32 x] w fun e w' => e = .returned (.bool (Lib.validRune x)) ∧ w' = w := fun w => Tryd.utf8_ValidRune x w
        have hgo : codeOut (some x) = if Lib.validRune x then x else 65533 := rfl
        have HG := Lib.hid hgo; clear hgo
        cases hv : Lib.validRune x with
        | true =>
          rw [hv] at HG cV
          clear hv
          go_wp2_with (go_at_call 33; refine (cV _).mono ?_; rintro e w' ⟨rfl, rfl⟩)
          go_ret2
          rw [HG.out]
          exact ⟨rfl, rfl⟩
        | false =>
          rw [hv] at HG cV
          clear hv
          go_wp2_with (go_at_call 33; refine (cV _).mono ?_; rintro e w' ⟨rfl, rfl⟩)
          go_ret2
          rw [HG.out]
          exact ⟨rfl, rfl⟩
end Go.Proofs.YtaijjabbkmdcdaaDoor
