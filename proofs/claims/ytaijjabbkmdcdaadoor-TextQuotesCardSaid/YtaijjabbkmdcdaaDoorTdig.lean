/- The walk of text.digits at four digits. -/
import Derived.Test.YtaijjabbkmdcdaaDoorTunq
import Derived.Laws.BitsLemmas
namespace Go.Proofs.YtaijjabbkmdcdaaDoor
open Go.RowKit
set_option linter.unusedVariables false
set_option linter.unusedSimpArgs false

def hexD (n : Nat) : UInt8 := if n < 10 then (48 + n).toUInt8 else (55 + n).toUInt8
def dig4 (r : Nat) : List UInt8 := [hexD (r / 4096 % 16), hexD (r / 256 % 16), hexD (r / 16 % 16), hexD (r % 16)]

theorem and15 (x : Int) (h0 : 0 ≤ x) (h1 : x < 2 ^ 31) : bits BinOp.and IntKind.i32 x 15 = x % 16 := bits_mask .i32 31 (by decide) wraps_i32 4 (by decide) x h0 h1
theorem hexD_at (d : Nat) (h : d < 16) : (⟨#[48, 49, 50, 51, 52, 53, 54, 55, 56, 57, 65, 66, 67, 68, 69, 70]⟩ : ByteArray)[d]'(by exact h) = hexD d := by
  have : ∀ i : Fin 16, (⟨#[48, 49, 50, 51, 52, 53, 54, 55, 56, 57, 65, 66, 67, 68, 69, 70]⟩ : ByteArray)[i.val]'(by exact i.isLt) = hexD i.val := by decide
  exact this ⟨d, h⟩

set_option maxRecDepth 100000 in
set_option maxHeartbeats 4000000 in
theorem digits_any (r : Nat) (hr : r < 128) (w : World) :
    Calls Tryd.prog 26 #[.int .i32 r, .int .i64 4] w fun e w' => e = .returned (.string ⟨(dig4 r).toArray⟩) ∧ Below w.heap.size w w' := by
  obtain ⟨i0, hi, hz0, hz1, hz2⟩ := info_parts byteInfo
  go_enter Tryd.func26, Tryd.ntmps26
  go_wp2
  go_loopw [5, 6] (fun so si wx => ∃ (k : Nat), si = .int .i64 (3 - (k : Int)) ∧ k ≤ 4 ∧ wx.ownsRow w.heap.size 5 1 so k (Lib.byteCells ((dig4 r).take k)) ∧ Below w.heap.size w wx) (fun _ i _ => (intOf i + 1).toNat)
  case atStart => exact ⟨0, rfl, by omega, World.ownsRow_nil _ _ _ _, Below.refl _ _⟩
  case round =>
    obtain ⟨k, rfl, hk, hown, hbw⟩ := hrel
    rcases (show k = 0 ∨ k = 1 ∨ k = 2 ∨ k = 3 ∨ k = 4 by omega) with rfl | rfl | rfl | rfl | rfl
    · obtain ⟨d, hd⟩ : ∃ d, r / 4096 % 16 = d := ⟨_, rfl⟩
      have hA : bits BinOp.and IntKind.i32 ((r : Int) / 4096) 15 = (d : Int) := by rw [and15 _ (by omega) (by omega)]; omega
      have hd16 : d < 16 := by omega
      have hdz : (d : Int) < 16 := by omega
      have hX := hexD_at d hd16
      have HT : Hid ((dig4 r).take 0 ++ [hexD d] = (dig4 r).take (0 + 1)) := Lib.hid (by rw [← hd]; rfl)
      obtain ⟨H, hH⟩ : ∃ H, hexD d = H := ⟨_, rfl⟩
      rw [hH] at hX HT
      have HD := Lib.hid hd; clear hd hH
      go_wp2_with (at_builtin; refine wpList_append_own _ rfl _ _ 22 rfl w.heap.size 5 i0 (.int .u8 0) 1 1 Tryd.underlying22 hi hz0 hz1 hz2 rfl (by decide) _ _ _ rfl (hown.alloc _) ⟨wr.heap.size, 0, none⟩ 1 1 [.int .u8 H.toNat] rfl rfl ?c1 ?c2 ?c3 ?c4 ?c5 ?_)
      case c1 =>
        intro j u hj
        match j, hj with
        | 0, hj => simp at hj; subst hj; simp [Addr.add]
      case c2 => intro u hu; simp at hu; subst hu; rfl
      case c3 => unfold maxLen; omega
      case c4 => omega
      case c5 => have := hbw.size; simp; omega
      intro v' w2 hown' hgrow _
      go_wp2
      go_roundw
      case rel =>
        refine ⟨0 + 1, by go_num, by omega, ?_, (hbw.alloc hbw.size _).grown hgrow (by have := hbw.size; simp; omega) (fun k hk => (hown.lt k hk).1)⟩
        rw [← HT.out, Lib.byteCells_append]
        exact hown'
      case measure => simp [intOf]
    · obtain ⟨d, hd⟩ : ∃ d, r / 256 % 16 = d := ⟨_, rfl⟩
      have hA : bits BinOp.and IntKind.i32 ((r : Int) / 256) 15 = (d : Int) := by rw [and15 _ (by omega) (by omega)]; omega
      have hd16 : d < 16 := by omega
      have hdz : (d : Int) < 16 := by omega
      have hX := hexD_at d hd16
      have HT : Hid ((dig4 r).take 1 ++ [hexD d] = (dig4 r).take (1 + 1)) := Lib.hid (by rw [← hd]; rfl)
      obtain ⟨H, hH⟩ : ∃ H, hexD d = H := ⟨_, rfl⟩
      rw [hH] at hX HT
      have HD := Lib.hid hd; clear hd hH
      go_wp2_with (at_builtin; refine wpList_append_own _ rfl _ _ 22 rfl w.heap.size 5 i0 (.int .u8 0) 1 1 Tryd.underlying22 hi hz0 hz1 hz2 rfl (by decide) _ _ _ rfl (hown.alloc _) ⟨wr.heap.size, 0, none⟩ 1 1 [.int .u8 H.toNat] rfl rfl ?c1 ?c2 ?c3 ?c4 ?c5 ?_)
      case c1 =>
        intro j u hj
        match j, hj with
        | 0, hj => simp at hj; subst hj; simp [Addr.add]
      case c2 => intro u hu; simp at hu; subst hu; rfl
      case c3 => unfold maxLen; omega
      case c4 => omega
      case c5 => have := hbw.size; simp; omega
      intro v' w2 hown' hgrow _
      go_wp2
      go_roundw
      case rel =>
        refine ⟨1 + 1, by go_num, by omega, ?_, (hbw.alloc hbw.size _).grown hgrow (by have := hbw.size; simp; omega) (fun k hk => (hown.lt k hk).1)⟩
        rw [← HT.out, Lib.byteCells_append]
        exact hown'
      case measure => simp [intOf]
    · obtain ⟨d, hd⟩ : ∃ d, r / 16 % 16 = d := ⟨_, rfl⟩
      have hA : bits BinOp.and IntKind.i32 ((r : Int) / 16) 15 = (d : Int) := by rw [and15 _ (by omega) (by omega)]; omega
      have hd16 : d < 16 := by omega
      have hdz : (d : Int) < 16 := by omega
      have hX := hexD_at d hd16
      have HT : Hid ((dig4 r).take 2 ++ [hexD d] = (dig4 r).take (2 + 1)) := Lib.hid (by rw [← hd]; rfl)
      obtain ⟨H, hH⟩ : ∃ H, hexD d = H := ⟨_, rfl⟩
      rw [hH] at hX HT
      have HD := Lib.hid hd; clear hd hH
      go_wp2_with (at_builtin; refine wpList_append_own _ rfl _ _ 22 rfl w.heap.size 5 i0 (.int .u8 0) 1 1 Tryd.underlying22 hi hz0 hz1 hz2 rfl (by decide) _ _ _ rfl (hown.alloc _) ⟨wr.heap.size, 0, none⟩ 1 1 [.int .u8 H.toNat] rfl rfl ?c1 ?c2 ?c3 ?c4 ?c5 ?_)
      case c1 =>
        intro j u hj
        match j, hj with
        | 0, hj => simp at hj; subst hj; simp [Addr.add]
      case c2 => intro u hu; simp at hu; subst hu; rfl
      case c3 => unfold maxLen; omega
      case c4 => omega
      case c5 => have := hbw.size; simp; omega
      intro v' w2 hown' hgrow _
      go_wp2
      go_roundw
      case rel =>
        refine ⟨2 + 1, by go_num, by omega, ?_, (hbw.alloc hbw.size _).grown hgrow (by have := hbw.size; simp; omega) (fun k hk => (hown.lt k hk).1)⟩
        rw [← HT.out, Lib.byteCells_append]
        exact hown'
      case measure => simp [intOf]
    · obtain ⟨d, hd⟩ : ∃ d, r % 16 = d := ⟨_, rfl⟩
      have hA : bits BinOp.and IntKind.i32 (r : Int) 15 = (d : Int) := by rw [and15 _ (by omega) (by omega)]; omega
      have hd16 : d < 16 := by omega
      have hdz : (d : Int) < 16 := by omega
      have hX := hexD_at d hd16
      have HT : Hid ((dig4 r).take 3 ++ [hexD d] = (dig4 r).take (3 + 1)) := Lib.hid (by rw [← hd]; rfl)
      obtain ⟨H, hH⟩ : ∃ H, hexD d = H := ⟨_, rfl⟩
      rw [hH] at hX HT
      have HD := Lib.hid hd; clear hd hH
      go_wp2_with (at_builtin; refine wpList_append_own _ rfl _ _ 22 rfl w.heap.size 5 i0 (.int .u8 0) 1 1 Tryd.underlying22 hi hz0 hz1 hz2 rfl (by decide) _ _ _ rfl (hown.alloc _) ⟨wr.heap.size, 0, none⟩ 1 1 [.int .u8 H.toNat] rfl rfl ?c1 ?c2 ?c3 ?c4 ?c5 ?_)
      case c1 =>
        intro j u hj
        match j, hj with
        | 0, hj => simp at hj; subst hj; simp [Addr.add]
      case c2 => intro u hu; simp at hu; subst hu; rfl
      case c3 => unfold maxLen; omega
      case c4 => omega
      case c5 => have := hbw.size; simp; omega
      intro v' w2 hown' hgrow _
      go_wp2
      go_roundw
      case rel =>
        refine ⟨3 + 1, by go_num, by omega, ?_, (hbw.alloc hbw.size _).grown hgrow (by have := hbw.size; simp; omega) (fun k hk => (hown.lt k hk).1)⟩
        rw [← HT.out, Lib.byteCells_append]
        exact hown'
      case measure => simp [intOf]
    · have hcv := convert_own (l := dig4 r) hown
      go_wp2
      go_ret
      exact ⟨rfl, hbw⟩
end Go.Proofs.YtaijjabbkmdcdaaDoor
