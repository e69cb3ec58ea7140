/- plural.Of, plural.Rank by the number's digits; the head of layer 4; PluralWords. -/
import Derived.Test.YtonjkoeacedaiaaDoorDrank
namespace Go.Proofs.YtonjkoeacedaiaaDoor
open Go.RowKit
set_option linter.unusedVariables false
set_option linter.unusedSimpArgs false
attribute [local go_sem ↓] Go.wp_at_zero Go.wp_at_succ

/-- What the tables' facts are, that Fields reads. -/
abbrev Asc (w : World) : Prop := Lib.TabIs Tryd.prog w "strings.asciiSpace" .u8 Lib.asciiSpaceTab
def Ld (d : ByteArray) (k : Nat) : List UInt8 := Lib.trimLeftB (d.data.toList.take (d.size - k)) 48
def bd (d : ByteArray) (k : Nat) : Bool := (Lib.trimB (d.data.toList.drop (d.size - k)) 48).isEmpty
def ofC (lang d : ByteArray) (k : Nat) : Int := pick lang (table (Ld d k) k (bd d k))
def rkC (lang d : ByteArray) (k : Nat) : Int := rankC lang (Ld d k) (bd d k)
/-- Digits alone, not too many. -/
structure Dig (d : ByteArray) (k : Nat) : Prop where
  k : k ≤ d.size
  len : d.size ≤ 1000000
  dig : ∀ c ∈ d.data.toList, 48 ≤ c.toNat ∧ c.toNat ≤ 57
theorem Dig.dg {d : ByteArray} {k : Nat} (h : Dig d k) : Dg (Ld d k) where
  len := by
    have := Lib.size_eq d
    have h1 : (Ld d k).length ≤ (d.data.toList.take (d.size - k)).length := (List.dropWhile_suffix _).length_le
    rw [List.length_take] at h1
    have := h.len
    omega
  dig := fun c hc => h.dig c (List.mem_of_mem_take ((List.dropWhile_suffix _).subset hc))
theorem Of_any (lang : ByteArray) (n : Bool) (d : ByteArray) (k : Nat) (h : Dig d k) (w : World) (hT : Asc w) :
    Calls Tryd.prog 19 #[.string lang, decV n d k] w fun e w' => e = .returned (.int .i64 (ofC lang d k)) ∧ Below w.heap.size w w' :=
  of_lang_any lang n d k _ _ h.dg w hT fun W => of_any n d k W h.k (by have := h.len; omega)
theorem Rank_any (lang : ByteArray) (n : Bool) (d : ByteArray) (k : Nat) (h : Dig d k) (w : World) :
    Calls Tryd.prog 21 #[.string lang, decV n d k] w fun e w' => e = .returned (.int .i64 (rkC lang d k)) ∧ Below w.heap.size w w' :=
  rank_any lang n d k _ _ h.dg w fun W => of_any n d k W h.k (by have := h.len; omega)

/-- A later world of the call. -/
def Good (w W : World) : Prop := Asc W ∧ Below w.heap.size w W
theorem Good.start {w : World} (h : Asc w) : Good w w := ⟨h, Below.refl _ _⟩
theorem Good.step {w W W' : World} (h : Good w W) (b : Below W.heap.size W W') : Good w W' := ⟨ascTab h.1 b, h.2.trans (b.mono h.2.size)⟩
theorem Good.drew {w W : World} (h : Good w W) : Good w W.drew := h.step ((Below.refl _ _).drew)
theorem Good.alloc {w W : World} (h : Good w W) (o : Obj) : Good w (W.alloc o) := h.step ((Below.refl _ _).alloc (Nat.le_refl _) o)
theorem Good.calls {w W : World} {P : Program} {f : FuncId} {args : Array Value} {v : Value} (h : Good w W) (c : Calls P f args W fun e w' => e = .returned v ∧ Below W.heap.size W w') : Calls P f args W fun e w' => e = .returned v ∧ Good w w' :=
  c.mono fun e w' ⟨he, hb⟩ => ⟨he, h.step hb⟩

theorem num_any (d : ByteArray) (k : Int) (w : World) : Calls Tryd.prog 50 #[.string d, .int .i64 k] w fun e w' => e = .returned (decV false d k) ∧ Below w.heap.size w w' := by
  unfold decV
  have bA := (Below.refl w.heap.size w).alloc (Nat.le_refl _) (.cells #[.bool false, .string d, .int .i64 k] 23)
  go_enter Tryd.func50, Tryd.ntmps50
  go_wp2
  go_returns
  exact ⟨rfl, bA⟩

theorem head4_any (w : World) (hT : Asc w) : Calls Tryd.prog 17 #[] w fun e w' => e = .returned (.bool true) ∧ Below w.heap.size w w' := by
  have hG := Good.start hT
  have n1 := fun W (h : Good w W) => h.calls (num_any ⟨#[50, 50]⟩ 0 W)
  have n2 := fun W (h : Good w W) => h.calls (num_any ⟨#[49, 50]⟩ 0 W)
  have n3 := fun W (h : Good w W) => h.calls (num_any ⟨#[49, 48]⟩ 1 W)
  have n4 := fun W (h : Good w W) => h.calls (num_any ⟨#[50, 51]⟩ 0 W)
  have o1 := fun W (h : Good w W) => h.calls (Of_any ⟨#[112, 108]⟩ false ⟨#[50, 50]⟩ 0 ⟨by decide, by decide, by decide⟩ W h.1)
  have o2 := fun W (h : Good w W) => h.calls (Of_any ⟨#[112, 108]⟩ false ⟨#[49, 50]⟩ 0 ⟨by decide, by decide, by decide⟩ W h.1)
  have o3 := fun W (h : Good w W) => h.calls (Of_any ⟨#[112, 108]⟩ false ⟨#[49, 48]⟩ 1 ⟨by decide, by decide, by decide⟩ W h.1)
  have r4 := fun W (h : Good w W) => h.calls (Rank_any ⟨#[101, 110]⟩ false ⟨#[50, 51]⟩ 0 ⟨by decide, by decide, by decide⟩ W)
  rw [show ofC ⟨#[112, 108]⟩ ⟨#[50, 50]⟩ 0 = 4 by decide +kernel] at o1
  rw [show ofC ⟨#[112, 108]⟩ ⟨#[49, 50]⟩ 0 = 5 by decide +kernel] at o2
  rw [show ofC ⟨#[112, 108]⟩ ⟨#[49, 48]⟩ 1 = 0 by decide +kernel] at o3
  rw [show rkC ⟨#[101, 110]⟩ ⟨#[50, 51]⟩ 0 = 4 by decide +kernel] at r4
  unfold decV at *
  simp only [show ((0 : Nat) : Int) = 0 from rfl, show ((1 : Nat) : Int) = 1 from rfl] at o1 o2 o3 r4
  go_enter Tryd.func17, Tryd.ntmps17
  go_wp2_with (first
    | (go_at_call 50; ((with_reducible refine (n1 _ (by first | assumption | (refine Good.drew ?_; assumption) | (refine Good.alloc ?_ _; assumption))).mono ?_); rintro e W1 ⟨rfl, hG1⟩))
    | (go_at_call 50; ((with_reducible refine (n2 _ (by first | assumption | (refine Good.drew ?_; assumption) | (refine Good.alloc ?_ _; assumption))).mono ?_); rintro e W1 ⟨rfl, hG1⟩))
    | (go_at_call 50; ((with_reducible refine (n3 _ (by first | assumption | (refine Good.drew ?_; assumption) | (refine Good.alloc ?_ _; assumption))).mono ?_); rintro e W1 ⟨rfl, hG1⟩))
    | (go_at_call 50; ((with_reducible refine (n4 _ (by first | assumption | (refine Good.drew ?_; assumption) | (refine Good.alloc ?_ _; assumption))).mono ?_); rintro e W1 ⟨rfl, hG1⟩))
    | (go_at_call 19; ((with_reducible refine (o1 _ (by first | assumption | (refine Good.drew ?_; assumption) | (refine Good.alloc ?_ _; assumption))).mono ?_); rintro e W1 ⟨rfl, hG1⟩))
    | (go_at_call 19; ((with_reducible refine (o2 _ (by first | assumption | (refine Good.drew ?_; assumption) | (refine Good.alloc ?_ _; assumption))).mono ?_); rintro e W1 ⟨rfl, hG1⟩))
    | (go_at_call 19; ((with_reducible refine (o3 _ (by first | assumption | (refine Good.drew ?_; assumption) | (refine Good.alloc ?_ _; assumption))).mono ?_); rintro e W1 ⟨rfl, hG1⟩))
    | (go_at_call 21; ((with_reducible refine (r4 _ (by first | assumption | (refine Good.drew ?_; assumption) | (refine Good.alloc ?_ _; assumption))).mono ?_); rintro e W1 ⟨rfl, hG1⟩)))
  go_ret
  exact ⟨rfl, hG1.2⟩

def word4 (c : Int) : List UInt8 := if 0 ≤ c ∧ c ≤ 5 then wordL c else []
theorem word4_eq (c : Int) : word4 c = wordL c := by
  unfold word4
  by_cases h : 0 ≤ c ∧ c ≤ 5
  · rw [if_pos h]
  · rw [if_neg h]; unfold wordL; repeat' rw [if_neg (by omega)]

set_option maxRecDepth 100000 in
set_option maxHeartbeats 4000000 in
theorem words_walk (c : Int) (w : World) (hT : Asc w) : Calls Tryd.prog 4 #[.int .i64 c] w fun e w' => e = .returned (.bool true) ∧ Below w.heap.size w w' := by
  have hG := Good.start hT
  have cH := hG.calls (head4_any w hT)
  have cW := fun W (h : Good w W) => h.calls (word_any c W)
  by_cases h0 : 0 ≤ c
  · by_cases h5 : c ≤ 5
    · rcases (show c = 0 ∨ c = 1 ∨ c = 2 ∨ c = 3 ∨ c = 4 ∨ c = 5 by omega) with rfl | rfl | rfl | rfl | rfl | rfl
      all_goals
        simp only [show wordL 0 = [111, 116, 104, 101, 114] from rfl, show wordL 1 = [122, 101, 114, 111] from rfl, show wordL 2 = [111, 110, 101] from rfl, show wordL 3 = [116, 119, 111] from rfl, show wordL 4 = [102, 101, 119] from rfl, show wordL 5 = [109, 97, 110, 121] from rfl] at cW
        go_enter Tryd.func4, Tryd.ntmps4
        go_wp2_with (first
          | (go_at_call 17; (with_reducible refine cH.mono ?_); rintro e W1 ⟨rfl, hG1⟩)
          | (go_at_call 23; ((with_reducible refine (cW _ (by first | assumption | (refine Good.drew ?_; assumption) | (refine Good.alloc ?_ _; assumption))).mono ?_); rintro e W1 ⟨rfl, hG1⟩)))
        go_ret
        exact ⟨rfl, hG1.2⟩
    · have e : wordL c = [] := by unfold wordL; repeat' rw [if_neg (by omega)]
      rw [e] at cW
      go_enter Tryd.func4, Tryd.ntmps4
      go_wp2_with (first
        | (go_at_call 17; (with_reducible refine cH.mono ?_); rintro e W1 ⟨rfl, hG1⟩)
        | (go_at_call 23; ((with_reducible refine (cW _ (by first | assumption | (refine Good.drew ?_; assumption) | (refine Good.alloc ?_ _; assumption))).mono ?_); rintro e W1 ⟨rfl, hG1⟩)))
      go_ret
      exact ⟨rfl, hG1.2⟩
  · have e : wordL c = [] := by unfold wordL; repeat' rw [if_neg (by omega)]
    rw [e] at cW
    go_enter Tryd.func4, Tryd.ntmps4
    go_wp2_with (first
      | (go_at_call 17; (with_reducible refine cH.mono ?_); rintro e W1 ⟨rfl, hG1⟩)
      | (go_at_call 23; ((with_reducible refine (cW _ (by first | assumption | (refine Good.drew ?_; assumption) | (refine Good.alloc ?_ _; assumption))).mono ?_); rintro e W1 ⟨rfl, hG1⟩)))
    go_ret
    exact ⟨rfl, hG1.2⟩
end Go.Proofs.YtonjkoeacedaiaaDoor
