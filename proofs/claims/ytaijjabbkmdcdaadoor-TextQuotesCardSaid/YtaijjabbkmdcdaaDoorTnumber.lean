/- The walk of the statements' number: a hexadecimal digit's value. -/
import Derived.Test.YtaijjabbkmdcdaaDoorTlawRight
namespace Go.Proofs.YtaijjabbkmdcdaaDoor
open Go.RowKit
set_option linter.unusedVariables false
set_option linter.unusedSimpArgs false

def digs : List (List UInt8) := [[48], [49], [50], [51], [52], [53], [54], [55], [56], [57], [97], [98], [99], [100], [101], [102]]
def caps : List (List UInt8) := [[65], [66], [67], [68], [69], [70]]
def numAt (x : List UInt8) (i : Nat) : Bool := x == digs.getD i [] || (decide (9 < i) && x == caps.getD (i - 10) [])
def numZ (x : List UInt8) : Int := match (List.range 16).find? (numAt x) with
  | some i => i
  | none => -1
theorem numZ_byte (c : UInt8) : numZ [c] = hexZ c.toNat := by
  have h : ∀ c : Fin 256, numZ [UInt8.ofNat c.val] = hexZ (UInt8.ofNat c.val).toNat := by decide +kernel
  have := h ⟨c.toNat, c.toNat_lt⟩
  simpa using this
theorem numZ_long (x : List UInt8) (h : x.length ≠ 1) : numZ x = -1 := by
  have hn : (List.range 16).find? (numAt x) = none := by
    rw [List.find?_eq_none]
    intro i hi hx
    have hi' := List.mem_range.1 hi
    have hd : ∀ j : Fin 16, (digs.getD j.val []).length = 1 := by decide
    have hc : ∀ j : Fin 6, (caps.getD j.val []).length = 1 := by decide
    unfold numAt at hx
    simp only [Bool.or_eq_true, Bool.and_eq_true, beq_iff_eq, decide_eq_true_eq] at hx
    rcases hx with rfl | ⟨h9, rfl⟩
    · exact h (hd ⟨i, hi'⟩)
    · exact h (hc ⟨i - 10, by omega⟩)
  unfold numZ; rw [hn]
theorem numZ_bd (x : List UInt8) : -1 ≤ numZ x ∧ numZ x ≤ 15 := by
  unfold numZ
  split
  · rename_i i hi
    have := List.mem_range.1 (List.mem_of_find?_eq_some hi)
    omega
  · omega
theorem find_range (p : Nat → Bool) (n i : Nat) (hi : i < n) (hp : p i = true) (hb : ∀ j, j < i → p j = false) : (List.range n).find? p = some i := by
  rw [List.find?_range_eq_some]
  exact ⟨hp, List.mem_range.2 hi, fun j hj => by rw [hb j hj]; rfl⟩

set_option maxRecDepth 100000 in
set_option maxHeartbeats 8000000 in
theorem number_any (s : ByteArray) (w : World) :
    Calls Tryd.prog 24 #[.string s] w fun e w' => e = .returned (.int .i64 (numZ s.data.toList)) ∧ Below w.heap.size w w' := by
  have hsl : s.toList = s.data.toList := Lib.toList_data s
  obtain ⟨l, hl⟩ : ∃ l, s.data.toList = l := ⟨_, rfl⟩
  rw [hl] at hsl ⊢
  obtain ⟨R, hR⟩ : ∃ R, numZ l = R := ⟨_, rfl⟩
  rw [hR]
  have HR := Lib.hid hR; clear hR hl
  have HS := Lib.hid hsl; clear hsl
  go_enter Tryd.func24, Tryd.ntmps24
  go_wp2
  go_loopw [7] (fun si wx => ∃ i : Nat, si = .int .i64 i ∧ i ≤ 16 ∧ (∀ j, j < i → numAt l j = false) ∧ Below w.heap.size w wx ∧ wx.heap[w.heap.size]? = some (.cells #[.string ⟨#[48]⟩, .string ⟨#[49]⟩, .string ⟨#[50]⟩, .string ⟨#[51]⟩, .string ⟨#[52]⟩, .string ⟨#[53]⟩, .string ⟨#[54]⟩, .string ⟨#[55]⟩, .string ⟨#[56]⟩, .string ⟨#[57]⟩, .string ⟨#[97]⟩, .string ⟨#[98]⟩, .string ⟨#[99]⟩, .string ⟨#[100]⟩, .string ⟨#[101]⟩, .string ⟨#[102]⟩] 9 (0, 0))) (fun i _ => 16 - (intOf i).toNat)
  case atStart => exact ⟨0, rfl, by omega, fun j h => absurd h (by omega), (Below.refl _ _).alloc (Nat.le_refl _) _, heap_alloc_new w _⟩
  case round =>
    obtain ⟨i, rfl, hi, hno, hbw, hblk⟩ := hrel
    have HN := Lib.hid hno; clear hno
    have hlt : w.heap.size < wr.heap.size := (Array.getElem?_eq_some_iff.1 hblk).1
    rcases (show i = 0 ∨ i = 1 ∨ i = 2 ∨ i = 3 ∨ i = 4 ∨ i = 5 ∨ i = 6 ∨ i = 7 ∨ i = 8 ∨ i = 9 ∨ i = 10 ∨ i = 11 ∨ i = 12 ∨ i = 13 ∨ i = 14 ∨ i = 15 ∨ i = 16 by omega) with rfl | rfl | rfl | rfl | rfl | rfl | rfl | rfl | rfl | rfl | rfl | rfl | rfl | rfl | rfl | rfl | rfl
    · have hc : wr.cell? ⟨w.heap.size, 0, none⟩ = some (.string ⟨#[48]⟩) := by rw [Lib.cell_of_heap hblk]; rfl
      cases hq : (l == [48]) with
      | true =>
        have hs : (s.toList == [48]) = true := by rw [HS.out]; exact hq
        have hfin : numZ l = 0 := by unfold numZ; rw [find_range (numAt l) 16 0 (by omega) (by unfold numAt; rw [show digs.getD 0 [] = [48] from rfl, hq]; rfl) HN.out]; rfl
        rw [HR.out] at hfin
        have HF := Lib.hid hfin; clear hfin hq
        clear HR HN
        go_wp2
        go_ret
        exact ⟨ret_int (by rw [HF.out]; rfl), hbw⟩
      | false =>
        have hs : (s.toList == [48]) = false := by rw [HS.out]; exact hq
        have hno : numAt l 0 = false := by unfold numAt; rw [show digs.getD 0 [] = [48] from rfl, hq]; rfl
        have HN2 := Lib.hid hno; clear hno hq
        go_wp2
        go_roundw
        case rel => exact ⟨1, rfl, by omega, fun j h => by rcases Nat.lt_or_eq_of_le (Nat.le_of_lt_succ h) with h | rfl; exact HN.out j h; exact HN2.out, hbw, hblk⟩
        case measure => simp [intOf]
    · have hc : wr.cell? ⟨w.heap.size, 1, none⟩ = some (.string ⟨#[49]⟩) := by rw [Lib.cell_of_heap hblk]; rfl
      cases hq : (l == [49]) with
      | true =>
        have hs : (s.toList == [49]) = true := by rw [HS.out]; exact hq
        have hfin : numZ l = 1 := by unfold numZ; rw [find_range (numAt l) 16 1 (by omega) (by unfold numAt; rw [show digs.getD 1 [] = [49] from rfl, hq]; rfl) HN.out]; rfl
        rw [HR.out] at hfin
        have HF := Lib.hid hfin; clear hfin hq
        clear HR HN
        go_wp2
        go_ret
        exact ⟨ret_int (by rw [HF.out]; rfl), hbw⟩
      | false =>
        have hs : (s.toList == [49]) = false := by rw [HS.out]; exact hq
        have hno : numAt l 1 = false := by unfold numAt; rw [show digs.getD 1 [] = [49] from rfl, hq]; rfl
        have HN2 := Lib.hid hno; clear hno hq
        go_wp2
        go_roundw
        case rel => exact ⟨2, rfl, by omega, fun j h => by rcases Nat.lt_or_eq_of_le (Nat.le_of_lt_succ h) with h | rfl; exact HN.out j h; exact HN2.out, hbw, hblk⟩
        case measure => simp [intOf]
    · have hc : wr.cell? ⟨w.heap.size, 2, none⟩ = some (.string ⟨#[50]⟩) := by rw [Lib.cell_of_heap hblk]; rfl
      cases hq : (l == [50]) with
      | true =>
        have hs : (s.toList == [50]) = true := by rw [HS.out]; exact hq
        have hfin : numZ l = 2 := by unfold numZ; rw [find_range (numAt l) 16 2 (by omega) (by unfold numAt; rw [show digs.getD 2 [] = [50] from rfl, hq]; rfl) HN.out]; rfl
        rw [HR.out] at hfin
        have HF := Lib.hid hfin; clear hfin hq
        clear HR HN
        go_wp2
        go_ret
        exact ⟨ret_int (by rw [HF.out]; rfl), hbw⟩
      | false =>
        have hs : (s.toList == [50]) = false := by rw [HS.out]; exact hq
        have hno : numAt l 2 = false := by unfold numAt; rw [show digs.getD 2 [] = [50] from rfl, hq]; rfl
        have HN2 := Lib.hid hno; clear hno hq
        go_wp2
        go_roundw
        case rel => exact ⟨3, rfl, by omega, fun j h => by rcases Nat.lt_or_eq_of_le (Nat.le_of_lt_succ h) with h | rfl; exact HN.out j h; exact HN2.out, hbw, hblk⟩
        case measure => simp [intOf]
    · have hc : wr.cell? ⟨w.heap.size, 3, none⟩ = some (.string ⟨#[51]⟩) := by rw [Lib.cell_of_heap hblk]; rfl
      cases hq : (l == [51]) with
      | true =>
        have hs : (s.toList == [51]) = true := by rw [HS.out]; exact hq
        have hfin : numZ l = 3 := by unfold numZ; rw [find_range (numAt l) 16 3 (by omega) (by unfold numAt; rw [show digs.getD 3 [] = [51] from rfl, hq]; rfl) HN.out]; rfl
        rw [HR.out] at hfin
        have HF := Lib.hid hfin; clear hfin hq
        clear HR HN
        go_wp2
        go_ret
        exact ⟨ret_int (by rw [HF.out]; rfl), hbw⟩
      | false =>
        have hs : (s.toList == [51]) = false := by rw [HS.out]; exact hq
        have hno : numAt l 3 = false := by unfold numAt; rw [show digs.getD 3 [] = [51] from rfl, hq]; rfl
        have HN2 := Lib.hid hno; clear hno hq
        go_wp2
        go_roundw
        case rel => exact ⟨4, rfl, by omega, fun j h => by rcases Nat.lt_or_eq_of_le (Nat.le_of_lt_succ h) with h | rfl; exact HN.out j h; exact HN2.out, hbw, hblk⟩
        case measure => simp [intOf]
    · have hc : wr.cell? ⟨w.heap.size, 4, none⟩ = some (.string ⟨#[52]⟩) := by rw [Lib.cell_of_heap hblk]; rfl
      cases hq : (l == [52]) with
      | true =>
        have hs : (s.toList == [52]) = true := by rw [HS.out]; exact hq
        have hfin : numZ l = 4 := by unfold numZ; rw [find_range (numAt l) 16 4 (by omega) (by unfold numAt; rw [show digs.getD 4 [] = [52] from rfl, hq]; rfl) HN.out]; rfl
        rw [HR.out] at hfin
        have HF := Lib.hid hfin; clear hfin hq
        clear HR HN
        go_wp2
        go_ret
        exact ⟨ret_int (by rw [HF.out]; rfl), hbw⟩
      | false =>
        have hs : (s.toList == [52]) = false := by rw [HS.out]; exact hq
        have hno : numAt l 4 = false := by unfold numAt; rw [show digs.getD 4 [] = [52] from rfl, hq]; rfl
        have HN2 := Lib.hid hno; clear hno hq
        go_wp2
        go_roundw
        case rel => exact ⟨5, rfl, by omega, fun j h => by rcases Nat.lt_or_eq_of_le (Nat.le_of_lt_succ h) with h | rfl; exact HN.out j h; exact HN2.out, hbw, hblk⟩
        case measure => simp [intOf]
    · have hc : wr.cell? ⟨w.heap.size, 5, none⟩ = some (.string ⟨#[53]⟩) := by rw [Lib.cell_of_heap hblk]; rfl
      cases hq : (l == [53]) with
      | true =>
        have hs : (s.toList == [53]) = true := by rw [HS.out]; exact hq
        have hfin : numZ l = 5 := by unfold numZ; rw [find_range (numAt l) 16 5 (by omega) (by unfold numAt; rw [show digs.getD 5 [] = [53] from rfl, hq]; rfl) HN.out]; rfl
        rw [HR.out] at hfin
        have HF := Lib.hid hfin; clear hfin hq
        clear HR HN
        go_wp2
        go_ret
        exact ⟨ret_int (by rw [HF.out]; rfl), hbw⟩
      | false =>
        have hs : (s.toList == [53]) = false := by rw [HS.out]; exact hq
        have hno : numAt l 5 = false := by unfold numAt; rw [show digs.getD 5 [] = [53] from rfl, hq]; rfl
        have HN2 := Lib.hid hno; clear hno hq
        go_wp2
        go_roundw
        case rel => exact ⟨6, rfl, by omega, fun j h => by rcases Nat.lt_or_eq_of_le (Nat.le_of_lt_succ h) with h | rfl; exact HN.out j h; exact HN2.out, hbw, hblk⟩
        case measure => simp [intOf]
    · have hc : wr.cell? ⟨w.heap.size, 6, none⟩ = some (.string ⟨#[54]⟩) := by rw [Lib.cell_of_heap hblk]; rfl
      cases hq : (l == [54]) with
      | true =>
        have hs : (s.toList == [54]) = true := by rw [HS.out]; exact hq
        have hfin : numZ l = 6 := by unfold numZ; rw [find_range (numAt l) 16 6 (by omega) (by unfold numAt; rw [show digs.getD 6 [] = [54] from rfl, hq]; rfl) HN.out]; rfl
        rw [HR.out] at hfin
        have HF := Lib.hid hfin; clear hfin hq
        clear HR HN
        go_wp2
        go_ret
        exact ⟨ret_int (by rw [HF.out]; rfl), hbw⟩
      | false =>
        have hs : (s.toList == [54]) = false := by rw [HS.out]; exact hq
        have hno : numAt l 6 = false := by unfold numAt; rw [show digs.getD 6 [] = [54] from rfl, hq]; rfl
        have HN2 := Lib.hid hno; clear hno hq
        go_wp2
        go_roundw
        case rel => exact ⟨7, rfl, by omega, fun j h => by rcases Nat.lt_or_eq_of_le (Nat.le_of_lt_succ h) with h | rfl; exact HN.out j h; exact HN2.out, hbw, hblk⟩
        case measure => simp [intOf]
    · have hc : wr.cell? ⟨w.heap.size, 7, none⟩ = some (.string ⟨#[55]⟩) := by rw [Lib.cell_of_heap hblk]; rfl
      cases hq : (l == [55]) with
      | true =>
        have hs : (s.toList == [55]) = true := by rw [HS.out]; exact hq
        have hfin : numZ l = 7 := by unfold numZ; rw [find_range (numAt l) 16 7 (by omega) (by unfold numAt; rw [show digs.getD 7 [] = [55] from rfl, hq]; rfl) HN.out]; rfl
        rw [HR.out] at hfin
        have HF := Lib.hid hfin; clear hfin hq
        clear HR HN
        go_wp2
        go_ret
        exact ⟨ret_int (by rw [HF.out]; rfl), hbw⟩
      | false =>
        have hs : (s.toList == [55]) = false := by rw [HS.out]; exact hq
        have hno : numAt l 7 = false := by unfold numAt; rw [show digs.getD 7 [] = [55] from rfl, hq]; rfl
        have HN2 := Lib.hid hno; clear hno hq
        go_wp2
        go_roundw
        case rel => exact ⟨8, rfl, by omega, fun j h => by rcases Nat.lt_or_eq_of_le (Nat.le_of_lt_succ h) with h | rfl; exact HN.out j h; exact HN2.out, hbw, hblk⟩
        case measure => simp [intOf]
    · have hc : wr.cell? ⟨w.heap.size, 8, none⟩ = some (.string ⟨#[56]⟩) := by rw [Lib.cell_of_heap hblk]; rfl
      cases hq : (l == [56]) with
      | true =>
        have hs : (s.toList == [56]) = true := by rw [HS.out]; exact hq
        have hfin : numZ l = 8 := by unfold numZ; rw [find_range (numAt l) 16 8 (by omega) (by unfold numAt; rw [show digs.getD 8 [] = [56] from rfl, hq]; rfl) HN.out]; rfl
        rw [HR.out] at hfin
        have HF := Lib.hid hfin; clear hfin hq
        clear HR HN
        go_wp2
        go_ret
        exact ⟨ret_int (by rw [HF.out]; rfl), hbw⟩
      | false =>
        have hs : (s.toList == [56]) = false := by rw [HS.out]; exact hq
        have hno : numAt l 8 = false := by unfold numAt; rw [show digs.getD 8 [] = [56] from rfl, hq]; rfl
        have HN2 := Lib.hid hno; clear hno hq
        go_wp2
        go_roundw
        case rel => exact ⟨9, rfl, by omega, fun j h => by rcases Nat.lt_or_eq_of_le (Nat.le_of_lt_succ h) with h | rfl; exact HN.out j h; exact HN2.out, hbw, hblk⟩
        case measure => simp [intOf]
    · have hc : wr.cell? ⟨w.heap.size, 9, none⟩ = some (.string ⟨#[57]⟩) := by rw [Lib.cell_of_heap hblk]; rfl
      cases hq : (l == [57]) with
      | true =>
        have hs : (s.toList == [57]) = true := by rw [HS.out]; exact hq
        have hfin : numZ l = 9 := by unfold numZ; rw [find_range (numAt l) 16 9 (by omega) (by unfold numAt; rw [show digs.getD 9 [] = [57] from rfl, hq]; rfl) HN.out]; rfl
        rw [HR.out] at hfin
        have HF := Lib.hid hfin; clear hfin hq
        clear HR HN
        go_wp2
        go_ret
        exact ⟨ret_int (by rw [HF.out]; rfl), hbw⟩
      | false =>
        have hs : (s.toList == [57]) = false := by rw [HS.out]; exact hq
        have hno : numAt l 9 = false := by unfold numAt; rw [show digs.getD 9 [] = [57] from rfl, hq]; rfl
        have HN2 := Lib.hid hno; clear hno hq
        go_wp2
        go_roundw
        case rel => exact ⟨10, rfl, by omega, fun j h => by rcases Nat.lt_or_eq_of_le (Nat.le_of_lt_succ h) with h | rfl; exact HN.out j h; exact HN2.out, hbw, hblk⟩
        case measure => simp [intOf]
    · have hc : wr.cell? ⟨w.heap.size, 10, none⟩ = some (.string ⟨#[97]⟩) := by rw [Lib.cell_of_heap hblk]; rfl
      cases hq : (l == [97]) with
      | true =>
        have hs : (s.toList == [97]) = true := by rw [HS.out]; exact hq
        have hfin : numZ l = 10 := by unfold numZ; rw [find_range (numAt l) 16 10 (by omega) (by unfold numAt; rw [show digs.getD 10 [] = [97] from rfl, hq]; rfl) HN.out]; rfl
        rw [HR.out] at hfin
        have HF := Lib.hid hfin; clear hfin hq
        clear HR HN
        go_wp2
        go_ret
        exact ⟨ret_int (by rw [HF.out]; rfl), hbw⟩
      | false =>
        cases hq2 : (l == [65]) with
        | true =>
          have hs : (s.toList == [97]) = false := by rw [HS.out]; exact hq
          have hs2 : (s.toList == [65]) = true := by rw [HS.out]; exact hq2
          have hfin : numZ l = 10 := by unfold numZ; rw [find_range (numAt l) 16 10 (by omega) (by unfold numAt; rw [show digs.getD 10 [] = [97] from rfl, show caps.getD (10 - 10) [] = [65] from rfl, hq, hq2]; rfl) HN.out]; rfl
          rw [HR.out] at hfin
          have HF := Lib.hid hfin; clear hfin hq hq2
          clear HR HN
          go_wp2
          go_ret
          exact ⟨ret_int (by rw [HF.out]; rfl), hbw.alloc hbw.size _⟩
        | false =>
          have hs : (s.toList == [97]) = false := by rw [HS.out]; exact hq
          have hs2 : (s.toList == [65]) = false := by rw [HS.out]; exact hq2
          have hno : numAt l 10 = false := by unfold numAt; rw [show digs.getD 10 [] = [97] from rfl, show caps.getD (10 - 10) [] = [65] from rfl, hq, hq2]; rfl
          have HN2 := Lib.hid hno; clear hno hq hq2
          go_wp2
          go_roundw
          case rel => exact ⟨11, rfl, by omega, fun j h => by rcases Nat.lt_or_eq_of_le (Nat.le_of_lt_succ h) with h | rfl; exact HN.out j h; exact HN2.out, hbw.alloc hbw.size _, (Below.heap_alloc _ _ _ hlt).trans hblk⟩
          case measure => simp [intOf]
    · have hc : wr.cell? ⟨w.heap.size, 11, none⟩ = some (.string ⟨#[98]⟩) := by rw [Lib.cell_of_heap hblk]; rfl
      cases hq : (l == [98]) with
      | true =>
        have hs : (s.toList == [98]) = true := by rw [HS.out]; exact hq
        have hfin : numZ l = 11 := by unfold numZ; rw [find_range (numAt l) 16 11 (by omega) (by unfold numAt; rw [show digs.getD 11 [] = [98] from rfl, hq]; rfl) HN.out]; rfl
        rw [HR.out] at hfin
        have HF := Lib.hid hfin; clear hfin hq
        clear HR HN
        go_wp2
        go_ret
        exact ⟨ret_int (by rw [HF.out]; rfl), hbw⟩
      | false =>
        cases hq2 : (l == [66]) with
        | true =>
          have hs : (s.toList == [98]) = false := by rw [HS.out]; exact hq
          have hs2 : (s.toList == [66]) = true := by rw [HS.out]; exact hq2
          have hfin : numZ l = 11 := by unfold numZ; rw [find_range (numAt l) 16 11 (by omega) (by unfold numAt; rw [show digs.getD 11 [] = [98] from rfl, show caps.getD (11 - 10) [] = [66] from rfl, hq, hq2]; rfl) HN.out]; rfl
          rw [HR.out] at hfin
          have HF := Lib.hid hfin; clear hfin hq hq2
          clear HR HN
          go_wp2
          go_ret
          exact ⟨ret_int (by rw [HF.out]; rfl), hbw.alloc hbw.size _⟩
        | false =>
          have hs : (s.toList == [98]) = false := by rw [HS.out]; exact hq
          have hs2 : (s.toList == [66]) = false := by rw [HS.out]; exact hq2
          have hno : numAt l 11 = false := by unfold numAt; rw [show digs.getD 11 [] = [98] from rfl, show caps.getD (11 - 10) [] = [66] from rfl, hq, hq2]; rfl
          have HN2 := Lib.hid hno; clear hno hq hq2
          go_wp2
          go_roundw
          case rel => exact ⟨12, rfl, by omega, fun j h => by rcases Nat.lt_or_eq_of_le (Nat.le_of_lt_succ h) with h | rfl; exact HN.out j h; exact HN2.out, hbw.alloc hbw.size _, (Below.heap_alloc _ _ _ hlt).trans hblk⟩
          case measure => simp [intOf]
    · have hc : wr.cell? ⟨w.heap.size, 12, none⟩ = some (.string ⟨#[99]⟩) := by rw [Lib.cell_of_heap hblk]; rfl
      cases hq : (l == [99]) with
      | true =>
        have hs : (s.toList == [99]) = true := by rw [HS.out]; exact hq
        have hfin : numZ l = 12 := by unfold numZ; rw [find_range (numAt l) 16 12 (by omega) (by unfold numAt; rw [show digs.getD 12 [] = [99] from rfl, hq]; rfl) HN.out]; rfl
        rw [HR.out] at hfin
        have HF := Lib.hid hfin; clear hfin hq
        clear HR HN
        go_wp2
        go_ret
        exact ⟨ret_int (by rw [HF.out]; rfl), hbw⟩
      | false =>
        cases hq2 : (l == [67]) with
        | true =>
          have hs : (s.toList == [99]) = false := by rw [HS.out]; exact hq
          have hs2 : (s.toList == [67]) = true := by rw [HS.out]; exact hq2
          have hfin : numZ l = 12 := by unfold numZ; rw [find_range (numAt l) 16 12 (by omega) (by unfold numAt; rw [show digs.getD 12 [] = [99] from rfl, show caps.getD (12 - 10) [] = [67] from rfl, hq, hq2]; rfl) HN.out]; rfl
          rw [HR.out] at hfin
          have HF := Lib.hid hfin; clear hfin hq hq2
          clear HR HN
          go_wp2
          go_ret
          exact ⟨ret_int (by rw [HF.out]; rfl), hbw.alloc hbw.size _⟩
        | false =>
          have hs : (s.toList == [99]) = false := by rw [HS.out]; exact hq
          have hs2 : (s.toList == [67]) = false := by rw [HS.out]; exact hq2
          have hno : numAt l 12 = false := by unfold numAt; rw [show digs.getD 12 [] = [99] from rfl, show caps.getD (12 - 10) [] = [67] from rfl, hq, hq2]; rfl
          have HN2 := Lib.hid hno; clear hno hq hq2
          go_wp2
          go_roundw
          case rel => exact ⟨13, rfl, by omega, fun j h => by rcases Nat.lt_or_eq_of_le (Nat.le_of_lt_succ h) with h | rfl; exact HN.out j h; exact HN2.out, hbw.alloc hbw.size _, (Below.heap_alloc _ _ _ hlt).trans hblk⟩
          case measure => simp [intOf]
    · have hc : wr.cell? ⟨w.heap.size, 13, none⟩ = some (.string ⟨#[100]⟩) := by rw [Lib.cell_of_heap hblk]; rfl
      cases hq : (l == [100]) with
      | true =>
        have hs : (s.toList == [100]) = true := by rw [HS.out]; exact hq
        have hfin : numZ l = 13 := by unfold numZ; rw [find_range (numAt l) 16 13 (by omega) (by unfold numAt; rw [show digs.getD 13 [] = [100] from rfl, hq]; rfl) HN.out]; rfl
        rw [HR.out] at hfin
        have HF := Lib.hid hfin; clear hfin hq
        clear HR HN
        go_wp2
        go_ret
        exact ⟨ret_int (by rw [HF.out]; rfl), hbw⟩
      | false =>
        cases hq2 : (l == [68]) with
        | true =>
          have hs : (s.toList == [100]) = false := by rw [HS.out]; exact hq
          have hs2 : (s.toList == [68]) = true := by rw [HS.out]; exact hq2
          have hfin : numZ l = 13 := by unfold numZ; rw [find_range (numAt l) 16 13 (by omega) (by unfold numAt; rw [show digs.getD 13 [] = [100] from rfl, show caps.getD (13 - 10) [] = [68] from rfl, hq, hq2]; rfl) HN.out]; rfl
          rw [HR.out] at hfin
          have HF := Lib.hid hfin; clear hfin hq hq2
          clear HR HN
          go_wp2
          go_ret
          exact ⟨ret_int (by rw [HF.out]; rfl), hbw.alloc hbw.size _⟩
        | false =>
          have hs : (s.toList == [100]) = false := by rw [HS.out]; exact hq
          have hs2 : (s.toList == [68]) = false := by rw [HS.out]; exact hq2
          have hno : numAt l 13 = false := by unfold numAt; rw [show digs.getD 13 [] = [100] from rfl, show caps.getD (13 - 10) [] = [68] from rfl, hq, hq2]; rfl
          have HN2 := Lib.hid hno; clear hno hq hq2
          go_wp2
          go_roundw
          case rel => exact ⟨14, rfl, by omega, fun j h => by rcases Nat.lt_or_eq_of_le (Nat.le_of_lt_succ h) with h | rfl; exact HN.out j h; exact HN2.out, hbw.alloc hbw.size _, (Below.heap_alloc _ _ _ hlt).trans hblk⟩
          case measure => simp [intOf]
    · have hc : wr.cell? ⟨w.heap.size, 14, none⟩ = some (.string ⟨#[101]⟩) := by rw [Lib.cell_of_heap hblk]; rfl
      cases hq : (l == [101]) with
      | true =>
        have hs : (s.toList == [101]) = true := by rw [HS.out]; exact hq
        have hfin : numZ l = 14 := by unfold numZ; rw [find_range (numAt l) 16 14 (by omega) (by unfold numAt; rw [show digs.getD 14 [] = [101] from rfl, hq]; rfl) HN.out]; rfl
        rw [HR.out] at hfin
        have HF := Lib.hid hfin; clear hfin hq
        clear HR HN
        go_wp2
        go_ret
        exact ⟨ret_int (by rw [HF.out]; rfl), hbw⟩
      | false =>
        cases hq2 : (l == [69]) with
        | true =>
          have hs : (s.toList == [101]) = false := by rw [HS.out]; exact hq
          have hs2 : (s.toList == [69]) = true := by rw [HS.out]; exact hq2
          have hfin : numZ l = 14 := by unfold numZ; rw [find_range (numAt l) 16 14 (by omega) (by unfold numAt; rw [show digs.getD 14 [] = [101] from rfl, show caps.getD (14 - 10) [] = [69] from rfl, hq, hq2]; rfl) HN.out]; rfl
          rw [HR.out] at hfin
          have HF := Lib.hid hfin; clear hfin hq hq2
          clear HR HN
          go_wp2
          go_ret
          exact ⟨ret_int (by rw [HF.out]; rfl), hbw.alloc hbw.size _⟩
        | false =>
          have hs : (s.toList == [101]) = false := by rw [HS.out]; exact hq
          have hs2 : (s.toList == [69]) = false := by rw [HS.out]; exact hq2
          have hno : numAt l 14 = false := by unfold numAt; rw [show digs.getD 14 [] = [101] from rfl, show caps.getD (14 - 10) [] = [69] from rfl, hq, hq2]; rfl
          have HN2 := Lib.hid hno; clear hno hq hq2
          go_wp2
          go_roundw
          case rel => exact ⟨15, rfl, by omega, fun j h => by rcases Nat.lt_or_eq_of_le (Nat.le_of_lt_succ h) with h | rfl; exact HN.out j h; exact HN2.out, hbw.alloc hbw.size _, (Below.heap_alloc _ _ _ hlt).trans hblk⟩
          case measure => simp [intOf]
    · have hc : wr.cell? ⟨w.heap.size, 15, none⟩ = some (.string ⟨#[102]⟩) := by rw [Lib.cell_of_heap hblk]; rfl
      cases hq : (l == [102]) with
      | true =>
        have hs : (s.toList == [102]) = true := by rw [HS.out]; exact hq
        have hfin : numZ l = 15 := by unfold numZ; rw [find_range (numAt l) 16 15 (by omega) (by unfold numAt; rw [show digs.getD 15 [] = [102] from rfl, hq]; rfl) HN.out]; rfl
        rw [HR.out] at hfin
        have HF := Lib.hid hfin; clear hfin hq
        clear HR HN
        go_wp2
        go_ret
        exact ⟨ret_int (by rw [HF.out]; rfl), hbw⟩
      | false =>
        cases hq2 : (l == [70]) with
        | true =>
          have hs : (s.toList == [102]) = false := by rw [HS.out]; exact hq
          have hs2 : (s.toList == [70]) = true := by rw [HS.out]; exact hq2
          have hfin : numZ l = 15 := by unfold numZ; rw [find_range (numAt l) 16 15 (by omega) (by unfold numAt; rw [show digs.getD 15 [] = [102] from rfl, show caps.getD (15 - 10) [] = [70] from rfl, hq, hq2]; rfl) HN.out]; rfl
          rw [HR.out] at hfin
          have HF := Lib.hid hfin; clear hfin hq hq2
          clear HR HN
          go_wp2
          go_ret
          exact ⟨ret_int (by rw [HF.out]; rfl), hbw.alloc hbw.size _⟩
        | false =>
          have hs : (s.toList == [102]) = false := by rw [HS.out]; exact hq
          have hs2 : (s.toList == [70]) = false := by rw [HS.out]; exact hq2
          have hno : numAt l 15 = false := by unfold numAt; rw [show digs.getD 15 [] = [102] from rfl, show caps.getD (15 - 10) [] = [70] from rfl, hq, hq2]; rfl
          have HN2 := Lib.hid hno; clear hno hq hq2
          go_wp2
          go_roundw
          case rel => exact ⟨16, rfl, by omega, fun j h => by rcases Nat.lt_or_eq_of_le (Nat.le_of_lt_succ h) with h | rfl; exact HN.out j h; exact HN2.out, hbw.alloc hbw.size _, (Below.heap_alloc _ _ _ hlt).trans hblk⟩
          case measure => simp [intOf]
    · have hfin : numZ l = -1 := by
        unfold numZ
        rw [List.find?_eq_none.2 (fun j hj => by rw [HN.out j (List.mem_range.1 hj)]; simp)]
      rw [HR.out] at hfin
      have HF := Lib.hid hfin; clear hfin
      clear HR HN
      go_wp2
      go_ret
      exact ⟨ret_int (by rw [HF.out]), hbw⟩
end Go.Proofs.YtaijjabbkmdcdaaDoor
