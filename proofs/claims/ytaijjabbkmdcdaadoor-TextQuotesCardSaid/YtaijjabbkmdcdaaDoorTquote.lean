/- The walk of text.Quote. -/
import Derived.Test.YtaijjabbkmdcdaaDoorTdig
namespace Go.Proofs.YtaijjabbkmdcdaaDoor
open Go.RowKit
set_option linter.unusedVariables false
set_option linter.unusedSimpArgs false

def qPiece (r : Nat) : List UInt8 := if r = 34 ∨ r = 92 then [92] ++ Lib.encodeRune (r : Int) else if r < 32 ∨ r = 127 then [92, 117] ++ dig4 r else Lib.encodeRune (r : Int)
def qF : Nat → List UInt8 → List UInt8
  | 0, _ => []
  | n + 1, l => if l = [] then [] else qPiece (Lib.decodeL l).1 ++ qF n (l.drop (Lib.decodeL l).2)
def quoteL (l : List UInt8) : List UInt8 := [34] ++ qF l.length l ++ [34]

theorem strCells_mk (l : List UInt8) : Lib.strCells ⟨l.toArray⟩ = Lib.byteCells l := by rw [Lib.strCells_eq]

theorem esc_cells (d : List UInt8) : Lib.strCells (⟨#[92, 117]⟩ ++ ⟨d.toArray⟩) = Lib.byteCells ([92, 117] ++ d) := by
  rw [Lib.strCells_eq, ByteArray.data_append]; simp
theorem esc_size (Q : Nat) : ((⟨#[92, 117]⟩ : ByteArray) ++ ⟨(dig4 Q).toArray⟩).size = 6 := by
  rw [Lib.size_eq, ByteArray.data_append]; rfl

set_option maxRecDepth 100000 in
set_option maxHeartbeats 4000000 in
theorem quote_any (s : ByteArray) (w : World) (hs : s.size < 1099511627776) :
    Calls Tryd.prog 14 #[.string s] w fun e w' => e = .returned (.string ⟨(quoteL s.data.toList).toArray⟩) ∧ Below w.heap.size w w' := by
  have hlen : s.data.toList.length = s.size := (Lib.size_eq s).symm
  have hfresh := BF_fresh w
  obtain ⟨R, hR⟩ : ∃ R, quoteL s.data.toList = R := ⟨_, rfl⟩
  rw [hR]
  have HR := Lib.hid hR; clear hR
  go_enter Tryd.func14, Tryd.ntmps14
  go_wp2_with (go_at_call 22; refine (writeByte_any w.heap.size w.heap.size _ 34 _ hfresh (by simp [Lib.byteCells]) (by simp)).mono ?_)
  rintro e w1 ⟨rfl, hBU1, hb1, _⟩
  have hbw1 : Below w.heap.size w w1 := ((Below.refl _ _).alloc (Nat.le_refl _) _).trans hb1
  have hlt1 := Lib.BuilderAtF.lt hBU1
  have hBF1 : BF w.heap.size w.heap.size (Lib.byteCells [34]) w1 := BU.bf hBU1
  clear hBU1 hfresh hb1
  go_wp2
  obtain ⟨k, hk⟩ : ∃ k, w1.heap.size = k := ⟨_, rfl⟩
  have hk1 : w.heap.size < k := by omega
  have hit1 : (w1.iter s 0).heap[k]? = some (.stringIter s 0) := by rw [← hk]; exact World.iter_heap w1 s 0
  have hBF1' : BF w.heap.size w.heap.size (Lib.byteCells [34]) (w1.iter s 0) := Lib.IsBuilderF.alloc hBF1 _
  have hbw1' : Below w.heap.size w (w1.iter s 0) := hbw1.alloc hbw1.size _
  rw [hk]
  have HK := Lib.hid hk; clear hk
  go_loopg [] s.size (fun gk wx => ∃ (pos : Nat) (acc : List UInt8), BF w.heap.size w.heap.size (Lib.byteCells acc) wx ∧ wx.heap[k]? = some (.stringIter s pos) ∧ Below w.heap.size w wx ∧
    acc ++ qF gk (s.data.toList.drop pos) ++ [34] = R ∧ s.size ≤ pos + gk ∧ acc.length ≤ 8 * pos + 1 ∧ pos ≤ s.size)
  case atStart => exact ⟨0, [34], hBF1', hit1, hbw1', by rw [← HR.out, ← hlen]; rfl, by omega, by simp, by omega⟩
  case round =>
    obtain ⟨pos, acc, hI, hit, hbw, hacc, hfu, hal, hpos⟩ := hrel
    clear hBF1 hBF1' hit1 hbw1 hbw1' HR
    have hsz : k < wr.heap.size := (Array.getElem?_eq_some_iff.1 hit).1
    by_cases hp : pos < s.size
    · have hnx : ∀ ty, (Instr.next (.pointer (some ⟨k, 0, none⟩)) true ty).run Tryd.prog wr = _ := fun ty => Lib.run_next_any_at wr k s pos ty hit hp
      have hwd := Lib.width_pos s pos
      have hd1 := Lib.rune_le s pos
      have hk2 := Lib.decodeGo_le_size (s.extract pos s.size)
      rw [Lib.tail_size, decodeGo_tail s pos hp] at hk2
      have hI2 := hI.iterAt hit (pos + (Utf8.decode s pos).2)
      have hit2 := Lib.iterAt_heap wr k s pos (pos + (Utf8.decode s pos).2) hit
      have hbw2 := Lib.below_iterAt hbw (k := k) (by omega) s (pos + (Utf8.decode s pos).2)
      have hsz2 : w.heap.size ≤ (wr.iterAt k s (pos + (Utf8.decode s pos).2)).heap.size := by rw [Lib.iterAt_size]; omega
      obtain ⟨f, rfl⟩ : ∃ f, gk = f + 1 := ⟨gk - 1, by omega⟩
      unfold qF at hacc
      rw [if_neg (ne_drop (by omega)), Lib.decodeL_drop, List.drop_drop] at hacc
      obtain ⟨Q, hQ⟩ : ∃ Q, (Utf8.decode s pos).1 = Q := ⟨_, rfl⟩
      obtain ⟨K, hK⟩ : ∃ K, (Utf8.decode s pos).2 = K := ⟨_, rfl⟩
      rw [hQ, hK] at hacc
      rw [hK] at hwd hk2 hI2 hit2 hbw2 hsz2
      rw [hQ] at hd1
      rw [hQ, hK] at hnx
      clear hQ hK
      have hel := Tx.enc_len (Q : Int)
      have hrc := Lib.runeCells_length (Q : Int)
      unfold qPiece at hacc
      by_cases hq : Q = 34 ∨ Q = 92
      · rw [if_pos hq] at hacc
        have HA := Lib.hid hacc; clear hacc
        have HC := Lib.hid hrc; clear hrc
        rcases hq with rfl | rfl
        all_goals
          go_wp2_with (first
            | (go_at_call 22; refine (writeByte_any w.heap.size w.heap.size _ 92 _ hI2 (by rw [Lib.byteCells_length]; omega) hsz2).mono ?_; rintro e W1 ⟨rfl, h1, b1, k1⟩; have hbW1 := hbw2.trans b1; have hsW1 := hbW1.size)
            | (go_at_call 21; refine (writeRune_any w.heap.size w.heap.size _ _ (by omega) (by omega) _ h1.bf (by rw [List.length_append, Lib.byteCells_length]; simp; omega) hsW1).mono ?_; rintro e W2 ⟨rfl, h2, b2, k2⟩))
          go_roundg f
          case measure => omega
          case rel =>
            refine ⟨pos + K, acc ++ ([92] ++ Lib.encodeRune _), ?_, k2.iter (k1.iter hit2 (by omega)) (by omega), hbW1.trans b2, by simpa using HA.out, by omega, by have e1 := Tx.enc_len 34; have e2 := Tx.enc_len 92; simp only [List.length_append, List.length_cons, List.length_nil]; omega, by omega⟩
            rw [Lib.byteCells_append, Lib.byteCells_append, Lib.byteCells_encodeRune, ← List.append_assoc]
            exact h2.bf
      rw [if_neg hq] at hacc
      have hq34 : ((Q : Int) == 34) = false := by simp; omega
      have hq92 : ((Q : Int) == 92) = false := by simp; omega
      by_cases hc : Q < 32 ∨ Q = 127
      · rw [if_pos hc] at hacc
        have HA := Lib.hid hacc; clear hacc
        have HC := Lib.hid hrc; clear hrc
        have cDg := fun w => digits_any Q (by omega) w
        have HL4 : Hid ((dig4 Q).length = 4) := Lib.hid rfl
        clear hq
        by_cases h32 : Q < 32
        · have h32z : (Q : Int) < 32 := by omega
          go_wp2_with (first
            | (go_at_call 26; refine (cDg _).mono ?_; rintro e W1 ⟨rfl, b1⟩; have hbW1 := hbw2.trans (b1.mono hsz2); have hI3 := BF_below hI2 b1; have hit3 := (b1.block k (by rw [Lib.iterAt_size]; exact hsz)).trans hit2; have hsW1 := hbW1.size)
            | (go_at_call 25; refine (writeString_any w.heap.size w.heap.size _ _ _ hI3 (by rw [esc_size, Lib.byteCells_length]; omega) hsW1).mono ?_; rintro e W2 ⟨rfl, h2, b2, k2⟩))
          go_roundg f
          case measure => omega
          case rel =>
            refine ⟨pos + K, acc ++ ([92, 117] ++ dig4 Q), ?_, k2.iter hit3 (by omega), hbW1.trans b2, by simpa using HA.out, by omega, by have e1 := HL4.out; simp only [List.length_append, List.length_cons, List.length_nil]; omega, by omega⟩
            rw [Lib.byteCells_append, ← esc_cells]
            exact h2.bf
        · obtain rfl : Q = 127 := by omega
          clear h32 hc
          go_wp2_with (first
            | (go_at_call 26; refine (cDg _).mono ?_; rintro e W1 ⟨rfl, b1⟩; have hbW1 := hbw2.trans (b1.mono hsz2); have hI3 := BF_below hI2 b1; have hit3 := (b1.block k (by rw [Lib.iterAt_size]; exact hsz)).trans hit2; have hsW1 := hbW1.size)
            | (go_at_call 25; refine (writeString_any w.heap.size w.heap.size _ _ _ hI3 (by rw [esc_size, Lib.byteCells_length]; omega) hsW1).mono ?_; rintro e W2 ⟨rfl, h2, b2, k2⟩))
          go_roundg f
          case measure => omega
          case rel =>
            refine ⟨pos + K, acc ++ ([92, 117] ++ dig4 127), ?_, k2.iter hit3 (by omega), hbW1.trans b2, by simpa using HA.out, by omega, by have e1 := HL4.out; simp only [List.length_append, List.length_cons, List.length_nil]; omega, by omega⟩
            rw [Lib.byteCells_append, ← esc_cells]
            exact h2.bf
      · rw [if_neg hc] at hacc
        have HA := Lib.hid hacc; clear hacc
        have HC := Lib.hid hrc; clear hrc
        have h32z : ¬ (Q : Int) < 32 := by omega
        have h127 : ((Q : Int) == 127) = false := by simp; omega
        clear hq hc
        go_wp2_with (go_at_call 21; refine (writeRune_any w.heap.size w.heap.size _ (Q : Int) (by omega) (by omega) _ hI2 (by rw [Lib.byteCells_length]; omega) hsz2).mono ?_; rintro e W2 ⟨rfl, h2, b2, k2⟩)
        go_roundg f
        case measure => omega
        case rel =>
          refine ⟨pos + K, acc ++ Lib.encodeRune (Q : Int), ?_, k2.iter hit2 (by omega), hbw2.trans b2, by simpa using HA.out, by omega, by simp only [List.length_append]; omega, by omega⟩
          rw [Lib.byteCells_append, Lib.byteCells_encodeRune]
          exact h2.bf
    · have hnx : ∀ ty, (Instr.next (.pointer (some ⟨k, 0, none⟩)) true ty).run Tryd.prog wr = _ := fun ty => Lib.run_next_end_at wr k s pos ty hit hp
      have hfin : acc ++ [34] = R := by
        rw [List.drop_eq_nil_of_le (by omega)] at hacc
        rw [← hacc]
        cases gk <;> simp [qF]
      have HF := Lib.hid hfin; clear hfin hacc
      have hsz0 := hbw.size
      go_wp2_with (first
        | (go_at_call 22; refine (writeByte_any w.heap.size w.heap.size _ 34 _ hI (by rw [Lib.byteCells_length]; omega) hsz0).mono ?_; rintro e W1 ⟨rfl, h1, b1, k1⟩; have hbW1 := hbw.trans b1; have hsW1 := hbW1.size)
        | (go_at_call 20; refine (Tryd.Builder_String_any_k w.heap.size w.heap.size (acc ++ [34]) _ (by rw [Lib.byteCells_append]; exact h1.bf) hsW1).mono ?_; rintro e W2 ⟨rfl, _, b2, _⟩))
      go_ret
      rw [HF.out]
      exact ⟨rfl, hbW1.trans b2⟩
end Go.Proofs.YtaijjabbkmdcdaaDoor
