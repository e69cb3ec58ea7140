/- The walk of text.Decode. -/
import Derived.Test.YtaijjabbkmdcdaaDoorTcode
import Derived.Shelf.Spec.BytesMap
namespace Go.Proofs.YtaijjabbkmdcdaaDoor
open Go.RowKit
set_option linter.unusedVariables false
set_option linter.unusedSimpArgs false

/-- The two tables of unicode/utf8 hold what their initialisers lay. -/
abbrev Tabs (w : World) : Prop := Lib.Utf8Tabs 0 1 w

theorem strOfNums_bytes (l : List UInt8) : strOfNums (l.map fun b => (b.toNat : Int)) = ⟨l.toArray⟩ := by
  unfold strOfNums
  congr 1
  rw [List.map_map]
  congr 1
  conv => rhs; rw [← List.map_id l]
  apply List.map_congr_left
  intro b _
  simp

/-- string(out), out a slice of bytes of the call's own. -/
theorem convert_own {w : World} {B : Nat} {v : Value} {l : List UInt8} (h : w.ownsRow B 5 1 v l.length (Lib.byteCells l)) :
    (convert 22 9 v).run Tryd.prog w = .ok (.string ⟨l.toArray⟩) w := by
  rcases h.2 with ⟨rfl, h0⟩ | ⟨g, cap, cur, rfl, _⟩
  · obtain rfl : l = [] := List.eq_nil_of_length_eq_zero h0
    exact run_convert_bytes_nil w 22 5 Tryd.underlying22 Tryd.underlying5 0 0 9 Tryd.underlying9
  · have hc := h.cells (g := g) rfl
    have := run_convert_bytes_arg (P := Tryd.prog) w 22 5 Tryd.underlying22 Tryd.underlying5 g 0 l.length cap (l.map fun b => (b.toNat : Int)) (by simp) (fun i hi => by
      have := hc i (.int .u8 (l[i]).toNat) (by simp [Lib.byteCells, hi])
      rw [Go.WideShapes.add_plain] at this
      rw [this]
      simp [List.getD, hi]) 9 Tryd.underlying9
    rw [this, strOfNums_bytes]

theorem ne_drop {l : List UInt8} {i : Nat} (h : i < l.length) : l.drop i ≠ [] := fun h' => by
  have := congrArg List.length h'
  rw [List.length_drop] at this
  simp at this
  omega

set_option maxRecDepth 100000 in
set_option maxHeartbeats 1000000 in
theorem decode_any (s : ByteArray) (A : Option Addr) (cap : Nat) (w : World) (hs : s.size < 35184372088832) (hcap : s.size ≤ cap)
    (hA : 0 < s.size → ∃ b off, A = some ⟨b, off, none⟩ ∧ BytesAt s b off w) (hT : Tabs w) :
    Calls Tryd.prog 10 #[.slice A s.size cap] w fun e w' => e = .returned (.string ⟨(Tx.dec s.data.toList).toArray⟩) ∧ Below w.heap.size w w' := by
  have hlen : s.data.toList.length = s.size := (Lib.size_eq s).symm
  obtain ⟨D, hD⟩ : ∃ D, Tx.dec s.data.toList = D := ⟨_, rfl⟩
  rw [hD]
  go_enter Tryd.func10, Tryd.ntmps10
  go_wp2
  go_loopw [3, 4] (fun so si wx => ∃ (i : Nat) (out : List UInt8), si = .int .i64 i ∧ i ≤ s.size ∧ wx.ownsRow w.heap.size 5 1 so out.length (Lib.byteCells out) ∧ Below w.heap.size w wx ∧
    out ++ Tx.dec (s.data.toList.drop i) = D ∧ out.length ≤ 4 * i) (fun _ i _ => s.size - (intOf i).toNat)
  case atStart => exact ⟨0, [], rfl, Nat.zero_le _, World.ownsRow_nil _ _ _ _, Below.refl _ _, by simpa using hD, by simp⟩
  case round =>
    obtain ⟨i, out, rfl, hi, hown, hbw, hleft, hol⟩ := hrel
    by_cases his : i < s.size
    · obtain ⟨b, off, rfl, hB⟩ := hA (by omega)
      have hiz : (i : Int) < (s.size : Int) := by omega
      have hic : (cap = i) = False := by simp; omega
      have cD := Any7.utf8_DecodeRune Tryd.lays7x32 (s.extract i s.size) b (off + i) (cap - i) wr (Utf8Tabs_below hT hbw) ((hB.below hbw).tail i)
      have hk2 := Lib.decodeGo_le_size (s.extract i s.size)
      rw [Lib.tail_size] at cD hk2
      rw [decodeGo_tail s i his] at cD hk2
      have hwd := Lib.width_pos s i
      have hr1 := Lib.rune_le s i
      have hstep := Tx.dec_step (s.data.toList.drop i) (ne_drop (by omega))
      rw [Lib.decodeL_drop, List.drop_drop] at hstep
      rw [hstep] at hleft
      clear hstep
      obtain ⟨R, hR⟩ : ∃ R, (Utf8.decode s i).1 = R := ⟨_, rfl⟩
      obtain ⟨K, hK⟩ : ∃ K, (Utf8.decode s i).2 = K := ⟨_, rfl⟩
      rw [hR, hK] at cD hleft
      rw [hK] at hwd hk2
      rw [hR] at hr1
      clear hR hK
      have HL := Lib.hid hleft; clear hleft
      have HD := Lib.hid hD; clear hD
      clear hA hB hT
      by_cases h13 : R = 13
      · subst h13
        have HP : Hid (Tx.piece 13 = []) := Lib.hid (by decide)
        go_wp2_with (go_at_call 18; refine cD.mono ?_; rintro e W1 ⟨rfl, hb1⟩)
        go_roundw
        case rel => exact ⟨i + K, out, by go_num, by omega, ownsRow_below hown hb1, hbw.trans (hb1.mono hbw.size), by have := HL.out; rw [HP.out, List.nil_append] at this; exact this, by omega⟩
        case measure => simp [intOf]; omega
      · have hp := Tx.enc_len (R : Int)
        have HP : Hid (Tx.piece R = Lib.encodeRune (R : Int)) := Lib.hid (by unfold Tx.piece; rw [if_neg h13])
        have hne : ((R : Int) == 13) = false := by simp; omega
        have hne2 : ((R : Int) != 13) = true := by simp; omega
        go_wp2_with (first
          | (go_at_call 18; refine cD.mono ?_; rintro e W1 ⟨rfl, hb1⟩; have hown1 := ownsRow_below hown hb1; have hbW1 : Below w.heap.size w W1 := hbw.trans (hb1.mono hbw.size))
          | (go_at_call 19; refine (Tryd.utf8_AppendRune_plain w.heap.size _ _ _ (R : Int) (by omega) (by omega) _ hown1 (by omega) hbW1.size).mono ?_; rintro e W3 ⟨v', rfl, hown3, o, hg3⟩))
        go_roundw
        case rel =>
          refine ⟨i + K, out ++ Lib.encodeRune (R : Int), by go_num, by omega, ?_, ?_, by have := HL.out; rw [HP.out] at this; rw [List.append_assoc]; exact this, by rw [List.length_append]; omega⟩
          · rw [List.length_append, Lib.byteCells_append, Lib.byteCells_encodeRune, ← Lib.runeCells_length]
            exact hown3
          · exact (hbW1.alloc hbW1.size o).grown hg3 (by have := hbW1.size; simp; omega) (fun k hk => (hown1.lt k hk).1)
        case measure => simp [intOf]; omega
    · have hiz : ¬ (i : Int) < (s.size : Int) := by omega
      have hdn : s.data.toList.drop i = [] := List.drop_eq_nil_of_le (by omega)
      rw [hdn, Tx.dec_nil, List.append_nil] at hleft
      subst hleft
      clear hdn hA hT
      have HD := Lib.hid hD; clear hD
      have hcv := convert_own hown
      go_wp2
      go_ret
      exact ⟨rfl, hbw⟩
end Go.Proofs.YtaijjabbkmdcdaaDoor
