/- The walk of TextDecodes: it returns true. -/
import Derived.Test.YtaijjabbkmdcdaaDoorThead
namespace Go.Proofs.YtaijjabbkmdcdaaDoor
open Go.RowKit
set_option linter.unusedVariables false
set_option linter.unusedSimpArgs false

/-- A slice of bytes that reads as s. -/
def Bts (s : ByteArray) (A : Option Addr) (w : World) : Prop := (A = none → s.size = 0) ∧ (0 < s.size → ∃ b off, A = some ⟨b, off, none⟩ ∧ b < w.heap.size ∧ BytesAt s b off w)
theorem Bts.below {s : ByteArray} {A : Option Addr} {w w' : World} (h : Bts s A w) (hb : Below w.heap.size w w') : Bts s A w' :=
  ⟨h.1, fun h0 => by
    obtain ⟨b, off, e, hlt, hB⟩ := h.2 h0
    exact ⟨b, off, e, Nat.lt_of_lt_of_le hlt hb.size, hB.below hb⟩⟩
theorem Bts.at_ {s : ByteArray} {A : Option Addr} {w : World} (h : Bts s A w) : 0 < s.size → ∃ b off, A = some ⟨b, off, none⟩ ∧ BytesAt s b off w := fun h0 => by
  obtain ⟨b, off, e, _, hB⟩ := h.2 h0
  exact ⟨b, off, e, hB⟩
/-- string(b). -/
theorem Bts.str {s : ByteArray} {A : Option Addr} {w : World} (h : Bts s A w) (cap : Nat) : (convert 22 9 (.slice A s.size cap)).run Tryd.prog w = .ok (.string s) w := by
  have hlen : s.data.toList.length = s.size := (Lib.size_eq s).symm
  rcases Nat.eq_zero_or_pos s.size with h0 | h0
  · have hs : s = ByteArray.empty := by
      apply ByteArray.ext
      apply Array.toList_inj.1
      rw [List.eq_nil_of_length_eq_zero (l := s.data.toList) (by omega)]; rfl
    rw [h0]
    cases A with
    | none => rw [run_convert_bytes_nil w 22 5 Tryd.underlying22 Tryd.underlying5 0 cap 9 Tryd.underlying9, hs]
    | some a =>
      have hl : (loadCells a 0).run Tryd.prog w = .ok (([] : List Int).map (Value.int .u8)).toArray w := by
        have := run_loadCells_list (P := Tryd.prog) w a [] (fun j v hj => by simp at hj)
        simpa using this
      rw [run_convert_bytes_string w 22 9 5 _ 0 cap Tryd.underlying22 Tryd.underlying5 Tryd.underlying9, run_bytesToString w _ 0 cap [] hl, hs]
      rfl
  · obtain ⟨b, off, rfl, _, hB⟩ := h.2 h0
    rw [run_convert_bytes_arg (P := Tryd.prog) w 22 5 Tryd.underlying22 Tryd.underlying5 b off s.size cap (s.data.toList.map fun b => (b.toNat : Int)) (by simp [hlen]) (fun i hi => by
      rw [hB i hi, ← Lib.getD_get!']
      simp [List.getD, List.getElem?_eq_getElem (show i < s.data.toList.length by omega)]) 9 Tryd.underlying9, strOfNums_bytes, mk_list]

set_option maxRecDepth 100000 in
set_option maxHeartbeats 4000000 in
theorem decodes_walk (s : ByteArray) (A : Option Addr) (cap : Nat) (w : World) (hm : s.size ≤ 9223372036854775807) (hcap : s.size ≤ cap) (hB : Bts s A w) (hT : Tabs w) :
    Calls Tryd.prog 3 #[.slice A s.size cap] w fun e w' => e = .returned (.bool true) ∧ Below w.heap.size w w' := by
  have hlen : s.data.toList.length = s.size := (Lib.size_eq s).symm
  have cH := head_any w hT
  by_cases h300 : s.size > 300
  · have hz : (s.size : Int) > 300 := by omega
    clear hB
    go_enter Tryd.func3, Tryd.ntmps3
    go_wp2_with (go_at_call 8; refine cH.mono ?_; rintro e W1 ⟨rfl, b1⟩)
    go_ret
    exact ⟨rfl, b1⟩
  · have hz : ¬ (s.size : Int) > 300 := by omega
    have hcv : ∀ W, Below w.heap.size w W → (convert 22 9 (.slice A s.size cap)).run Tryd.prog W = .ok (.string s) W := fun W hb => (hB.below hb).str cap
    have hdl := Tx.dec_len s.data.toList.length s.data.toList (Nat.le_refl _)
    obtain ⟨D, hD⟩ : ∃ D, Tx.dec s.data.toList = D := ⟨_, rfl⟩
    rw [hD] at hdl
    go_enter Tryd.func3, Tryd.ntmps3
    go_wp2_with (go_at_call 8; refine cH.mono ?_; rintro e W1 ⟨rfl, b1⟩; have hcv1 := hcv W1 b1)
    have HD := Lib.hid hD; clear hD
    have HB := Lib.hid hB; clear hB hcv1 hcv cH
    go_loopg [3, 4] s.size (fun gk sa ss wx => ∃ (a t : ByteArray), sa = .string a ∧ ss = .string t ∧ Below w.heap.size w wx ∧ a.data.toList ++ Tx.dec t.data.toList = D ∧ t.size ≤ gk ∧ t.size ≤ 300)
    case atStart => exact ⟨_, s, rfl, rfl, b1, HD.out, by omega, by omega⟩
    case round =>
      obtain ⟨a, t, rfl, rfl, hbw, hacc, hfu, ht3⟩ := hrel
      have has : a.size ≤ 1200 := by
        have h1 := congrArg List.length hacc
        rw [List.length_append, ← Lib.size_eq] at h1
        omega
      by_cases ht : 0 < t.size
      · have htz : (0 : Int) < (t.size : Int) := by omega
        have hne : t.data.toList ≠ [] := fun h => by
          have : t.size = 0 := by rw [Lib.size_eq, h]; rfl
          omega
        have cD := Tryd.utf8_DecodeRuneInString t wr (Utf8Tabs_below hT hbw)
        obtain ⟨f, rfl⟩ : ∃ f, gk = f + 1 := ⟨gk - 1, by omega⟩
        rw [decodeGo_L t ht] at cD
        have hstep := Tx.dec_step t.data.toList hne
        have hpp := Tx.part_piece t.data.toList hne
        have hpe := Tx.part_enc t.data.toList hne
        have hok := Tx.decode_ok t.data.toList hne
        have hwd := Lib.decodeL_width t.data.toList
        have hr1 := Lib.decodeL_rune t.data.toList
        have hk2 := Lib.decodeL_le t.data.toList hne
        rw [← Lib.size_eq] at hk2
        rw [hstep, ← hpp] at hacc
        have hpart : Tx.part t.data.toList = if (Lib.decodeL t.data.toList).1 = 65533 ∧ (Lib.decodeL t.data.toList).2 = 1 then [239, 191, 189] else t.data.toList.take (Lib.decodeL t.data.toList).2 := rfl
        obtain ⟨P, hP⟩ : ∃ P, Tx.part t.data.toList = P := ⟨_, rfl⟩
        rw [hP] at hpart hacc hpe
        obtain ⟨Q, hQ⟩ : ∃ Q, (Lib.decodeL t.data.toList).1 = Q := ⟨_, rfl⟩
        obtain ⟨K, hK⟩ : ∃ K, (Lib.decodeL t.data.toList).2 = K := ⟨_, rfl⟩
        rw [hQ, hK] at cD hpart
        rw [hQ] at hr1 hok hpe
        rw [hK] at hwd hk2 hacc
        clear hstep hpp hQ hK hP hne
        have hEx := Lib.hid (Lib.extract_data t 0 K)
        by_cases hbad : Q = 65533 ∧ K = 1
        · rw [if_pos hbad] at hpart
          obtain ⟨rfl, rfl⟩ := hbad
          subst hpart
          rw [if_neg (by decide)] at hacc
          have HA := Lib.hid hacc; clear hacc hpe
          have hsz1 : 1 ≤ t.size := hk2
          go_wp2_with (go_at_call 9; refine cD.mono ?_; rintro e W2 ⟨rfl, b2⟩)
          go_roundg f
          case measure => omega
          case rel => exact ⟨_, _, rfl, rfl, hbw.trans (b2.mono hbw.size), by rw [ByteArray.data_append, Array.toList_append, Lib.extract_to_end, List.append_assoc]; exact HA.out, by rw [Lib.tail_size]; omega, by rw [Lib.tail_size]; omega⟩
        · rw [if_neg hbad] at hpart
          have hx := hEx.out
          simp only [List.drop_zero, Nat.sub_zero] at hx
          rw [← hpart] at hx
          have hsz1 : K ≤ t.size := hk2
          have hone := Tx.enc_one hok (c := 13) (by decide)
          have hsz2 : (K : Int) ≤ (t.size : Int) := by omega
          by_cases h13 : Q = 13
          · subst h13
            have hP13 : P = [13] := by rw [hpe]; exact hone.2 rfl
            subst hP13
            rw [if_pos rfl, List.nil_append] at hacc
            have hbe : ((t.extract 0 K).toList == [13]) = true := by rw [Lib.toList_data, hx]; rfl
            have HA := Lib.hid hacc; clear hacc hpe hpart hone hx hbad hEx
            go_wp2_with (go_at_call 9; refine cD.mono ?_; rintro e W2 ⟨rfl, b2⟩)
            go_roundg f
            case measure => omega
            case rel => exact ⟨_, _, rfl, rfl, hbw.trans (b2.mono hbw.size), by rw [Lib.extract_to_end]; exact HA.out, by rw [Lib.tail_size]; omega, by rw [Lib.tail_size]; omega⟩
          · have hP13 : P ≠ [13] := fun h => h13 (hone.1 (by rw [← hpe]; exact h))
            rw [if_neg hP13] at hacc
            have hbe : ((t.extract 0 K).toList == [13]) = false := by rw [Lib.toList_data, hx]; simpa using hP13
            have HA := Lib.hid hacc; clear hacc hpe hpart hone hP13
            have HX := Lib.hid hx; clear hx hEx
            by_cases hQ : Q = 65533
            · subst hQ
              have hK1 : ((K : Int) == 1) = false := by simp; omega
              clear hbad
              go_wp2_with (go_at_call 9; refine cD.mono ?_; rintro e W2 ⟨rfl, b2⟩)
              go_roundg f
              case measure => omega
              case rel => exact ⟨_, _, rfl, rfl, hbw.trans (b2.mono hbw.size), by rw [ByteArray.data_append, Array.toList_append, Lib.extract_to_end, List.append_assoc, HX.out]; exact HA.out, by rw [Lib.tail_size]; omega, by rw [Lib.tail_size]; omega⟩
            · have hQz : ((Q : Int) == 65533) = false := by simp; omega
              clear hbad
              go_wp2_with (go_at_call 9; refine cD.mono ?_; rintro e W2 ⟨rfl, b2⟩)
              go_roundg f
              case measure => omega
              case rel => exact ⟨_, _, rfl, rfl, hbw.trans (b2.mono hbw.size), by rw [ByteArray.data_append, Array.toList_append, Lib.extract_to_end, List.append_assoc, HX.out]; exact HA.out, by rw [Lib.tail_size]; omega, by rw [Lib.tail_size]; omega⟩
      · have htz : ¬ (0 : Int) < (t.size : Int) := by omega
        have hnil : t.data.toList = [] := List.eq_nil_of_length_eq_zero (by rw [← Lib.size_eq]; omega)
        rw [hnil, Tx.dec_nil, List.append_nil] at hacc
        have ha : a = ⟨D.toArray⟩ := by
          apply ByteArray.ext
          apply Array.toList_inj.1
          simpa using hacc
        subst ha
        have cDec := decode_any s A cap wr (by omega) hcap ((HB.out.below hbw).at_) (Utf8Tabs_below hT hbw)
        rw [HD.out] at cDec
        clear hacc hnil
        go_wp2_with (go_at_call 10; refine cDec.mono ?_; rintro e W2 ⟨rfl, b2⟩)
        go_ret
        exact ⟨rfl, hbw.trans (b2.mono hbw.size)⟩
end Go.Proofs.YtaijjabbkmdcdaaDoor
