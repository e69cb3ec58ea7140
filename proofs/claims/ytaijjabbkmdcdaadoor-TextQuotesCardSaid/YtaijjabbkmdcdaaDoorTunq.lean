/- The walk of text.Unquote. -/
import Derived.Test.YtaijjabbkmdcdaaDoorTdecode
import Derived.Deep.QuietTactic
import Derived.BigQuiet
import Derived.Deep.RegionWith
namespace Go.Proofs.YtaijjabbkmdcdaaDoor
open Go.RowKit
set_option linter.unusedVariables false
set_option linter.unusedSimpArgs false

def moreOf (c : UInt8) : Nat := if c = 117 then 4 else if c = 85 then 6 else 0
def uqF : Nat → List UInt8 → List UInt8 → Nat → Option (List UInt8 × Nat)
  | 0, _, _, _ => none
  | n + 1, l, acc, i =>
    if l = [] then none
    else if (Lib.decodeL l).1 = 34 then some (acc, i + (Lib.decodeL l).2)
    else if (Lib.decodeL l).1 = 10 then none
    else if (Lib.decodeL l).1 ≠ 92 then uqF n (l.drop (Lib.decodeL l).2) (acc ++ Lib.encodeRune ((Lib.decodeL l).1 : Int)) (i + (Lib.decodeL l).2)
    else if l.getD (Lib.decodeL l).2 0 = 34 ∨ l.getD (Lib.decodeL l).2 0 = 92 then uqF n (l.drop ((Lib.decodeL l).2 + 1)) (acc ++ [l.getD (Lib.decodeL l).2 0]) (i + ((Lib.decodeL l).2 + 1))
    else if moreOf (l.getD (Lib.decodeL l).2 0) = 0 then none
    else if (codeF (l.drop ((Lib.decodeL l).2 + 1)) (moreOf (l.getD (Lib.decodeL l).2 0)) 0).isSome = true then
      uqF n (l.drop ((Lib.decodeL l).2 + (1 + moreOf (l.getD (Lib.decodeL l).2 0)))) (acc ++ Lib.encodeRune (codeOut (codeF (l.drop ((Lib.decodeL l).2 + 1)) (moreOf (l.getD (Lib.decodeL l).2 0)) 0))) (i + ((Lib.decodeL l).2 + (1 + moreOf (l.getD (Lib.decodeL l).2 0))))
    else none
def uq (l : List UInt8) : Option (List UInt8 × Nat) := if l.getD 0 0 = 34 then uqF l.length (l.drop 1) [] 1 else none
def uqVal (r : Option (List UInt8 × Nat)) : Value := match r with
  | none => .tuple #[.string ⟨#[]⟩, .int .i64 0, .bool false]
  | some (a, k) => .tuple #[.string ⟨a.toArray⟩, .int .i64 k, .bool true]

theorem ownsRowF_below {B : Nat} {e : TypeId} {k : Nat} {v : Value} {n : Nat} {xs : List Value} {w w' : World} (h : w.ownsRowF B e k v n xs) (hb : Below w.heap.size w w') : w'.ownsRowF B e k v n xs :=
  h.kept (row := none) ⟨hb.os, hb.tape, hb.output, hb.size, fun j hj _ => hb.block j hj⟩ (by cases hv : v.ownBlock <;> simp)
theorem BF_below {B b : Nat} {bs : List Value} {w w' : World} (h : BF B b bs w) (hb : Below w.heap.size w w') : BF B b bs w' := by
  rcases h with h | h
  · obtain ⟨hB, v, hbk, hown, hne⟩ := h
    have hlt : b < w.heap.size := Lib.BuilderAtF.lt ⟨hB, v, hbk, hown, hne⟩
    exact Or.inl ⟨hB, v, (hb.block b hlt).trans hbk, ownsRowF_below hown hb, hne⟩
  · obtain ⟨hB, v, hbk, hown, hne⟩ := h
    have hlt : b < w.heap.size := Lib.BuilderAtF.lt ⟨hB, v, hbk, hown, hne⟩
    exact Or.inr ⟨hB, v, (hb.block b hlt).trans hbk, ownsRowF_below hown hb, hne⟩
theorem BF_fresh (w : World) : BF w.heap.size w.heap.size (Lib.byteCells []) (w.alloc (.cells #[.pointer none, .slice none 0 0] 41)) := Lib.IsBuilderF.of (Lib.fresh_isBuilder _ _ w)
theorem BU.bf {B b : Nat} {bs : List Value} {w : World} (h : BU B b bs w) : BF B b bs w := Or.inr h

theorem out_empty : (⟨#[]⟩ : ByteArray) = ⟨([] : List UInt8).toArray⟩ := rfl
theorem strOf_get (s : ByteArray) (i : Nat) (h : i < s.size) : s[i]'h = s.data.toList.getD i 0 := by
  rw [← Utf8W.get!_of_lt s i h, ← Lib.getD_get!']
theorem isEmpty_false (s : ByteArray) (h : 0 < s.size) : s.toList.isEmpty = false := by
  rw [Lib.toList_data]
  cases h' : s.data.toList with
  | nil => exact absurd (by rw [Lib.size_eq, h']; rfl : s.size = 0) (by omega)
  | cons _ _ => rfl
theorem isEmpty_true (s : ByteArray) (h : s.size = 0) : s.toList.isEmpty = true := by
  rw [Lib.toList_data, List.eq_nil_of_length_eq_zero (l := s.data.toList) (by rw [← Lib.size_eq]; exact h)]; rfl

theorem tail_tail (s : ByteArray) (i K : Nat) : ((s.extract (i + K) s.size).extract 1 (s.size - (i + K))).data.toList = s.data.toList.drop (i + (K + 1)) := by
  have h : s.size - (i + K) = (s.extract (i + K) s.size).size := (Lib.tail_size s (i + K)).symm
  rw [h, Lib.extract_to_end, Lib.extract_to_end, List.drop_drop, Nat.add_assoc]
theorem tail_tail_size (s : ByteArray) (i K : Nat) : ((s.extract (i + K) s.size).extract 1 (s.size - (i + K))).size = s.size - (i + (K + 1)) := by
  rw [Lib.size_eq, tail_tail, List.length_drop, ← Lib.size_eq]
theorem codeF_run : ∀ (l : List UInt8) (n : Nat) (x y : Int), codeF l n x = some y → n ≤ l.length
  | l, n, x, y, h => by
    rcases Nat.lt_or_ge l.length n with h' | h'
    · rw [codeF_short l n x h'] at h; cases h
    · exact h'
theorem codeOut_bd (l : List UInt8) (n : Nat) (x : Int) (hn : n ≤ 6) (h : codeF l n 0 = some x) : 0 ≤ codeOut (some x) ∧ codeOut (some x) ≤ 1114111 := by
  show 0 ≤ (if Lib.validRune x then x else 65533) ∧ (if Lib.validRune x then x else 65533) ≤ 1114111
  split
  · rename_i hv
    unfold Lib.validRune at hv
    simp at hv
    omega
  · omega

set_option maxRecDepth 100000 in
set_option maxHeartbeats 4000000 in
theorem unquote_any (s : ByteArray) (w : World) (hs : s.size < 35184372088832) (hT : Tabs w) :
    Calls Tryd.prog 12 #[.string s] w fun e w' => e = .returned (uqVal (uq s.data.toList)) ∧ Below w.heap.size w w' := by
  have hlen : s.data.toList.length = s.size := (Lib.size_eq s).symm
  by_cases h0 : s.size = 0
  · have hl : s.data.toList = [] := List.eq_nil_of_length_eq_zero (by omega)
    have hq : uq s.data.toList = none := by rw [hl]; rfl
    rw [hq]
    have hne := isEmpty_true s h0
    clear hq hl
    go_enter Tryd.func12, Tryd.ntmps12
    go_wp2
    go_ret3
    exact ⟨rfl, Below.refl _ _⟩
  · have hne := isEmpty_false s (by omega)
    have hz0 : (0 : Int) < (s.size : Int) := by omega
    obtain ⟨x0, hx0⟩ : ∃ x0, s.data.toList.getD 0 0 = x0 := ⟨_, rfl⟩
    have hs0 : s[0]'(by omega) = x0 := by rw [strOf_get, hx0]
    by_cases hq0 : x0 = 34
    · subst hq0
      obtain ⟨R, hR⟩ : ∃ R, uq s.data.toList = R := ⟨_, rfl⟩
      rw [hR]
      unfold uq at hR
      rw [if_pos hx0] at hR
      have hfresh := BF_fresh w
      clear hx0
      go_enter Tryd.func12, Tryd.ntmps12
      go_wp2
      go_loopg [6] s.size (fun gk si wx => ∃ (i : Nat) (acc : List UInt8), si = .int .i64 i ∧ 1 ≤ i ∧ i ≤ s.size ∧ BF w.heap.size w.heap.size (Lib.byteCells acc) wx ∧ Below w.heap.size w wx ∧
        uqF gk (s.data.toList.drop i) acc i = R ∧ s.size ≤ i + gk ∧ acc.length ≤ 4 * i)
      case atStart => exact ⟨1, [], rfl, Nat.le_refl _, by omega, hfresh, (Below.refl _ _).alloc (Nat.le_refl _) _, by rw [hlen] at hR; exact hR, by omega, by simp⟩
      case round =>
        obtain ⟨i, acc, rfl, hi1, hi, hBF, hbw, hleft, hfu, hol⟩ := hrel
        clear hfresh hR hne hz0 hs0
        by_cases his : i < s.size
        · obtain ⟨g', rfl⟩ : ∃ g', gk = g' + 1 := ⟨gk - 1, by omega⟩
          have hiz : (i : Int) < (s.size : Int) := by omega
          have cD := Tryd.utf8_DecodeRuneInString (s.extract i s.size) wr (Utf8Tabs_below hT hbw)
          have hk2 := Lib.decodeGo_le_size (s.extract i s.size)
          rw [Lib.tail_size] at hk2
          rw [decodeGo_tail s i his] at cD hk2
          have hwd := Lib.width_pos s i
          have hr1 := Lib.rune_le s i
          unfold uqF at hleft
          rw [if_neg (ne_drop (by omega))] at hleft
          rw [Lib.decodeL_drop] at hleft
          simp only [List.drop_drop, Lib.getD_dropU] at hleft
          obtain ⟨Q, hQ⟩ : ∃ Q, (Utf8.decode s i).1 = Q := ⟨_, rfl⟩
          obtain ⟨K, hK⟩ : ∃ K, (Utf8.decode s i).2 = K := ⟨_, rfl⟩
          rw [hQ, hK] at cD hleft
          rw [hK] at hwd hk2
          rw [hQ] at hr1
          clear hQ hK hT
          have hiK : i + K ≤ s.size := by omega
          have hBs := hbw.size
          by_cases h34 : Q = 34
          · subst h34
            rw [if_pos rfl] at hleft
            subst hleft
            go_wp2_with (first
              | (go_at_call 9; refine cD.mono ?_; rintro e W1 ⟨rfl, hb1⟩; have hBF1 := BF_below hBF hb1; have hs1 := hb1.size)
              | (go_at_call 20; refine (Tryd.Builder_String_any_k w.heap.size w.heap.size acc _ hBF1 (by omega)).mono ?_; rintro e W2 ⟨rfl, hBF2, hb2, _⟩))
            go_ret3
            exact ⟨rfl, (hbw.trans (hb1.mono hBs)).trans hb2⟩
          rw [if_neg h34] at hleft
          have t34 : ((Q : Int) == 34) = false := by simp; omega
          by_cases h10 : Q = 10
          · subst h10
            rw [if_pos rfl] at hleft
            subst hleft
            clear h34
            go_wp2_with (go_at_call 9; refine cD.mono ?_; rintro e W1 ⟨rfl, hb1⟩)
            go_ret3
            exact ⟨rfl, hbw.trans (hb1.mono hBs)⟩
          rw [if_neg h10] at hleft
          have t10 : ((Q : Int) == 10) = false := by simp; omega
          by_cases h92 : Q = 92
          · subst h92
            rw [if_neg (by simp)] at hleft
            have HL := Lib.hid hleft; clear hleft
            clear h34 h10
            by_cases hrest : i + K = s.size
            · have hE : (s.extract (i + K) s.size).toList.isEmpty = true := isEmpty_true _ (by rw [Lib.tail_size]; omega)
              have hnone : R = none := by
                have := HL.out
                rw [show s.data.toList.getD (i + K) 0 = 0 by rw [List.getD_eq_getElem?_getD, List.getElem?_eq_none (by omega)]; rfl] at this
                exact this.symm
              subst hnone
              clear HL
              go_wp2_with (go_at_call 9; refine cD.mono ?_; rintro e W1 ⟨rfl, hb1⟩)
              go_ret3
              exact ⟨rfl, hbw.trans (hb1.mono hBs)⟩
            have hlt : 0 < s.size - (i + K) := by omega
            have hltz : (0 : Int) < ((s.size - (i + K) : Nat) : Int) := by omega
            have hE : (s.extract (i + K) s.size).toList.isEmpty = false := isEmpty_false _ (by rw [Lib.tail_size]; omega)
            obtain ⟨c, hc⟩ : ∃ c, s.data.toList.getD (i + K) 0 = c := ⟨_, rfl⟩
            have hc0 : (s.extract (i + K) s.size)[0]'(by rw [Lib.tail_size]; omega) = c := by rw [strOf_get, Lib.extract_to_end, Lib.getD_dropU, Nat.add_zero, hc]
            rw [hc] at HL
            clear hc
            by_cases hcq : c = 34 ∨ c = 92
            · rw [if_pos hcq] at HL
              rcases hcq with rfl | rfl
              all_goals
                go_wp2_with (first
                  | (go_at_call 9; refine cD.mono ?_; rintro e W1 ⟨rfl, hb1⟩; have hBF1 := BF_below hBF hb1; have hs1 := hb1.size)
                  | (go_at_call 22; refine (writeByte_any w.heap.size w.heap.size _ _ _ hBF1 (by rw [Lib.byteCells_length]; omega) (by omega)).mono ?_; rintro e W2 ⟨rfl, hBU2, hb2, _⟩))
                go_roundg g'
                case measure => omega
                case rel => exact ⟨i + (K + 1), acc ++ [_], by go_num, by omega, by omega, by rw [Lib.byteCells_append]; exact hBU2.bf, (hbw.trans (hb1.mono hBs)).trans hb2, HL.out, by omega, by rw [List.length_append]; simp; omega⟩
            rw [if_neg hcq] at HL
            have t34c : ((c.toNat : Int) == 34) = false := by
              simp; intro h; exact hcq (Or.inl (UInt8.toNat_inj.1 (by simpa using (by omega : c.toNat = 34))))
            have t92c : ((c.toNat : Int) == 92) = false := by
              simp; intro h; exact hcq (Or.inr (UInt8.toNat_inj.1 (by simpa using (by omega : c.toNat = 92))))
            clear hcq
            have cC : ∀ (m : Nat) (hm : m ≤ 6) (w : World), Calls Tryd.prog 23 #[.string ((s.extract (i + K) s.size).extract 1 (s.size - (i + K))), .int .i64 m] w fun e w' => e = .returned (.tuple #[.int .i32 (codeOut (codeF (s.data.toList.drop (i + (K + 1))) m 0)), .bool (codeF (s.data.toList.drop (i + (K + 1))) m 0).isSome]) ∧ w' = w := by
              intro m hm w
              have := code_any ((s.extract (i + K) s.size).extract 1 (s.size - (i + K))) m hm w (by rw [tail_tail_size]; omega)
              rw [tail_tail] at this
              exact this
            by_cases hmo : c = 117 ∨ c = 85
            · rcases hmo with rfl | rfl
              · rw [show moreOf 117 = 4 by decide, if_neg (by decide)] at HL
                have cC4 := cC 4 (by omega)
                clear cC
                cases hX : codeF (s.data.toList.drop (i + (K + 1))) 4 0 with
                | none =>
                  rw [hX] at cC4 HL
                  clear hX
                  have hnone : R = none := HL.out.symm
                  subst hnone
                  clear HL
                  go_wp2_with (first
                    | (go_at_call 9; refine cD.mono ?_; rintro e W1 ⟨rfl, hb1⟩)
                    | (go_at_call 23; refine (cC4 _).mono ?_; rintro e w' ⟨rfl, rfl⟩))
                  go_ret3
                  exact ⟨rfl, hbw.trans (hb1.mono hBs)⟩
                | some x =>
                  have hXb := codeOut_bd _ 4 x (by omega) hX
                  rw [hX] at cC4 HL
                  have hrun := codeF_run _ _ _ _ hX
                  rw [List.length_drop] at hrun
                  clear hX
                  obtain ⟨Y, hY⟩ : ∃ Y, codeOut (some x) = Y := ⟨_, rfl⟩
                  rw [hY] at cC4 HL hXb
                  clear hY
                  rw [if_pos (show (some x).isSome = true from rfl)] at HL
                  have hel := Tx.enc_len Y
                  go_wp2_with (first
                    | (go_at_call 9; refine cD.mono ?_; rintro e W1 ⟨rfl, hb1⟩; have hBF1 := BF_below hBF hb1; have hs1 := hb1.size)
                    | (go_at_call 23; refine (cC4 _).mono ?_; rintro e w' ⟨rfl, rfl⟩)
                    | (go_at_call 21; refine (writeRune_any w.heap.size w.heap.size _ Y (by omega) (by omega) _ hBF1 (by rw [Lib.byteCells_length]; omega) (by omega)).mono ?_; rintro e W2 ⟨rfl, hBU2, hb2, _⟩))
                  go_roundg g'
                  case measure => omega
                  case rel => exact ⟨i + (K + (1 + 4)), acc ++ Lib.encodeRune Y, by go_num, by omega, by omega, by rw [Lib.byteCells_append, Lib.byteCells_encodeRune]; exact hBU2.bf, (hbw.trans (hb1.mono hBs)).trans hb2, HL.out, by omega, by rw [List.length_append]; omega⟩
              · rw [show moreOf 85 = 6 by decide, if_neg (by decide)] at HL
                have cC4 := cC 6 (by omega)
                clear cC
                cases hX : codeF (s.data.toList.drop (i + (K + 1))) 6 0 with
                | none =>
                  rw [hX] at cC4 HL
                  clear hX
                  have hnone : R = none := HL.out.symm
                  subst hnone
                  clear HL
                  go_wp2_with (first
                    | (go_at_call 9; refine cD.mono ?_; rintro e W1 ⟨rfl, hb1⟩)
                    | (go_at_call 23; refine (cC4 _).mono ?_; rintro e w' ⟨rfl, rfl⟩))
                  go_ret3
                  exact ⟨rfl, hbw.trans (hb1.mono hBs)⟩
                | some x =>
                  have hXb := codeOut_bd _ 6 x (by omega) hX
                  rw [hX] at cC4 HL
                  have hrun := codeF_run _ _ _ _ hX
                  rw [List.length_drop] at hrun
                  clear hX
                  obtain ⟨Y, hY⟩ : ∃ Y, codeOut (some x) = Y := ⟨_, rfl⟩
                  rw [hY] at cC4 HL hXb
                  clear hY
                  rw [if_pos (show (some x).isSome = true from rfl)] at HL
                  have hel := Tx.enc_len Y
                  go_wp2_with (first
                    | (go_at_call 9; refine cD.mono ?_; rintro e W1 ⟨rfl, hb1⟩; have hBF1 := BF_below hBF hb1; have hs1 := hb1.size)
                    | (go_at_call 23; refine (cC4 _).mono ?_; rintro e w' ⟨rfl, rfl⟩)
                    | (go_at_call 21; refine (writeRune_any w.heap.size w.heap.size _ Y (by omega) (by omega) _ hBF1 (by rw [Lib.byteCells_length]; omega) (by omega)).mono ?_; rintro e W2 ⟨rfl, hBU2, hb2, _⟩))
                  go_roundg g'
                  case measure => omega
                  case rel => exact ⟨i + (K + (1 + 6)), acc ++ Lib.encodeRune Y, by go_num, by omega, by omega, by rw [Lib.byteCells_append, Lib.byteCells_encodeRune]; exact hBU2.bf, (hbw.trans (hb1.mono hBs)).trans hb2, HL.out, by omega, by rw [List.length_append]; omega⟩
            · have hm0 : moreOf c = 0 := by
                unfold moreOf
                rw [if_neg (fun h => hmo (Or.inl h)), if_neg (fun h => hmo (Or.inr h))]
              rw [hm0, if_pos rfl] at HL
              have hnone : R = none := HL.out.symm
              subst hnone
              have t117c : ((c.toNat : Int) == 117) = false := by
                simp; intro h; exact hmo (Or.inl (UInt8.toNat_inj.1 (by simpa using (by omega : c.toNat = 117))))
              have t85c : ((c.toNat : Int) == 85) = false := by
                simp; intro h; exact hmo (Or.inr (UInt8.toNat_inj.1 (by simpa using (by omega : c.toNat = 85))))
              clear HL cC hmo hm0
              go_wp2_with (go_at_call 9; refine cD.mono ?_; rintro e W1 ⟨rfl, hb1⟩)
              go_ret3
              exact ⟨rfl, hbw.trans (hb1.mono hBs)⟩
          · rw [if_pos h92] at hleft
            have t92 : ((Q : Int) != 92) = true := by simp; omega
            have hel := Tx.enc_len (Q : Int)
            have HL := Lib.hid hleft; clear hleft
            clear h34 h10 h92
            go_wp2_with (first
              | (go_at_call 9; refine cD.mono ?_; rintro e W1 ⟨rfl, hb1⟩; have hBF1 := BF_below hBF hb1; have hs1 := hb1.size)
              | (go_at_call 21; refine (writeRune_any w.heap.size w.heap.size _ (Q : Int) (by omega) (by omega) _ hBF1 (by rw [Lib.byteCells_length]; omega) (by omega)).mono ?_; rintro e W2 ⟨rfl, hBU2, hb2, _⟩))
            go_roundg g'
            case measure => omega
            case rel => exact ⟨i + K, acc ++ Lib.encodeRune (Q : Int), by go_num, by omega, by omega, by rw [Lib.byteCells_append, Lib.byteCells_encodeRune]; exact hBU2.bf, (hbw.trans (hb1.mono hBs)).trans hb2, HL.out, by omega, by rw [List.length_append]; omega⟩
        · have hiz : ¬ (i : Int) < (s.size : Int) := by omega
          have hdn : s.data.toList.drop i = [] := List.drop_eq_nil_of_le (by omega)
          have hnone : R = none := by
            rw [hdn] at hleft
            rw [← hleft]
            cases gk <;> rfl
          subst hnone
          clear hdn hleft hT
          go_wp2
          go_ret3
          exact ⟨rfl, hbw⟩
    · have hq : uq s.data.toList = none := by unfold uq; rw [if_neg (by rw [hx0]; exact hq0)]
      rw [hq]
      have hnq : ((x0.toNat : Int) != 34) = true := by
        simp
        intro h
        exact hq0 (UInt8.toNat_inj.1 (by simpa using (by omega : x0.toNat = 34)))
      clear hq hx0
      go_enter Tryd.func12, Tryd.ntmps12
      go_wp2
      go_ret3
      exact ⟨rfl, Below.refl _ _⟩
end Go.Proofs.YtaijjabbkmdcdaaDoor
