/- The walk of the statements' own Unquote, over signs. -/
import Derived.Test.YtaijjabbkmdcdaaDoorTnumber
namespace Go.Proofs.YtaijjabbkmdcdaaDoor
open Go.RowKit
set_option linter.unusedVariables false
set_option linter.unusedSimpArgs false

def rcF : List (List UInt8) → Nat → Int → Option Int
  | _, 0, v => some v
  | [], _ + 1, _ => none
  | z :: t, m + 1, v => if numZ z < 0 then none else rcF t m (16 * v + numZ z)
def fixR (v : Int) : Int := if v > 1114111 ∨ (55296 ≤ v ∧ v ≤ 57343) then 65533 else v
def moreS (y : List UInt8) : Nat := if y = [117] then 4 else if y = [85] then 6 else 0
def rqF : Nat → List (List UInt8) → List UInt8 → Nat → Option (List UInt8 × Nat)
  | 0, _, _, _ => none
  | _ + 1, [], _, _ => none
  | n + 1, x :: t, out, size =>
    if x = [34] then some (out, size + x.length)
    else if x = [10] then none
    else if x ≠ [92] then rqF n t (out ++ x) (size + x.length)
    else match t with
      | [] => none
      | y :: t' =>
        if y = [34] ∨ y = [92] then rqF n t' (out ++ y) (size + x.length + y.length)
        else if moreS y = 0 then none
        else match rcF t' (moreS y) 0 with
          | none => none
          | some v => rqF n (t'.drop (moreS y)) (out ++ Lib.encodeRune (fixR v)) (size + x.length + y.length + moreS y)
def rq (L : List (List UInt8)) : Option (List UInt8 × Nat) := if L.head? = some [34] then rqF L.length (L.drop 1) [] 1 else none

theorem rcF_zero (L : List (List UInt8)) (v : Int) : rcF L 0 v = some v := by cases L <;> rfl

/-- string(rune(v)). -/
theorem enc_utf8 (r : Nat) : (Utf8.encode (r : Int)).data.toList = Lib.encodeRune (r : Int) := by
  by_cases hb : (55296 ≤ r ∧ r ≤ 57343) ∨ 1114111 < r
  · have v : Utf8.valid (r : Int) = false := by simp [Utf8.valid]; omega
    unfold Lib.encodeRune
    rw [Lib.encodeRuneZ_bad (by omega)]
    simp [Utf8.encode, v, Utf8.runeError]
  have v : Utf8.valid (r : Int) = true := by simp [Utf8.valid]; omega
  unfold Lib.encodeRune
  by_cases c1 : r < 128
  · rw [Lib.encodeRuneZ_one (by omega) (by omega)]
    simp [Utf8.encode, v, c1]
  by_cases c2 : r < 2048
  · rw [Lib.encodeRuneZ_two (by omega) (by omega)]
    simp only [List.map_cons, List.map_nil]
    rw [show ((192 : Int) + (r : Int) / 64).toNat = 192 + r / 64 by omega, show ((128 : Int) + (r : Int) % 64).toNat = 128 + r % 64 by omega]
    simp only [Utf8.encode, v, if_true, Int.toNat_natCast, if_neg c1, if_pos c2]
  by_cases c3 : r < 65536
  · rw [Lib.encodeRuneZ_three (by omega)]
    simp only [List.map_cons, List.map_nil]
    rw [show ((224 : Int) + (r : Int) / 4096).toNat = 224 + r / 4096 by omega, show ((128 : Int) + (r : Int) / 64 % 64).toNat = 128 + r / 64 % 64 by omega, show ((128 : Int) + (r : Int) % 64).toNat = 128 + r % 64 by omega]
    simp only [Utf8.encode, v, if_true, Int.toNat_natCast, if_neg c1, if_neg c2, if_pos c3]
  · rw [Lib.encodeRuneZ_four (by omega) (by omega)]
    simp only [List.map_cons, List.map_nil]
    rw [show ((240 : Int) + (r : Int) / 262144).toNat = 240 + r / 262144 by omega, show ((128 : Int) + (r : Int) / 4096 % 64).toNat = 128 + r / 4096 % 64 by omega, show ((128 : Int) + (r : Int) / 64 % 64).toNat = 128 + r / 64 % 64 by omega, show ((128 : Int) + (r : Int) % 64).toNat = 128 + r % 64 by omega]
    simp only [Utf8.encode, v, if_true, Int.toNat_natCast, if_neg c1, if_neg c2, if_neg c3]
theorem enc_fffd : (Utf8.encode 65533).data.toList = Lib.encodeRune ((65533 : Nat) : Int) := enc_utf8 65533
theorem drop_at {α : Type} {L : List α} {i : Nat} {x : α} (h : L[i]? = some x) : L.drop i = x :: L.drop (i + 1) := by
  obtain ⟨hi, rfl⟩ := List.getElem?_eq_some_iff.1 h
  exact List.drop_eq_getElem_cons hi
theorem at_of_lt {α : Type} (L : List α) (i : Nat) (h : i < L.length) : ∃ x, L[i]? = some x := ⟨L[i], List.getElem?_eq_getElem h⟩

set_option maxRecDepth 100000 in
set_option maxHeartbeats 8000000 in
theorem runquote_any (s : ByteArray) (w : World) (hs : s.size ≤ 100000) (hT : Tabs w) :
    Calls Tryd.prog 13 #[.string s] w fun e w' => e = .returned (uqVal (rq ((Tx.sig s.data.toList).getD []))) ∧ Below w.heap.size w w' := by
  have hlen : s.data.toList.length = s.size := (Lib.size_eq s).symm
  have cS := signs_any s w (by omega) hT
  obtain ⟨L, ok, hL, hLl⟩ : ∃ L ok, (Tx.sig s.data.toList) = (if ok = true then some L else none) ∧ ((Tx.sig s.data.toList).getD [] = L ∧ (Tx.sig s.data.toList).isSome = ok ∧ L.length ≤ s.size ∧ ∀ x ∈ L, x.length ≤ 4) := by
    cases h : Tx.sig s.data.toList with
    | none => exact ⟨[], false, by simp, by simp⟩
    | some L =>
      refine ⟨L, true, by simp, by simp, by simp, by have := sig_len h; omega, ?_⟩
      obtain ⟨rs, _, _, rfl⟩ := Tx.sig_some h
      intro x hx
      obtain ⟨r, _, rfl⟩ := List.mem_map.1 hx
      exact (Tx.enc_len _).2
  obtain ⟨h1, h2, hLl, hx4⟩ := hLl
  rw [h1, h2] at cS
  rw [h1]
  clear hL h1 h2
  obtain ⟨R, hR⟩ : ∃ R, rq L = R := ⟨_, rfl⟩
  rw [hR]
  have HR := Lib.hid hR; clear hR
  by_cases hz : L.length = 0
  · have hL0 : L = [] := List.eq_nil_of_length_eq_zero hz
    subst hL0
    have hnone : R = none := by rw [← HR.out]; rfl
    subst hnone
    clear HR hx4 hz hLl
    go_enter Tryd.func13, Tryd.ntmps13
    go_wp2_with (go_at_call 11; refine cS.mono ?_; rintro e W1 ⟨v, rfl, hown, hbw⟩; obtain ⟨A, cap, rfl, hcap, hA⟩ := own_reads hown)
    go_ret3
    exact ⟨rfl, hbw⟩
  have hzz : ((L.length : Int) == 0) = false := beq_eq_false_iff_ne.2 (by omega)
  have hpos : (0 : Int) < (L.length : Int) := by omega
  obtain ⟨x0, hx0⟩ := at_of_lt L 0 (by omega)
  have hhead : L.head? = some x0 := by rw [List.head?_eq_getElem?]; exact hx0
  by_cases h0 : x0 = [34]
  · subst h0
    have hRq : rqF L.length (L.drop 1) [] 1 = R := by rw [← HR.out]; unfold rq; rw [if_pos hhead]
    clear HR hhead
    have HR := Lib.hid hRq; clear hRq
    go_enter Tryd.func13, Tryd.ntmps13
    go_wp2_with (go_at_call 11; refine cS.mono ?_; rintro e W1 ⟨v, rfl, hown, hbw⟩; obtain ⟨A, cap, rfl, hcap, hA⟩ := own_reads hown; obtain ⟨g, rfl, hgB, hg, hcell⟩ := hA (by omega); have hc0 : W1.cell? ⟨g, 0, none⟩ = some (.string ⟨#[34]⟩) := hcell 0 _ (by simp [strCellsL, hx0]); have HC := Lib.hid hcell; clear hcell)
    go_loopg [7, 8, 9] L.length (fun gk so sz si wx => ∃ (i sn : Nat) (a : ByteArray), si = .int .i64 i ∧ so = .string a ∧ sz = .int .i64 sn ∧ 1 ≤ i ∧ i ≤ L.length ∧ rqF gk (L.drop i) a.data.toList sn = R ∧ L.length ≤ i + gk ∧ a.size ≤ 4 * i ∧ sn ≤ 4 * i ∧ Below W1.heap.size W1 wx)
    case atStart => exact ⟨1, 1, ⟨#[]⟩, rfl, rfl, rfl, Nat.le_refl _, by omega, HR.out, by omega, by decide, by omega, Below.refl _ _⟩
    case round =>
      obtain ⟨i, sn, a, rfl, rfl, rfl, hi1, hi, hq, hfu, has, hsn, hbx⟩ := hrel
      clear HR
      have hal : a.data.toList.length = a.size := (Lib.size_eq a).symm
      by_cases hiL : i < L.length
      · have hiz : (i : Int) < (L.length : Int) := by omega
        obtain ⟨f, rfl⟩ : ∃ f, gk = f + 1 := ⟨gk - 1, by omega⟩
        obtain ⟨x, hx⟩ := at_of_lt L i hiL
        have hxl : x.length ≤ 4 := hx4 x (List.mem_of_getElem? hx)
        have hcx : wr.cell? ⟨g, i, none⟩ = some (.string ⟨x.toArray⟩) := by
          rw [hbx.cell (p := ⟨g, i, none⟩) hg]
          exact HC.out i _ (by simp [strCellsL, hx])
        rw [drop_at hx] at hq
        unfold rqF at hq
        have hbw2 := hbw.trans (hbx.mono hbw.size)
        have HX := Lib.hid hx; clear hx
        by_cases h34 : x = [34]
        · subst h34
          rw [if_pos rfl] at hq
          subst hq
          clear hx4
          go_wp2
          go_ret3
          exact ⟨by rw [uqVal, mk_list]; rfl, hbw2⟩
        rw [if_neg h34] at hq
        have b34 : (x == [34]) = false := by simpa using h34
        by_cases h10 : x = [10]
        · subst h10
          rw [if_pos rfl] at hq
          subst hq
          clear hx4 h34
          go_wp2
          go_ret3
          exact ⟨rfl, hbw2⟩
        rw [if_neg h10] at hq
        have b10 : (x == [10]) = false := by simpa using h10
        by_cases h92 : x = [92]
        · subst h92
          rw [if_neg (by simp)] at hq
          clear h34 h10 b34 b10
          by_cases hlast : i + 1 = L.length
          · have hnone : R = none := by
              rw [List.drop_eq_nil_of_le (by omega)] at hq
              exact hq.symm
            subst hnone
            have hlz : ((i : Int) + 1 == (L.length : Int)) = true := beq_iff_eq.2 (by omega)
            clear hq hx4 hlast
            go_wp2
            go_ret3
            exact ⟨rfl, hbw2⟩
          have hlz : ((i : Int) + 1 == (L.length : Int)) = false := beq_eq_false_iff_ne.2 (by omega)
          obtain ⟨y, hy⟩ := at_of_lt L (i + 1) (by omega)
          have hyl : y.length ≤ 4 := hx4 y (List.mem_of_getElem? hy)
          have hcy : wr.cell? ⟨g, i + 1, none⟩ = some (.string ⟨y.toArray⟩) := by
            rw [hbx.cell (p := ⟨g, i + 1, none⟩) hg]
            exact HC.out (i + 1) _ (by simp [strCellsL, hy])
          have hi1z : (i : Int) + 1 < (L.length : Int) := by omega
          rw [drop_at hy] at hq
          have HY := Lib.hid hy; clear hy
          simp only [] at hq
          by_cases hyq : y = [34] ∨ y = [92]
          · rw [if_pos hyq] at hq
            have HQ := Lib.hid hq; clear hq hx4 hlast
            rcases hyq with rfl | rfl
            all_goals
              go_wp2
              go_roundg f
              case measure => omega
              case rel => exact ⟨i + 2, sn + 1 + 1, _, by go_num, rfl, by go_num, by omega, by omega, by rw [ba_append]; exact HQ.out, by omega, by rw [ba_size]; simp only [show (⟨#[34]⟩ : ByteArray).size = 1 from rfl, show (⟨#[92]⟩ : ByteArray).size = 1 from rfl]; omega, by omega, hbx⟩
          rw [if_neg hyq] at hq
          have by34 : (y == [34]) = false := by simpa using fun h => hyq (Or.inl h)
          have by92 : (y == [92]) = false := by simpa using fun h => hyq (Or.inr h)
          clear hyq
          by_cases hyu : y = [117] ∨ y = [85]
          · rcases hyu with rfl | rfl
            · rw [show moreS [117] = 4 by decide, if_neg (by decide)] at hq
              obtain ⟨RC, hRC⟩ : ∃ RC, rcF (L.drop (i + 1 + 1)) 4 0 = RC := ⟨_, rfl⟩
              rw [hRC] at hq
              have HQ := Lib.hid hq; clear hq hlast
              have HRC := Lib.hid hRC; clear hRC
              have hsz := hbx.size
              obtain ⟨wo, rfl⟩ : ∃ wo : World, wo = wr := ⟨_, rfl⟩
              go_wp2
              go_loopg [8, 9, 12, 13] 4 (fun gj sz si sv sk wx => ∃ (k : Nat) (v : Int), sk = .int .i64 k ∧ k ≤ 4 ∧ si = .int .i64 ((i : Int) + 1 + k) ∧ sz = .int .i64 ((sn : Int) + 1 + 1 + k) ∧ sv = .int .i64 v ∧ 0 ≤ v ∧ v < 16 ^ k ∧
                rcF (L.drop (i + 1 + 1 + k)) (4 - k) v = RC ∧ Below W1.heap.size W1 wx ∧ 4 ≤ k + gj ∧ i + 1 + 1 + k ≤ L.length)
              case atStart => exact ⟨0, 0, rfl, by omega, by go_num, by go_num, rfl, by omega, by decide, by simpa using HRC.out, hbx, by omega, by omega⟩
              case round =>
                obtain ⟨k, v, rfl, hk, rfl, rfl, rfl, hv0, hv1, hrc, hbx2, hgj, hkl⟩ := hrel
                clear HRC
                have hp : (16 : Int) ^ k ≤ 16 ^ 6 := by
                  rcases (show k = 0 ∨ k = 1 ∨ k = 2 ∨ k = 3 ∨ k = 4 ∨ k = 5 ∨ k = 6 by omega) with rfl | rfl | rfl | rfl | rfl | rfl | rfl <;> decide
                have hv2 : v < 16777216 := by have : (16 : Int) ^ 6 = 16777216 := by decide
                                              omega
                have hbw3 := hbw.trans (hbx2.mono hbw.size)
                by_cases hkm : k < 4
                · have hkz : (k : Int) < 4 := by omega
                  obtain ⟨fj, rfl⟩ : ∃ fj, gk = fj + 1 := ⟨gk - 1, by omega⟩
                  by_cases hout : i + 1 + 1 + k < L.length
                  · have hoz : (i : Int) + 1 + k + 1 < (L.length : Int) := by omega
                    have hon : ¬ (i : Int) + 1 + k + 1 ≥ (L.length : Int) := by omega
                    obtain ⟨z, hz⟩ := at_of_lt L (i + 1 + 1 + k) hout
                    have hcz : wr.cell? ⟨g, i + 1 + k + 1, none⟩ = some (.string ⟨z.toArray⟩) := by
                      rw [hbx2.cell (p := ⟨g, i + 1 + k + 1, none⟩) hg]
                      exact HC.out (i + 1 + k + 1) _ (by rw [show i + 1 + k + 1 = i + 1 + 1 + k by omega]; simp [strCellsL, hz])
                    rw [drop_at hz, show 4 - k = (4 - (k + 1)) + 1 by omega] at hrc
                    unfold rcF at hrc
                    have hnb := numZ_bd z
                    have cN : ∀ W, Calls Tryd.prog 24 #[.string ⟨z.toArray⟩] W fun e w' => e = .returned (.int .i64 (numZ z)) ∧ Below W.heap.size W w' := fun W => number_any ⟨z.toArray⟩ W
                    have HZ := Lib.hid hz; clear hz
                    obtain ⟨Z, hZ⟩ : ∃ Z, numZ z = Z := ⟨_, rfl⟩
                    rw [hZ] at cN hrc hnb
                    clear hZ
                    have hsz2 := hbx2.size
                    by_cases hneg : Z < 0
                    · rw [if_pos hneg] at hrc
                      subst hrc
                      have hnone : R = none := HQ.out.symm
                      subst hnone
                      clear HQ hx4
                      go_wp2_with (go_at_call 24; refine (cN _).mono ?_; rintro e W5 ⟨rfl, b5⟩)
                      go_ret3
                      exact ⟨rfl, hbw3.trans (b5.mono hbw3.size)⟩
                    · rw [if_neg hneg] at hrc
                      have HRC := Lib.hid hrc; clear hrc hx4
                      have hZn : ¬ Z < 0 := hneg
                      go_wp2_with (first
                        | (go_at_call 24; have tok1 := hneg; refine (cN _).mono ?_; rintro e W5 ⟨rfl, b5⟩; clear hneg; have hcz5 := (b5.cell (p := ⟨g, i + 1 + k + 1, none⟩) (Nat.lt_of_lt_of_le hg hsz2)).trans hcz)
                        | (go_at_call 24; refine (cN _).mono ?_; rintro e W6 ⟨rfl, b6⟩))
                      go_roundg fj
                      case measure => omega
                      case rel => exact ⟨k + 1, 16 * v + Z, by go_num, by omega, by go_num, by go_num, by go_num, by omega, by rw [Int.pow_succ]; omega, by rw [show i + 1 + 1 + (k + 1) = i + 1 + 1 + k + 1 by omega]; exact HRC.out, (hbx2.trans (b5.mono hsz2)).trans (b6.mono (Nat.le_trans hsz2 b5.size)), by omega, by omega⟩
                  · have hoz : (i : Int) + 1 + k + 1 ≥ (L.length : Int) := by omega
                    rw [List.drop_eq_nil_of_le (by omega), show 4 - k = (4 - (k + 1)) + 1 by omega] at hrc
                    unfold rcF at hrc
                    subst hrc
                    have hnone : R = none := HQ.out.symm
                    subst hnone
                    clear HQ hx4
                    go_wp2
                    go_ret3
                    exact ⟨rfl, hbw3⟩
                · have hkz : ¬ (k : Int) < 4 := by omega
                  obtain rfl : k = 4 := by omega
                  rw [Nat.sub_self, rcF_zero] at hrc
                  subst hrc
                  have hq2 := HQ.out
                  simp only [] at hq2
                  clear HQ hx4 hkm hkz hgj hk hv1 hp
                  have he1 : (Utf8.encode 65533).size ≤ 4 := by decide
                  obtain ⟨V, rfl⟩ : ∃ V : Nat, v = (V : Int) := ⟨v.toNat, by omega⟩
                  have he2 : (Utf8.encode (V : Int)).size ≤ 4 := by rw [Lib.size_eq, enc_utf8]; exact (Tx.enc_len _).2
                  by_cases hbig : (V : Int) > 1114111
                  · rw [show fixR V = ((65533 : Nat) : Int) by unfold fixR; rw [if_pos (Or.inl hbig)]; rfl] at hq2
                    have HQ2 := Lib.hid hq2; clear hq2
                    go_wp2
                    go_roundg f
                    case measure => omega
                    case rel => exact ⟨i + 1 + 1 + 4, sn + 1 + 1 + 4, _, by go_num, rfl, by go_num, by omega, by omega, by rw [ba_append, enc_fffd, ← List.drop_drop]; exact HQ2.out, by omega, by rw [ba_size, Lib.size_eq (Utf8.encode _), enc_fffd]; have := Tx.enc_len ((65533 : Nat) : Int); omega, by omega, hbx2⟩
                  · by_cases hsur : (V : Int) ≥ 55296 ∧ (V : Int) ≤ 57343
                    · obtain ⟨s1, s2⟩ := hsur
                      rw [show fixR V = ((65533 : Nat) : Int) by unfold fixR; rw [if_pos (Or.inr ⟨s1, s2⟩)]; rfl] at hq2
                      have HQ2 := Lib.hid hq2; clear hq2
                      go_wp2
                      go_roundg f
                      case measure => omega
                      case rel => exact ⟨i + 1 + 1 + 4, sn + 1 + 1 + 4, _, by go_num, rfl, by go_num, by omega, by omega, by rw [ba_append, enc_fffd, ← List.drop_drop]; exact HQ2.out, by omega, by rw [ba_size, Lib.size_eq (Utf8.encode _), enc_fffd]; have := Tx.enc_len ((65533 : Nat) : Int); omega, by omega, hbx2⟩
                    · rw [show fixR V = (V : Int) by unfold fixR; rw [if_neg (by omega)]] at hq2
                      have HQ2 := Lib.hid hq2; clear hq2
                      have hel := Tx.enc_len (V : Int)
                      by_cases s1 : (V : Int) ≥ 55296
                      · have s2 : ¬ (V : Int) ≤ 57343 := by omega
                        clear hsur
                        go_wp2
                        go_roundg f
                        case measure => omega
                        case rel => exact ⟨i + 1 + 1 + 4, sn + 1 + 1 + 4, _, by go_num, rfl, by go_num, by omega, by omega, by rw [ba_append, enc_utf8, ← List.drop_drop]; exact HQ2.out, by omega, by rw [ba_size, Lib.size_eq (Utf8.encode _), enc_utf8]; omega, by omega, hbx2⟩
                      · clear hsur
                        go_wp2
                        go_roundg f
                        case measure => omega
                        case rel => exact ⟨i + 1 + 1 + 4, sn + 1 + 1 + 4, _, by go_num, rfl, by go_num, by omega, by omega, by rw [ba_append, enc_utf8, ← List.drop_drop]; exact HQ2.out, by omega, by rw [ba_size, Lib.size_eq (Utf8.encode _), enc_utf8]; omega, by omega, hbx2⟩
            · rw [show moreS [85] = 6 by decide, if_neg (by decide)] at hq
              obtain ⟨RC, hRC⟩ : ∃ RC, rcF (L.drop (i + 1 + 1)) 6 0 = RC := ⟨_, rfl⟩
              rw [hRC] at hq
              have HQ := Lib.hid hq; clear hq hlast
              have HRC := Lib.hid hRC; clear hRC
              have hsz := hbx.size
              obtain ⟨wo, rfl⟩ : ∃ wo : World, wo = wr := ⟨_, rfl⟩
              go_wp2
              go_loopg [8, 9, 12, 13] 6 (fun gj sz si sv sk wx => ∃ (k : Nat) (v : Int), sk = .int .i64 k ∧ k ≤ 6 ∧ si = .int .i64 ((i : Int) + 1 + k) ∧ sz = .int .i64 ((sn : Int) + 1 + 1 + k) ∧ sv = .int .i64 v ∧ 0 ≤ v ∧ v < 16 ^ k ∧
                rcF (L.drop (i + 1 + 1 + k)) (6 - k) v = RC ∧ Below W1.heap.size W1 wx ∧ 6 ≤ k + gj ∧ i + 1 + 1 + k ≤ L.length)
              case atStart => exact ⟨0, 0, rfl, by omega, by go_num, by go_num, rfl, by omega, by decide, by simpa using HRC.out, hbx, by omega, by omega⟩
              case round =>
                obtain ⟨k, v, rfl, hk, rfl, rfl, rfl, hv0, hv1, hrc, hbx2, hgj, hkl⟩ := hrel
                clear HRC
                have hp : (16 : Int) ^ k ≤ 16 ^ 6 := by
                  rcases (show k = 0 ∨ k = 1 ∨ k = 2 ∨ k = 3 ∨ k = 4 ∨ k = 5 ∨ k = 6 by omega) with rfl | rfl | rfl | rfl | rfl | rfl | rfl <;> decide
                have hv2 : v < 16777216 := by have : (16 : Int) ^ 6 = 16777216 := by decide
                                              omega
                have hbw3 := hbw.trans (hbx2.mono hbw.size)
                by_cases hkm : k < 6
                · have hkz : (k : Int) < 6 := by omega
                  obtain ⟨fj, rfl⟩ : ∃ fj, gk = fj + 1 := ⟨gk - 1, by omega⟩
                  by_cases hout : i + 1 + 1 + k < L.length
                  · have hoz : (i : Int) + 1 + k + 1 < (L.length : Int) := by omega
                    have hon : ¬ (i : Int) + 1 + k + 1 ≥ (L.length : Int) := by omega
                    obtain ⟨z, hz⟩ := at_of_lt L (i + 1 + 1 + k) hout
                    have hcz : wr.cell? ⟨g, i + 1 + k + 1, none⟩ = some (.string ⟨z.toArray⟩) := by
                      rw [hbx2.cell (p := ⟨g, i + 1 + k + 1, none⟩) hg]
                      exact HC.out (i + 1 + k + 1) _ (by rw [show i + 1 + k + 1 = i + 1 + 1 + k by omega]; simp [strCellsL, hz])
                    rw [drop_at hz, show 6 - k = (6 - (k + 1)) + 1 by omega] at hrc
                    unfold rcF at hrc
                    have hnb := numZ_bd z
                    have cN : ∀ W, Calls Tryd.prog 24 #[.string ⟨z.toArray⟩] W fun e w' => e = .returned (.int .i64 (numZ z)) ∧ Below W.heap.size W w' := fun W => number_any ⟨z.toArray⟩ W
                    have HZ := Lib.hid hz; clear hz
                    obtain ⟨Z, hZ⟩ : ∃ Z, numZ z = Z := ⟨_, rfl⟩
                    rw [hZ] at cN hrc hnb
                    clear hZ
                    have hsz2 := hbx2.size
                    by_cases hneg : Z < 0
                    · rw [if_pos hneg] at hrc
                      subst hrc
                      have hnone : R = none := HQ.out.symm
                      subst hnone
                      clear HQ hx4
                      go_wp2_with (go_at_call 24; refine (cN _).mono ?_; rintro e W5 ⟨rfl, b5⟩)
                      go_ret3
                      exact ⟨rfl, hbw3.trans (b5.mono hbw3.size)⟩
                    · rw [if_neg hneg] at hrc
                      have HRC := Lib.hid hrc; clear hrc hx4
                      have hZn : ¬ Z < 0 := hneg
                      go_wp2_with (first
                        | (go_at_call 24; have tok1 := hneg; refine (cN _).mono ?_; rintro e W5 ⟨rfl, b5⟩; clear hneg; have hcz5 := (b5.cell (p := ⟨g, i + 1 + k + 1, none⟩) (Nat.lt_of_lt_of_le hg hsz2)).trans hcz)
                        | (go_at_call 24; refine (cN _).mono ?_; rintro e W6 ⟨rfl, b6⟩))
                      go_roundg fj
                      case measure => omega
                      case rel => exact ⟨k + 1, 16 * v + Z, by go_num, by omega, by go_num, by go_num, by go_num, by omega, by rw [Int.pow_succ]; omega, by rw [show i + 1 + 1 + (k + 1) = i + 1 + 1 + k + 1 by omega]; exact HRC.out, (hbx2.trans (b5.mono hsz2)).trans (b6.mono (Nat.le_trans hsz2 b5.size)), by omega, by omega⟩
                  · have hoz : (i : Int) + 1 + k + 1 ≥ (L.length : Int) := by omega
                    rw [List.drop_eq_nil_of_le (by omega), show 6 - k = (6 - (k + 1)) + 1 by omega] at hrc
                    unfold rcF at hrc
                    subst hrc
                    have hnone : R = none := HQ.out.symm
                    subst hnone
                    clear HQ hx4
                    go_wp2
                    go_ret3
                    exact ⟨rfl, hbw3⟩
                · have hkz : ¬ (k : Int) < 6 := by omega
                  obtain rfl : k = 6 := by omega
                  rw [Nat.sub_self, rcF_zero] at hrc
                  subst hrc
                  have hq2 := HQ.out
                  simp only [] at hq2
                  clear HQ hx4 hkm hkz hgj hk hv1 hp
                  have he1 : (Utf8.encode 65533).size ≤ 4 := by decide
                  obtain ⟨V, rfl⟩ : ∃ V : Nat, v = (V : Int) := ⟨v.toNat, by omega⟩
                  have he2 : (Utf8.encode (V : Int)).size ≤ 4 := by rw [Lib.size_eq, enc_utf8]; exact (Tx.enc_len _).2
                  by_cases hbig : (V : Int) > 1114111
                  · rw [show fixR V = ((65533 : Nat) : Int) by unfold fixR; rw [if_pos (Or.inl hbig)]; rfl] at hq2
                    have HQ2 := Lib.hid hq2; clear hq2
                    go_wp2
                    go_roundg f
                    case measure => omega
                    case rel => exact ⟨i + 1 + 1 + 6, sn + 1 + 1 + 6, _, by go_num, rfl, by go_num, by omega, by omega, by rw [ba_append, enc_fffd, ← List.drop_drop]; exact HQ2.out, by omega, by rw [ba_size, Lib.size_eq (Utf8.encode _), enc_fffd]; have := Tx.enc_len ((65533 : Nat) : Int); omega, by omega, hbx2⟩
                  · by_cases hsur : (V : Int) ≥ 55296 ∧ (V : Int) ≤ 57343
                    · obtain ⟨s1, s2⟩ := hsur
                      rw [show fixR V = ((65533 : Nat) : Int) by unfold fixR; rw [if_pos (Or.inr ⟨s1, s2⟩)]; rfl] at hq2
                      have HQ2 := Lib.hid hq2; clear hq2
                      go_wp2
                      go_roundg f
                      case measure => omega
                      case rel => exact ⟨i + 1 + 1 + 6, sn + 1 + 1 + 6, _, by go_num, rfl, by go_num, by omega, by omega, by rw [ba_append, enc_fffd, ← List.drop_drop]; exact HQ2.out, by omega, by rw [ba_size, Lib.size_eq (Utf8.encode _), enc_fffd]; have := Tx.enc_len ((65533 : Nat) : Int); omega, by omega, hbx2⟩
                    · rw [show fixR V = (V : Int) by unfold fixR; rw [if_neg (by omega)]] at hq2
                      have HQ2 := Lib.hid hq2; clear hq2
                      have hel := Tx.enc_len (V : Int)
                      by_cases s1 : (V : Int) ≥ 55296
                      · have s2 : ¬ (V : Int) ≤ 57343 := by omega
                        clear hsur
                        go_wp2
                        go_roundg f
                        case measure => omega
                        case rel => exact ⟨i + 1 + 1 + 6, sn + 1 + 1 + 6, _, by go_num, rfl, by go_num, by omega, by omega, by rw [ba_append, enc_utf8, ← List.drop_drop]; exact HQ2.out, by omega, by rw [ba_size, Lib.size_eq (Utf8.encode _), enc_utf8]; omega, by omega, hbx2⟩
                      · clear hsur
                        go_wp2
                        go_roundg f
                        case measure => omega
                        case rel => exact ⟨i + 1 + 1 + 6, sn + 1 + 1 + 6, _, by go_num, rfl, by go_num, by omega, by omega, by rw [ba_append, enc_utf8, ← List.drop_drop]; exact HQ2.out, by omega, by rw [ba_size, Lib.size_eq (Utf8.encode _), enc_utf8]; omega, by omega, hbx2⟩
          · have hm0 : moreS y = 0 := by
              unfold moreS
              rw [if_neg (fun h => hyu (Or.inl h)), if_neg (fun h => hyu (Or.inr h))]
            rw [hm0, if_pos rfl] at hq
            subst hq
            have by117 : (y == [117]) = false := by simpa using fun h => hyu (Or.inl h)
            have by85 : (y == [85]) = false := by simpa using fun h => hyu (Or.inr h)
            clear hyu hm0 hx4 hlast
            go_wp2
            go_ret3
            exact ⟨rfl, hbw2⟩
        · rw [if_pos h92] at hq
          have b92 : (x == [92]) = false := by simpa using h92
          have HQ := Lib.hid hq; clear hq
          clear h34 h10 h92 hx4
          go_wp2
          go_roundg f
          case measure => omega
          case rel => exact ⟨i + 1, sn + x.length, _, by go_num, rfl, by go_num, by omega, by omega, by rw [ba_append]; exact HQ.out, by omega, by rw [ba_size, mk_size x]; omega, by omega, hbx⟩
      · have hiz : ¬ (i : Int) < (L.length : Int) := by omega
        have hnone : R = none := by
          rw [List.drop_eq_nil_of_le (by omega)] at hq
          rw [← hq]
          cases gk <;> rfl
        subst hnone
        clear hq hx4
        go_wp2
        go_ret3
        exact ⟨rfl, hbw.trans (hbx.mono hbw.size)⟩
  · have hnone : R = none := by rw [← HR.out]; unfold rq; rw [if_neg (by rw [hhead]; simpa using h0)]
    subst hnone
    have hb0 : (x0 == [34]) = false := by simpa using h0
    clear HR hhead hx4
    go_enter Tryd.func13, Tryd.ntmps13
    go_wp2_with (go_at_call 11; refine cS.mono ?_; rintro e W1 ⟨v, rfl, hown, hbw⟩; obtain ⟨A, cap, rfl, hcap, hA⟩ := own_reads hown; obtain ⟨g, rfl, hgB, hg, hcell⟩ := hA (by omega); have hc0 : W1.cell? ⟨g, 0, none⟩ = some (.string ⟨x0.toArray⟩) := hcell 0 _ (by simp [strCellsL, hx0]); clear hcell)
    go_ret3
    exact ⟨rfl, hbw⟩
end Go.Proofs.YtaijjabbkmdcdaaDoor
