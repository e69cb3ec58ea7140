/- The walks of the statements' Signs and right. -/
import Derived.Test.YtaijjabbkmdcdaaDoorTright
namespace Go.Proofs.YtaijjabbkmdcdaaDoor
open Go.RowKit
set_option linter.unusedVariables false
set_option linter.unusedSimpArgs false

theorem strInfo : (Tryd.prog.info? 9).map (fun i => (i.zero, i.size, i.bytes)) = some (some (.string .empty), 1, 16) := by kernel_rfl
/-- Texts as the cells of a []string. -/
def strCellsL (L : List (List UInt8)) : List Value := L.map fun x => Value.string ⟨x.toArray⟩
theorem strCellsL_len (L : List (List UInt8)) : (strCellsL L).length = L.length := by simp [strCellsL]
theorem strCellsL_snoc (L : List (List UInt8)) (x : List UInt8) : strCellsL (L ++ [x]) = strCellsL L ++ [.string ⟨x.toArray⟩] := by simp [strCellsL]
theorem head_list (t : ByteArray) (k : Nat) : t.extract 0 k = ⟨(t.data.toList.take k).toArray⟩ := by
  apply ByteArray.ext
  apply Array.toList_inj.1
  rw [Lib.extract_data]; simp
theorem mk_list (t : ByteArray) : (⟨t.data.toList.toArray⟩ : ByteArray) = t := by cases t; simp
theorem decodeGo_L (t : ByteArray) (h : 0 < t.size) : Lib.decodeGo t = Lib.decodeL t.data.toList := by
  unfold Lib.decodeGo
  rw [if_neg (by omega), ← Lib.decodeL_drop, List.drop_zero]

set_option maxRecDepth 100000 in
set_option maxHeartbeats 4000000 in
theorem signs_any (s : ByteArray) (w : World) (hs : s.size < 1099511627776) (hT : Tabs w) :
    Calls Tryd.prog 11 #[.string s] w fun e w' => ∃ v, e = .returned (.tuple #[v, .bool (Tx.sig s.data.toList).isSome]) ∧
      w'.ownsRow w.heap.size 9 1 v ((Tx.sig s.data.toList).getD []).length (strCellsL ((Tx.sig s.data.toList).getD [])) ∧ Below w.heap.size w w' := by
  have hlen : s.data.toList.length = s.size := (Lib.size_eq s).symm
  obtain ⟨i0, hi, hz0, hz1, hz2⟩ := info_parts strInfo
  obtain ⟨R, hR⟩ : ∃ R, Tx.sig s.data.toList = R := ⟨_, rfl⟩
  rw [hR]
  go_enter Tryd.func11, Tryd.ntmps11
  go_wp2
  go_loopg [0, 4] s.size (fun gk ss so wx => ∃ (t : ByteArray) (acc : List (List UInt8)), ss = .string t ∧ wx.ownsRow w.heap.size 9 1 so acc.length (strCellsL acc) ∧ Below w.heap.size w wx ∧
    (Tx.sigF gk t.data.toList).map (fun L => acc ++ L) = R ∧ t.size ≤ gk ∧ acc.length + t.size ≤ s.size)
  case atStart => exact ⟨s, [], rfl, World.ownsRow_lit w #[] 0 (Nat.le_refl _) (by decide) (by simp), (Below.refl _ _).alloc (Nat.le_refl _) _, by rw [← hR, ← hlen]; simp [Tx.sig], by omega, by simp⟩
  case round =>
    obtain ⟨t, acc, rfl, hown, hbw, hleft, hfu, hal⟩ := hrel
    clear hR
    by_cases ht : 0 < t.size
    · have htz : (0 : Int) < (t.size : Int) := by omega
      have hne : t.data.toList ≠ [] := fun h => by
        have : t.size = 0 := by rw [Lib.size_eq, h]; rfl
        omega
      have cD := Tryd.utf8_DecodeRuneInString t wr (Utf8Tabs_below hT hbw)
      obtain ⟨f, rfl⟩ : ∃ f, gk = f + 1 := ⟨gk - 1, by omega⟩
      unfold Tx.sigF at hleft
      rw [if_neg hne] at hleft
      rw [decodeGo_L t ht] at cD
      have hwd := Lib.decodeL_width t.data.toList
      have hr1 := Lib.decodeL_rune t.data.toList
      have hk2 := Lib.decodeL_le t.data.toList hne
      rw [← Lib.size_eq] at hk2
      obtain ⟨Q, hQ⟩ : ∃ Q, (Lib.decodeL t.data.toList).1 = Q := ⟨_, rfl⟩
      obtain ⟨K, hK⟩ : ∃ K, (Lib.decodeL t.data.toList).2 = K := ⟨_, rfl⟩
      rw [hQ, hK] at cD hleft
      rw [hK] at hwd hk2
      rw [hQ] at hr1
      clear hQ hK hT hne
      by_cases hbad : Q = 65533 ∧ K ≤ 1
      · rw [if_pos hbad] at hleft
        obtain ⟨rfl, hK1⟩ := hbad
        have hR' : R = none := hleft.symm
        subst hR'
        clear hleft
        have hK1z : (K : Int) ≤ 1 := by omega
        go_wp2_with (go_at_call 9; refine cD.mono ?_; rintro e W1 ⟨rfl, b1⟩)
        go_ret2
        exact ⟨_, rfl, World.ownsRow_nil _ _ _ _, hbw.trans (b1.mono hbw.size)⟩
      · rw [if_neg hbad] at hleft
        have HL := Lib.hid hleft; clear hleft
        have hkz : K ≤ t.size := hk2
        have hsp : Hid (t.extract 0 K = ⟨(t.data.toList.take K).toArray⟩) := Lib.hid (head_list t K)
        by_cases hQ : Q = 65533
        · subst hQ
          have hK1z : ¬ (K : Int) ≤ 1 := by omega
          clear hbad
          go_wp2_with (first
            | (go_at_call 9; refine cD.mono ?_; rintro e W1 ⟨rfl, b1⟩; have hown1 := ownsRow_below hown b1; have hbW1 := hbw.trans (b1.mono hbw.size))
            | (at_builtin; refine wpList_append_own _ rfl _ _ 28 rfl w.heap.size 9 i0 (.string .empty) 1 16 Tryd.underlying28 hi hz0 hz1 hz2 rfl (by decide) _ _ _ rfl (hown1.alloc _) ⟨W1.heap.size, 0, none⟩ 1 1 [.string (t.extract 0 K)] rfl rfl ?c1 ?c2 ?c3 ?c4 ?c5 ?_))
          case c1 =>
            intro j u hj
            match j, hj with
            | 0, hj => simp at hj; subst hj; simp [Addr.add]
          case c2 => intro u hu; simp at hu; subst hu; rfl
          case c3 => unfold maxLen; omega
          case c4 => omega
          case c5 => have := hbW1.size; simp; omega
          intro v' w2 hown' hgrow _
          go_wp2
          go_roundg f
          case measure => omega
          case rel =>
            refine ⟨t.extract K t.size, acc ++ [t.data.toList.take K], rfl, ?_, (hbW1.alloc hbW1.size _).grown hgrow (by have := hbW1.size; simp; omega) (fun k hk => (hown1.lt k hk).1), ?_, ?_, ?_⟩
            · rw [strCellsL_snoc, ← hsp.out, List.length_append]
              exact hown'
            · rw [Lib.extract_to_end, ← HL.out]
              cases Tx.sigF f (t.data.toList.drop K) <;> simp
            · rw [Lib.tail_size]; omega
            · rw [Lib.tail_size, List.length_append]; simp; omega
        · have hQz : ((Q : Int) == 65533) = false := by simp; omega
          clear hbad
          go_wp2_with (first
            | (go_at_call 9; refine cD.mono ?_; rintro e W1 ⟨rfl, b1⟩; have hown1 := ownsRow_below hown b1; have hbW1 := hbw.trans (b1.mono hbw.size))
            | (at_builtin; refine wpList_append_own _ rfl _ _ 28 rfl w.heap.size 9 i0 (.string .empty) 1 16 Tryd.underlying28 hi hz0 hz1 hz2 rfl (by decide) _ _ _ rfl (hown1.alloc _) ⟨W1.heap.size, 0, none⟩ 1 1 [.string (t.extract 0 K)] rfl rfl ?c1 ?c2 ?c3 ?c4 ?c5 ?_))
          case c1 =>
            intro j u hj
            match j, hj with
            | 0, hj => simp at hj; subst hj; simp [Addr.add]
          case c2 => intro u hu; simp at hu; subst hu; rfl
          case c3 => unfold maxLen; omega
          case c4 => omega
          case c5 => have := hbW1.size; simp; omega
          intro v' w2 hown' hgrow _
          go_wp2
          go_roundg f
          case measure => omega
          case rel =>
            refine ⟨t.extract K t.size, acc ++ [t.data.toList.take K], rfl, ?_, (hbW1.alloc hbW1.size _).grown hgrow (by have := hbW1.size; simp; omega) (fun k hk => (hown1.lt k hk).1), ?_, ?_, ?_⟩
            · rw [strCellsL_snoc, ← hsp.out, List.length_append]
              exact hown'
            · rw [Lib.extract_to_end, ← HL.out]
              cases Tx.sigF f (t.data.toList.drop K) <;> simp
            · rw [Lib.tail_size]; omega
            · rw [Lib.tail_size, List.length_append]; simp; omega
    · have htz : ¬ (0 : Int) < (t.size : Int) := by omega
      have hnil : t.data.toList = [] := List.eq_nil_of_length_eq_zero (by rw [← Lib.size_eq]; omega)
      rw [hnil, Tx.sigF_nil] at hleft
      simp only [Option.map_some, List.append_nil] at hleft
      subst hleft
      clear hnil hT
      go_wp2
      go_ret2
      exact ⟨_, rfl, hown, hbw⟩

/-- What 'right' asks of the signs, one by one: 'ok && list[i] != CR'. -/
def rightF (L : List (List UInt8)) (ok : Bool) : Bool := ok && L.all (· != [13])
theorem ba_append (s t : ByteArray) : (s ++ t).data.toList = s.data.toList ++ t.data.toList := by rw [ByteArray.data_append, Array.toList_append]
theorem ba_size (s t : ByteArray) : (s ++ t).size = s.size + t.size := by rw [Lib.size_eq, ba_append, List.length_append, ← Lib.size_eq, ← Lib.size_eq]
theorem mk_size (x : List UInt8) : (⟨x.toArray⟩ : ByteArray).size = x.length := by rw [Lib.size_eq]
theorem ba_beq (a b : ByteArray) : (a == b) = (a.data.toList == b.data.toList) := by
  have h : (a == b) = (a.data == b.data) := rfl
  rw [h]
  apply Bool.eq_iff_iff.2
  simp only [beq_iff_eq]
  exact Array.toList_inj.symm
theorem ba_eq (x y : List UInt8) : ((⟨x.toArray⟩ : ByteArray) == ⟨y.toArray⟩) = (x == y) := by rw [ba_beq]
theorem ba_ne (x y : List UInt8) : ((⟨x.toArray⟩ : ByteArray) != ⟨y.toArray⟩) = (x != y) := by show (!_) = (!_); rw [ba_eq]
theorem enc_len_ge : ∀ rs : List Nat, rs.length ≤ (Tx.enc rs).length
  | [] => by simp
  | r :: rs => by
    have h1 := (Tx.enc_len (r : Int)).1
    have h2 := enc_len_ge rs
    rw [Tx.enc_cons, List.length_append, List.length_cons]; omega
theorem sig_len {l : List UInt8} {L : List (List UInt8)} (h : Tx.sig l = some L) : L.length ≤ l.length := by
  obtain ⟨rs, _, rfl, rfl⟩ := Tx.sig_some h
  have := enc_len_ge rs
  simpa using this
/-- A row of one-cell elements, as its readers want it. -/
theorem own_reads {w : World} {B : Nat} {e : TypeId} {v : Value} {n : Nat} {xs : List Value} (h : w.ownsRow B e 1 v n xs) :
    ∃ A cap, v = .slice A n cap ∧ n ≤ cap ∧ (0 < n → ∃ g, A = some ⟨g, 0, none⟩ ∧ B ≤ g ∧ g < w.heap.size ∧ ∀ j u, xs[j]? = some u → w.cell? ⟨g, j, none⟩ = some u) := by
  have hlt := h.lt
  rcases h.2 with ⟨rfl, rfl⟩ | ⟨g, cap, cur, rfl, hB, hh, hc, _⟩
  · exact ⟨none, 0, rfl, Nat.le_refl _, fun h => absurd h (by omega)⟩
  · refine ⟨_, cap, rfl, hc, fun _ => ⟨g, rfl, hB, (hlt g rfl).2, fun j u hj => ?_⟩⟩
    have := h.cells (g := g) rfl j u hj
    rwa [Go.WideShapes.add_plain, Nat.zero_add] at this

set_option maxRecDepth 100000 in
set_option maxHeartbeats 4000000 in
theorem lright_any (s : ByteArray) (w : World) (hs : s.size < 1099511627776) (hT : Tabs w) :
    Calls Tryd.prog 16 #[.string s] w fun e w' => e = .returned (.bool (Tx.rightL s.data.toList)) ∧ Below w.heap.size w w' := by
  have hlen : s.data.toList.length = s.size := (Lib.size_eq s).symm
  have hR : Tx.rightL s.data.toList = rightF ((Tx.sig s.data.toList).getD []) (Tx.sig s.data.toList).isSome := by
    unfold Tx.rightL rightF
    cases Tx.sig s.data.toList <;> simp
  have cS := signs_any s w hs hT
  obtain ⟨L, ok, hL, hok, hLl⟩ : ∃ L ok, (Tx.sig s.data.toList).getD [] = L ∧ (Tx.sig s.data.toList).isSome = ok ∧ L.length ≤ s.size := by
    refine ⟨_, _, rfl, rfl, ?_⟩
    cases h : Tx.sig s.data.toList with
    | none => simp
    | some L => have := sig_len h; simp; omega
  rw [hL, hok] at cS hR
  rw [hR]
  clear hR hL hok
  obtain ⟨R, hR⟩ : ∃ R, rightF L ok = R := ⟨_, rfl⟩
  rw [hR]
  have HR := Lib.hid hR; clear hR
  go_enter Tryd.func16, Tryd.ntmps16
  go_wp2_with (go_at_call 11; refine cS.mono ?_; rintro e W1 ⟨v, rfl, hown, hbw⟩; obtain ⟨A, cap, rfl, hcap, hA⟩ := own_reads hown)
  go_loopw [4, 13] (fun sk si wx => ∃ (i : Nat) (o : Bool), si = .int .i64 i ∧ sk = .bool o ∧ i ≤ L.length ∧ rightF (L.drop i) o = R ∧ Below W1.heap.size W1 wx) (fun _ i _ => L.length - (intOf i).toNat)
  case atStart => exact ⟨0, ok, rfl, rfl, Nat.zero_le _, by simpa using HR.out, Below.refl _ _⟩
  case round =>
    obtain ⟨i, o, rfl, rfl, hi, hc, hbx⟩ := hrel
    clear hT cS
    by_cases hiL : i < L.length
    · have hiz : (i : Int) < (L.length : Int) := by omega
      obtain ⟨g, rfl, hgB, hg, hcell⟩ := hA (by omega)
      obtain ⟨x, hx⟩ : ∃ x, L[i]? = some x := ⟨L[i], List.getElem?_eq_getElem hiL⟩
      have hcx : wr.cell? ⟨g, i, none⟩ = some (.string ⟨x.toArray⟩) := by
        rw [hbx.cell (p := ⟨g, i, none⟩) hg]
        exact hcell i _ (by simp [strCellsL, hx])
      have hd : L.drop i = x :: L.drop (i + 1) := by
        rw [List.drop_eq_getElem_cons hiL]
        rw [List.getElem?_eq_getElem hiL] at hx
        rw [Option.some.inj hx]
      have hstep : rightF (L.drop i) o = rightF (L.drop (i + 1)) (o && x != [13]) := by
        rw [hd]; unfold rightF; simp [Bool.and_assoc]
      rw [hstep] at hc
      obtain ⟨q, hq⟩ : ∃ q, (x != [13]) = q := ⟨_, rfl⟩
      rw [hq] at hc
      have HQ := Lib.hid hq
      have HC := Lib.hid hc; clear hc
      clear hA hcell hd hstep hq hx
      cases o with
      | true =>
        go_wp2
        go_roundw
        case rel => exact ⟨i + 1, q, by go_num, by rw [← HQ.out]; rfl, by omega, by have := HC.out; simpa using this, by first | exact hbx | exact hbx.drew⟩
        case measure => simp [intOf]; omega
      | false =>
        go_wp2
        go_roundw
        case rel => exact ⟨i + 1, false, by go_num, rfl, by omega, by have := HC.out; simpa using this, by first | exact hbx | exact hbx.drew⟩
        case measure => simp [intOf]; omega
    · have hiz : ¬ (i : Int) < (L.length : Int) := by omega
      rw [List.drop_eq_nil_of_le (by omega)] at hc
      have hR' : o = R := by rw [← hc]; unfold rightF; simp
      subst hR'
      clear hc hA
      go_wp2
      go_ret
      exact ⟨rfl, hbw.trans (hbx.mono hbw.size)⟩
end Go.Proofs.YtaijjabbkmdcdaaDoor
