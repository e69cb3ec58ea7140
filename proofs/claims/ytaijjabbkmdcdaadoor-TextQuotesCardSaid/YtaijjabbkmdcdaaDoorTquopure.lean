/- TextQuotes' pure statement: the law's function tells true. -/
import Derived.Test.YtaijjabbkmdcdaaDoorQx1
import Derived.Test.YtaijjabbkmdcdaaDoorTpquo
namespace Go.Proofs.YtaijjabbkmdcdaaDoor.Q
open Go.RowKit Go.Lib Go.Proofs.YtaijjabbkmdcdaaDoor Go.Proofs.YtaijjabbkmdcdaaDoor.G Go.Proofs.YtaijjabbkmdcdaaDoorW.PrintWords
set_option linter.unusedVariables false
set_option linter.unusedSimpArgs false

abbrev S1 (r : Nat) : ByteArray := ⟨(E r).toArray⟩
theorem ba_ext {a b : ByteArray} (h : a.data.toList = b.data.toList) : a = b := by
  cases a; cases b; congr 1; exact Array.ext' h
theorem S1_toList (r : Nat) : (S1 r).toList = E r := by rw [toList_data]
theorem S1_size (r : Nat) : (S1 r).size = (E r).length := by rw [size_eq]
theorem rd_S1 (rs : List Nat) (i r : Nat) (h : rs[i]? = some r) : rdOf ByteArray.empty (rs.map S1) (i : Int) = S1 r := by
  unfold rdOf
  rw [Int.toNat_natCast, List.getD_eq_getElem?_getD, List.getElem?_map, h]
  rfl
abbrev Y8 : List ByteArray := [(⟨#[48]⟩ : ByteArray), (⟨#[49]⟩ : ByteArray), (⟨#[50]⟩ : ByteArray), (⟨#[51]⟩ : ByteArray), (⟨#[52]⟩ : ByteArray), (⟨#[53]⟩ : ByteArray), (⟨#[54]⟩ : ByteArray), (⟨#[55]⟩ : ByteArray)]
abbrev Y16 : List ByteArray := [(⟨#[48]⟩ : ByteArray), (⟨#[49]⟩ : ByteArray), (⟨#[50]⟩ : ByteArray), (⟨#[51]⟩ : ByteArray), (⟨#[52]⟩ : ByteArray), (⟨#[53]⟩ : ByteArray), (⟨#[54]⟩ : ByteArray), (⟨#[55]⟩ : ByteArray), (⟨#[56]⟩ : ByteArray), (⟨#[57]⟩ : ByteArray), (⟨#[65]⟩ : ByteArray), (⟨#[66]⟩ : ByteArray), (⟨#[67]⟩ : ByteArray), (⟨#[68]⟩ : ByteArray), (⟨#[69]⟩ : ByteArray), (⟨#[70]⟩ : ByteArray)]
theorem rd_Y8 : ∀ d : Nat, d < 8 → rdOf ByteArray.empty Y8 (d : Int) = ⟨#[hexD d]⟩ := by decide +kernel
theorem rd_Y16 : ∀ d : Nat, d < 16 → rdOf ByteArray.empty Y16 (d : Int) = ⟨#[hexD d]⟩ := by decide +kernel
theorem bt_S1 (r : Nat) (h : r < 128) : bt (S1 r) 0 = r := by
  have e : S1 r = ⟨#[r.toUInt8]⟩ := by unfold S1; rw [E_low h]
  rw [e]
  show ((r.toUInt8.toNat : Nat) : Int) = r
  rw [low_toNat h]
theorem w64 (x : Int) (h0 : -9223372036854775808 ≤ x) (h1 : x ≤ 9223372036854775807) : wrap64 x = x := by unfold wrap64; omega
theorem dl (a b : ByteArray) : (a ++ b).data.toList = a.data.toList ++ b.data.toList := by rw [ByteArray.data_append, Array.toList_append]

theorem loop_quo (rs : List Nat) (hok : ∀ r ∈ rs, Tx.okRune r) (hlen : rs.length ≤ 300) (s t : ByteArray)
    (hfin : ∀ acc : ByteArray, acc.data.toList = [34] ++ pcs rs → ∃ k, polyglotlaw01_TextQuotes.l0 k s t acc (rs.map S1) (rs.length : Int) (rs.length : Int) = some true) :
    ∀ (d i : Nat) (acc : ByteArray), i + d = rs.length → acc.data.toList = [34] ++ pcs (rs.take i) → ∃ k, polyglotlaw01_TextQuotes.l0 k s t acc (rs.map S1) (rs.length : Int) (i : Int) = some true
  | 0, i, acc, hd, ha => by
    have e : i = rs.length := by omega
    subst e
    rw [List.take_length] at ha
    exact hfin acc ha
  | d + 1, i, acc, hd, ha => by
    have hi : i < rs.length := by omega
    obtain ⟨r, hr⟩ : ∃ r, rs[i]? = some r := ⟨_, List.getElem?_eq_getElem hi⟩
    have hokr := hok r (List.mem_of_getElem? hr)
    have htk : rs.take (i + 1) = rs.take i ++ [r] := by rw [List.take_add_one, hr]; rfl
    have hstep : ∀ acc' : ByteArray, acc'.data.toList = acc.data.toList ++ qPiece r → ∃ k, polyglotlaw01_TextQuotes.l0 k s t acc' (rs.map S1) (rs.length : Int) (((i + 1 : Nat)) : Int) = some true := fun acc' h' =>
      loop_quo rs hok hlen s t hfin d (i + 1) acc' (by omega) (by rw [h', ha, htk]; simp [pcs])
    have hasz : acc.size ≤ 1 + 6 * 300 := by
      rw [size_eq, ha, List.length_append]
      have := pcs_le (rs.take i)
      have := List.length_take_le i rs
      simp
      omega
    have hE := Tx.enc_len (r : Int)
    have hSs : (S1 r).size ≤ 4 ∧ 1 ≤ (S1 r).size := by rw [S1_size]; exact ⟨hE.2, hE.1⟩
    have hx := rd_S1 rs i r hr
    have hw : wrap64 ((i : Int) + 1) = ((i + 1 : Nat) : Int) := by rw [w64 _ (by omega) (by omega)]; simp
    have c34 := Tx.enc_one hokr (c := 34) (by decide)
    have c92 := Tx.enc_one hokr (c := 92) (by decide)
    have c127 := Tx.enc_one hokr (c := 127) (by decide)
    have hl32 := less32 r hokr
    by_cases h1 : r = 34 ∨ r = 92
    · have hq : qPiece r = [92] ++ E r := by unfold qPiece; rw [if_pos h1]
      obtain ⟨k, hk⟩ := hstep (acc ++ ((⟨#[92]⟩ : ByteArray) ++ S1 r)) (by rw [dl, dl, hq])
      have h3 : ∀ b, b = true → polyglotlaw01_TextQuotes.j3 (k + 1) s t acc (S1 r) (rs.map S1) (rs.length : Int) (i : Int) b = some true := by
        rintro b rfl
        rw [polyglotlaw01_TextQuotes.j3, if_pos rfl, if_pos (by omega), if_pos (by rw [ByteArray.size_append]; show acc.size + (1 + (S1 r).size) ≤ _; omega), hw]
        exact hk
      refine ⟨k + 2, ?_⟩
      rw [polyglotlaw01_TextQuotes.l0, if_pos (by omega), if_pos (by omega), if_pos (by rw [List.length_map]; omega), hx]
      by_cases h34 : r = 34
      · rw [if_pos (by rw [S1_toList]; exact c34.2 h34)]
        exact h3 true rfl
      · rw [if_neg (by rw [S1_toList]; exact fun h => h34 (c34.1 h))]
        refine h3 _ ?_
        rw [S1_toList, beq_iff_eq]
        exact c92.2 (by show r = 92; omega)
    · have hb : ((S1 r).toList == ([92] : List UInt8)) = false := by
        rw [S1_toList, beq_eq_false_iff_ne]
        exact fun h => h1 (Or.inr (c92.1 h))
      have hl0 : ∀ k, polyglotlaw01_TextQuotes.l0 (k + 1) s t acc (rs.map S1) (rs.length : Int) (i : Int) = polyglotlaw01_TextQuotes.j3 k s t acc (S1 r) (rs.map S1) (rs.length : Int) (i : Int) false := fun k => by
        rw [polyglotlaw01_TextQuotes.l0, if_pos (by omega), if_pos (by omega), if_pos (by rw [List.length_map]; omega), hx]
        rw [if_neg (by rw [S1_toList]; exact fun h => h1 (Or.inl (c34.1 h))), hb]
      by_cases h2 : r < 32 ∨ r = 127
      · have hq : qPiece r = [92, 117] ++ dig4 r := by unfold qPiece; rw [if_neg h1, if_pos h2]
        have hlow : r < 128 := by omega
        have hbt := bt_S1 r hlow
        have e0 : wrap64 (bt (S1 r) 0) = r := by rw [hbt]; exact w64 _ (by omega) (by omega)
        have e1 : wrap64 (Int.tdiv (wrap64 (bt (S1 r) 0)) 16) = ((r / 16 : Nat) : Int) := by
          rw [e0, Int.tdiv_eq_ediv_of_nonneg (by omega), w64 _ (by omega) (by omega)]; omega
        have e2 : Int.tmod (wrap64 (bt (S1 r) 0)) 16 = ((r % 16 : Nat) : Int) := by
          rw [e0, Int.tmod_eq_emod_of_nonneg (by omega)]; omega
        have y1 := rd_Y8 (r / 16) (by omega)
        have y2 := rd_Y16 (r % 16) (by omega)
        obtain ⟨k, hk⟩ := hstep (acc ++ (((⟨#[92, 117, 48, 48]⟩ : ByteArray) ++ ⟨#[hexD (r / 16)]⟩) ++ ⟨#[hexD (r % 16)]⟩)) (by
          rw [dl, dl, dl, hq]
          congr 1
          unfold dig4
          rw [show r / 4096 % 16 = 0 by omega, show r / 256 % 16 = 0 by omega, show r / 16 % 16 = r / 16 by omega]
          rfl)
        refine ⟨k + 2, ?_⟩
        rw [hl0, polyglotlaw01_TextQuotes.j3, if_neg (by decide)]
        have z1 : ((⟨#[92, 117, 48, 48]⟩ : ByteArray) ++ ⟨#[hexD (r / 16)]⟩).size = 5 := by rw [ByteArray.size_append]; rfl
        have z2 : (((⟨#[92, 117, 48, 48]⟩ : ByteArray) ++ ⟨#[hexD (r / 16)]⟩) ++ ⟨#[hexD (r % 16)]⟩).size = 6 := by rw [ByteArray.size_append, z1]; rfl
        have fin : (if 0 < ((S1 r).size : Int) then (if 0 ≤ ((r / 16 : Nat) : Int) then (if ((r / 16 : Nat) : Int) < (Y8.length : Int) then (if 4 + (rdOf ByteArray.empty Y8 ((r / 16 : Nat) : Int)).size ≤ 9223372036854775807 then ((some (Y16)).bind fun y119 => (if 0 ≤ ((r % 16 : Nat) : Int) then (if ((r % 16 : Nat) : Int) < (y119.length : Int) then (if ((⟨#[92, 117, 48, 48]⟩ : ByteArray) ++ (rdOf ByteArray.empty Y8 ((r / 16 : Nat) : Int))).size + (rdOf ByteArray.empty y119 ((r % 16 : Nat) : Int)).size ≤ 9223372036854775807 then (if acc.size + (((⟨#[92, 117, 48, 48]⟩ : ByteArray) ++ (rdOf ByteArray.empty Y8 ((r / 16 : Nat) : Int))) ++ (rdOf ByteArray.empty y119 ((r % 16 : Nat) : Int))).size ≤ 9223372036854775807 then (polyglotlaw01_TextQuotes.l0 k s t (acc ++ (((⟨#[92, 117, 48, 48]⟩ : ByteArray) ++ (rdOf ByteArray.empty Y8 ((r / 16 : Nat) : Int))) ++ (rdOf ByteArray.empty y119 ((r % 16 : Nat) : Int)))) (rs.map S1) (rs.length : Int) (wrap64 ((i : Int) + 1))) else (none)) else (none)) else (none)) else (none))) else (none)) else (none)) else (none)) else (none)) = some true := by
          rw [if_pos (by omega), if_pos (by omega), if_pos (by show ((r / 16 : Nat) : Int) < 8; omega), y1, if_pos (by show 4 + 1 ≤ _; omega), Option.bind_some]
          rw [if_pos (by omega), if_pos (by show ((r % 16 : Nat) : Int) < 16; omega), y2, if_pos (by rw [z1]; show 5 + 1 ≤ _; omega), if_pos (by rw [z2]; omega), hw]
          exact hk
        by_cases h32 : r < 32
        · rw [if_pos (by rw [S1_toList, hl32]; simpa using h32), Option.bind_some, e1, e2]
          exact fin
        · rw [if_neg (by rw [S1_toList, hl32]; simpa using h32), if_pos (by rw [S1_toList]; exact c127.2 (by show r = 127; omega)), Option.bind_some, e1, e2]
          exact fin
      · have hq : qPiece r = E r := by unfold qPiece; rw [if_neg h1, if_neg h2]
        obtain ⟨k, hk⟩ := hstep (acc ++ S1 r) (by rw [dl, hq])
        refine ⟨k + 2, ?_⟩
        rw [hl0, polyglotlaw01_TextQuotes.j3, if_neg (by decide), if_neg (by rw [S1_toList, hl32]; simp; omega), if_neg (by rw [S1_toList]; exact fun h => h2 (Or.inr (c127.1 h))), if_pos (by omega), hw]
        exact hk

theorem quotes_pure (s t : ByteArray) : ∃ k, polyglotlaw01_TextQuotes.f k s t = some true := by
  have hH : polyglotlaw01_head.f = some true := rfl
  by_cases h300 : s.size > 300
  · refine ⟨1, ?_⟩
    unfold polyglotlaw01_TextQuotes.f
    rw [hH, Option.bind_some, if_pos rfl, if_pos (by omega), polyglotlaw01_TextQuotes.j0, if_pos rfl]
  by_cases h301 : t.size > 300
  · refine ⟨1, ?_⟩
    unfold polyglotlaw01_TextQuotes.f
    rw [hH, Option.bind_some, if_pos rfl, if_neg (by omega), polyglotlaw01_TextQuotes.j0, if_pos (by simp; omega)]
  have hf : ∀ k, polyglotlaw01_TextQuotes.f (k + 2) s t = polyglotlaw01_TextQuotes.j1 (k + 1) s t (sigBA s) (if (Tx.sig s.data.toList).isSome = true then !(Tx.sig t.data.toList).isSome else true) := fun k => by
    unfold polyglotlaw01_TextQuotes.f
    rw [hH, Option.bind_some, if_pos rfl, if_neg (by omega), polyglotlaw01_TextQuotes.j0, if_neg (by simp; omega)]
    have a : polyglotlaw01_Signs.f s = some (sigBA s, (Tx.sig s.data.toList).isSome) := by unfold polyglotlaw01_Signs.f; rw [if_pos (by omega)]
    have b : polyglotlaw01_Signs.f t = some (sigBA t, (Tx.sig t.data.toList).isSome) := by unfold polyglotlaw01_Signs.f; rw [if_pos (by omega)]
    rw [a, b, Option.bind_some, Option.bind_some]
    by_cases c : (Tx.sig s.data.toList).isSome = true
    · rw [if_pos c, if_pos c]
    · rw [if_neg c, if_neg c]
  cases hsg : Tx.sig s.data.toList with
  | none => exact ⟨2, by rw [hf 0, hsg, if_neg (by simp), polyglotlaw01_TextQuotes.j1, if_pos rfl]⟩
  | some L =>
    cases hst : Tx.sig t.data.toList with
    | none => exact ⟨2, by rw [hf 0, hsg, hst, if_pos (by rfl), polyglotlaw01_TextQuotes.j1, if_pos (by rfl)]⟩
    | some M =>
      obtain ⟨rs, hok, hse, rfl⟩ := Tx.sig_some hsg
      have hL : sigBA s = rs.map S1 := by unfold sigBA; rw [hsg]; simp [S1]
      have hlen : rs.length ≤ 300 := by
        have := enc_len_ge rs
        rw [← hse, ← size_eq] at this
        omega
      have hq := quoteL_enc rs hok
      have hqs : (quoteL (Tx.enc rs)).length ≤ 1802 := by
        rw [hq]
        have := pcs_le rs
        simp
        omega
      have hQ : text_Quote.f s = some ⟨(quoteL (Tx.enc rs)).toArray⟩ := by unfold text_Quote.f; rw [if_pos (by omega), hse]
      obtain ⟨q, hqd⟩ : ∃ q : ByteArray, (⟨(quoteL (Tx.enc rs)).toArray⟩ : ByteArray) = q := ⟨_, rfl⟩
      have hql : q.data.toList = quoteL (Tx.enc rs) := by rw [← hqd]
      have hqz : q.size ≤ 1802 := by rw [size_eq, hql]; exact hqs
      rw [hqd] at hQ
      have hU : text_Unquote.f (q ++ t) = some (s, (q.size : Int), true) := by
        unfold text_Unquote.f
        rw [if_pos (by rw [ByteArray.size_append]; omega), dl, hql, uq_quote rs hok]
        show some ((⟨(Tx.enc rs).toArray⟩ : ByteArray), ((quoteL (Tx.enc rs)).length : Int), true) = _
        have e1 : (⟨(Tx.enc rs).toArray⟩ : ByteArray) = s := ba_ext (by rw [hse])
        rw [e1, size_eq q, hql]
      obtain ⟨k, hk⟩ := loop_quo rs hok hlen s t (fun acc ha => by
        refine ⟨1, ?_⟩
        rw [polyglotlaw01_TextQuotes.l0, if_neg (by omega), hQ, Option.bind_some, if_pos (by omega), hU, Option.bind_some]
        have hasz : acc.size ≤ 1802 := by
          rw [size_eq, ha]
          have := pcs_le rs
          simp
          omega
        rw [if_pos (by omega), if_pos (by rw [toList_data, toList_data, dl, ha, hql, hq]), if_pos rfl, if_pos rfl]
        simp) rs.length 0 ⟨#[34]⟩ (by omega) (by simp [pcs])
      refine ⟨k + 2, ?_⟩
      rw [hf k, hsg, hst, if_pos (by rfl), polyglotlaw01_TextQuotes.j1, if_neg (by simp), hL, List.length_map]
      exact hk
theorem quotes_walk (s t : ByteArray) (w : World) (hT : Tabs w) : Calls Tryd.prog 5 #[.string s, .string t] w fun e w' => e = .returned (.bool true) ∧ Below w.heap.size w w' := by
  obtain ⟨k, hk⟩ := quotes_pure s t
  exact polyglotlaw01_TextQuotes.calls k s t true w hk hT
end Go.Proofs.YtaijjabbkmdcdaaDoor.Q
