/- append([]byte(a), b...): a law; the walk of TextJoins: it returns true. -/
import Derived.Test.YtaijjabbkmdcdaaDoorTlawRight
import Derived.Maps.AppendAt
namespace Go.Proofs.YtaijjabbkmdcdaaDoor
open Go.RowKit
set_option linter.unusedVariables false
set_option linter.unusedSimpArgs false

/-- Stores into a row whose frozen stretch begins behind what is written. -/
theorem storeCells_ahead (P : Program) (g : Nat) (t : TypeId) (fz : Nat × Nat) : ∀ (vs : List Value) (o i : Nat) (cur : Array Value) (w : World), w.heap[g]? = some (.cells cur t fz) → o + i + vs.length ≤ fz.1 → o + i + vs.length ≤ cur.size → (∀ v ∈ vs, v.oneCell' = true) →
    (storeCells ⟨g, o, none⟩ vs i).run P w = .ok () (w.setRow g (cur.toList.take (o + i) ++ vs ++ cur.toList.drop (o + i + vs.length)).toArray)
  | [], o, i, cur, w, hg, _, _, _ => by
    simp only [storeCells, List.append_nil, List.length_nil, Nat.add_zero, List.take_append_drop, Array.toArray_toList]
    rw [setRow_self w g cur t fz hg]
    rfl
  | v :: rest, o, i, cur, w, hg, hfz, hl, h1 => by
    have hi : o + i < cur.size := by simp at hl; omega
    have hadd : (⟨g, o, none⟩ : Addr).add i = ⟨g, o + i, none⟩ := by unfold Addr.add; split <;> simp_all
    have hcell : w.cell? ⟨g, o + i, none⟩ = some cur[o + i] := by simp [World.cell?, hg, hi]
    have hfro : w.frozen? ⟨g, o + i, none⟩ = false := by
      obtain ⟨lo, hi'⟩ := fz
      simp only [World.frozen?, hg, Bool.and_eq_false_iff, decide_eq_false_iff_not]
      left
      simp at hfz
      omega
    have hst : (store ((⟨g, o, none⟩ : Addr).add i) v).run P w = .ok () (w.setRow g (cur.setIfInBounds (o + i) v)) := by
      rw [hadd, run_store P w _ v _ (h1 v (by simp)), hcell]
      simp [hfro, setCell_eq_setRow w g (o + i) cur t fz v hg]
    have ih := storeCells_ahead P g t fz rest o (i + 1) (cur.setIfInBounds (o + i) v) (w.setRow g (cur.setIfInBounds (o + i) v)) (setRow_heap w g cur _ t _ hg) (by simp at hfz; omega) (by simp at hl ⊢; omega) (fun x hx => h1 x (by simp [hx]))
    simp only [storeCells, Sem.run_bind, hst, Result.andThen_ok, ih, setRow_setRow]
    congr 3
    have e := list_seg_step cur.toList (o + i) v rest (by simp at hl ⊢; omega)
    simpa [Array.toList_setIfInBounds, Nat.add_assoc] using e

theorem firstCells_bts {w : World} {t : ByteArray} {A : Option Addr} (h : Bts t A w) (cap : Nat) : (Builtin.firstCells 1 t.size (.slice A t.size cap)).run Tryd.prog w = .ok (Lib.strCells t).toArray w := by
  cases A with
  | none =>
    have h0 := h.1 rfl
    have : Lib.strCells t = [] := by rw [Lib.strCells_eq, List.eq_nil_of_length_eq_zero (l := t.data.toList) (by rw [← Lib.size_eq]; exact h0)]; rfl
    rw [this]
    rfl
  | some ad =>
    refine run_firstCells_some w 1 t.size ad t.size cap (Lib.strCells t) (by simp [Lib.strCells_length]) fun j v hj => ?_
    have hj1 : j < t.size := by
      have := (List.getElem?_eq_some_iff.1 hj).1
      rwa [Lib.strCells_length] at this
    obtain ⟨b, off, e, _, hB⟩ := h.2 (by omega)
    cases e
    rw [Go.WideShapes.add_plain, hB j hj1, ← hj, Lib.strCells_eq, ← Lib.getD_get!']
    have hj2 : j < t.data.toList.length := by rw [← Lib.size_eq]; exact hj1
    rw [Lib.byteCells, List.getElem?_map, List.getElem?_eq_getElem hj2, List.getD_eq_getElem?_getD, List.getElem?_eq_getElem hj2]
    rfl

/-- append([]byte(s), t...): the bytes of both, in a row of the call's own. -/
theorem append_bytes (w : World) (s t : ByteArray) (A : Option Addr) (cap : Nat) (ty : TypeId) (hB : Bts t A (Lib.bytesWorld w 5 s)) (hsz : s.size + t.size ≤ 1000000) :
    ∃ g c' w', (Builtin.append_ #[22, 22] ty #[.slice (some ⟨w.heap.size, 0, none⟩) s.size (grownCap w s.size 0 5), .slice A t.size cap]).run Tryd.prog (Lib.bytesWorld w 5 s) = .ok (.slice (some ⟨g, 0, none⟩) (s.size + t.size) c') w' ∧
      s.size + t.size ≤ c' ∧ (∀ j u, (Lib.byteCells (s.data.toList ++ t.data.toList))[j]? = some u → w'.cell? ⟨g, j, none⟩ = some u) ∧ Below w.heap.size w w' := by
  obtain ⟨i0, hi, hz0, hz1, hz2⟩ := info_parts byteInfo
  have hbb := below_bytes w s
  have hg := Lib.bytesWorld_at_new w 5 s
  have hf := firstCells_bts hB cap
  have hge := grownCap_ge w s.size 0 5
  have hcl : (Lib.bytesCells w 5 s).toList = Lib.byteCells s.data.toList ++ List.replicate (grownCap w s.size 0 5 - s.size) (.int .u8 0) := by
    simp [Lib.bytesCells, Lib.byteCells]
  have hlen : s.data.toList.length = s.size := (Lib.size_eq s).symm
  obtain ⟨G, hG⟩ : ∃ G, grownCap w s.size 0 5 = G := ⟨_, rfl⟩
  rw [hG] at hge hcl
  have hCs : (Lib.bytesCells w 5 s).size = G := by
    rw [← Array.length_toList, hcl, List.length_append, Lib.byteCells_length, List.length_replicate]; omega
  have htk : (Lib.bytesCells w 5 s).toList.take s.size = Lib.byteCells s.data.toList := by
    rw [hcl]; exact List.take_left' (by rw [Lib.byteCells_length]; exact hlen)
  rw [hCs] at hg
  by_cases hroom : s.size + t.size ≤ G
  · have hst := storeCells_ahead Tryd.prog w.heap.size 5 (G, G + 1) (Lib.strCells t) s.size 0 _ _ hg (by rw [Lib.strCells_length]; show s.size + 0 + t.size ≤ G; omega) (by rw [Lib.strCells_length, hCs]; omega) (Lib.strCells_oneCell t)
    rw [Nat.add_zero, htk, Lib.strCells_length] at hst
    obtain ⟨N, hN⟩ : ∃ N : Array Value, (Lib.byteCells s.data.toList ++ Lib.strCells t ++ (Lib.bytesCells w 5 s).toList.drop (s.size + t.size)).toArray = N := ⟨_, rfl⟩
    rw [hN] at hst
    refine ⟨w.heap.size, G, (Lib.bytesWorld w 5 s).setRow w.heap.size N, ?_, hroom, fun j u hu => ?_, ?_⟩
    · rw [hG]
      simp [Builtin.append_, run_underlying Tryd.underlying22, sizeOf, typeInfo, hi, hz1, Builtin.lenOf, hroom, hf, Addr.add_lit, hst]
    · rw [Lib.cell_of_heap (setRow_heap _ _ _ _ _ _ hg), ← hN]
      have hj := (List.getElem?_eq_some_iff.1 hu).1
      rw [List.getElem?_toArray, Lib.strCells_eq, ← Lib.byteCells_append, List.getElem?_append_left hj]
      exact hu
    · exact hbb.trans ⟨rfl, rfl, rfl, by simp, fun k hk => setRow_other _ _ _ _ (by omega)⟩
  · cases A with
    | none => exact absurd (hB.1 rfl) (by omega)
    | some ad =>
      have hnews : ∀ j v, (Lib.strCells t)[j]? = some v → (Lib.bytesWorld w 5 s).cell? (ad.add j) = some v := by
        intro j v hj
        have hj1 : j < t.size := by
          have := (List.getElem?_eq_some_iff.1 hj).1
          rwa [Lib.strCells_length] at this
        obtain ⟨b, off, e, _, hBB⟩ := hB.2 (by omega)
        cases e
        rw [Go.WideShapes.add_plain, hBB j hj1, ← hj, Lib.strCells_eq, ← Lib.getD_get!']
        have hj2 : j < t.data.toList.length := by rw [← Lib.size_eq]; exact hj1
        rw [Lib.byteCells, List.getElem?_map, List.getElem?_eq_getElem hj2, List.getD_eq_getElem?_getD, List.getElem?_eq_getElem hj2]
        rfl
      have holds : ∀ j v, (Lib.byteCells s.data.toList)[j]? = some v → (Lib.bytesWorld w 5 s).cell? ((⟨w.heap.size, 0, none⟩ : Addr).add j) = some v := by
        intro j v hj
        rw [Go.WideShapes.add_plain, Nat.zero_add, Lib.cell_of_heap hg, ← Array.getElem?_toList, hcl, List.getElem?_append_left (List.getElem?_eq_some_iff.1 hj).1]
        exact hj
      have hr := run_append_grow (P := Tryd.prog) (Lib.bytesWorld w 5 s) 22 ty 5 i0 (.int .u8 0) Tryd.underlying22 hi hz0 ⟨w.heap.size, 0, none⟩ s.size G (Lib.byteCells s.data.toList) (by rw [hz1, Lib.byteCells_length]; omega) holds
        ad t.size cap (Lib.strCells t) (by rw [hz1, Lib.strCells_length]; omega) hnews (by omega) (by omega) (by rw [hz2]; exact growslice_fits (by omega) (by omega))
      rw [hG]
      refine ⟨_, _, _, hr, grownCap_ge _ _ _ _, fun j u hu => ?_, ?_⟩
      · have hnew := heap_alloc_new (Lib.bytesWorld w 5 s).drew (.cells ((Lib.byteCells s.data.toList).toArray ++ (Lib.strCells t).toArray ++ Builtin.zeroCells (Value.int .u8 0).cells (grownCap (Lib.bytesWorld w 5 s) (s.size + t.size) G 5 - (s.size + t.size))) 5)
        have hj := (List.getElem?_eq_some_iff.1 hu).1
        rw [show (Lib.bytesWorld w 5 s).heap.size = (Lib.bytesWorld w 5 s).drew.heap.size from rfl, Lib.cell_of_heap hnew, ← Array.getElem?_toList]
        simp only [Array.toList_append]
        rw [Lib.strCells_eq, ← Lib.byteCells_append, List.getElem?_append_left hj]
        exact hu
      · exact (hbb.drew).alloc hbb.size _

theorem wpList_append_bytes {ops : Array Oper} {rest : List Oper} {o : Oper} {a : Act} {Q : Exit → Act → World → Prop} (hgd : o.guard = none) (sl x : Operand)
    (ho : o.op = .call { callee := .builtin .append, args := #[sl, x], argTypes := #[22, 22] })
    (w : World) (s t : ByteArray) (A : Option Addr) (cap : Nat) (hs : a.eval sl = .slice (some ⟨w.heap.size, 0, none⟩) s.size (grownCap w s.size 0 5)) (hx : a.eval x = .slice A t.size cap)
    (hB : Bts t A (Lib.bytesWorld w 5 s)) (hsz : s.size + t.size ≤ 1000000)
    (h : ∀ g c' w', s.size + t.size ≤ c' → (∀ j u, (Lib.byteCells (s.data.toList ++ t.data.toList))[j]? = some u → w'.cell? ⟨g, j, none⟩ = some u) → Below w.heap.size w w' → wpList Tryd.prog ops Q rest (a.put o.dst (.slice (some ⟨g, 0, none⟩) (s.size + t.size) c')) w') :
    wpList Tryd.prog ops Q (o :: rest) a (Lib.bytesWorld w 5 s) := by
  refine wpList_plain hgd fun K hK => ?_
  obtain ⟨g, c', w', hr, h1, h2, h3⟩ := append_bytes w s t A cap o.type hB hsz
  unfold Oper.wp execOp
  simp only [ho, resolve, invoke, builtin, Sem.run_bind, Sem.run_pure, Result.andThen_ok, List.map_toArray, List.map_cons, List.map_nil, hs, hx, hr]
  exact hK _ _ (h g c' w' h1 h2 h3)

theorem byteCells_get (l : List UInt8) (j : Nat) (h : j < l.length) : (Lib.byteCells l)[j]? = some (.int .u8 (l.getD j 0).toNat) := by
  rw [Lib.byteCells, List.getElem?_map, List.getElem?_eq_getElem h, List.getD_eq_getElem?_getD, List.getElem?_eq_getElem h]; rfl

set_option maxRecDepth 100000 in
set_option maxHeartbeats 4000000 in
theorem joins_walk (s t : ByteArray) (A : Option Addr) (cap : Nat) (w : World) (hm : s.size ≤ 9223372036854775807) (hm2 : t.size ≤ 9223372036854775807) (hcap : t.size ≤ cap) (hB : Bts t A w) (hT : Tabs w) :
    Calls Tryd.prog 6 #[.string s, .slice A t.size cap] w fun e w' => e = .returned (.bool true) ∧ Below w.heap.size w w' := by
  have hG := Good.start hT
  have cH := hG.calls (head_any w hT)
  by_cases h300 : s.size > 300
  · have hz : (s.size : Int) > 300 := by omega
    clear hB
    go_enter Tryd.func6, Tryd.ntmps6
    go_wp2_with (go_at_call 8; refine cH.mono ?_; rintro e W1 ⟨rfl, hG1⟩)
    go_ret
    exact ⟨rfl, hG1.2⟩
  by_cases h301 : t.size > 300
  · have hz : ¬ (s.size : Int) > 300 := by omega
    have hz1 : (t.size : Int) > 300 := by omega
    clear hB
    go_enter Tryd.func6, Tryd.ntmps6
    go_wp2_with (go_at_call 8; refine cH.mono ?_; rintro e W1 ⟨rfl, hG1⟩)
    go_ret
    exact ⟨rfl, hG1.2⟩
  have hz : ¬ (s.size : Int) > 300 := by omega
  have hz1 : ¬ (t.size : Int) > 300 := by omega
  have cS : ∀ W, Good w W → Calls Tryd.prog 11 #[.string s] W fun e w' => ∃ v, e = .returned (.tuple #[v, .bool (Tx.sig s.data.toList).isSome]) ∧ Good w w' := fun W h =>
    (signs_any s W (by omega) h.1).mono fun e w' ⟨v, he, _, hb⟩ => ⟨v, he, h.step hb⟩
  cases hsg : (Tx.sig s.data.toList).isSome with
  | false =>
    rw [hsg] at cS
    clear hsg hB h300 h301
    go_enter Tryd.func6, Tryd.ntmps6
    go_wp2_with (first
      | (go_at_call 8; refine cH.mono ?_; rintro e W1 ⟨rfl, hG1⟩)
      | (go_at_call 11; refine (cS _ (by assumption)).mono ?_; rintro e W1 ⟨v, rfl, hG1⟩))
    go_ret
    exact ⟨rfl, hG1.2⟩
  | true =>
    rw [hsg] at cS
    have hj := Tx.joins s.data.toList t.data.toList hsg
    have hl1 := Tx.dec_len s.data.toList.length s.data.toList (Nat.le_refl _)
    have hl2 := Tx.dec_len t.data.toList.length t.data.toList (Nat.le_refl _)
    have hlen : s.data.toList.length = s.size := (Lib.size_eq s).symm
    have hlen2 : t.data.toList.length = t.size := (Lib.size_eq t).symm
    obtain ⟨D1, hD1⟩ : ∃ D : ByteArray, (⟨(Tx.dec s.data.toList).toArray⟩ : ByteArray) = D := ⟨_, rfl⟩
    obtain ⟨D2, hD2⟩ : ∃ D : ByteArray, (⟨(Tx.dec t.data.toList).toArray⟩ : ByteArray) = D := ⟨_, rfl⟩
    have hD : (⟨(Tx.dec (s.data.toList ++ t.data.toList)).toArray⟩ : ByteArray) = D1 ++ D2 := by
      rw [← hD1, ← hD2, hj]
      apply ByteArray.ext
      rw [ByteArray.data_append]; simp
    have hs1 : D1.size ≤ 1200 := by rw [← hD1, Lib.size_eq]; simp; omega
    have hs2 : D2.size ≤ 1200 := by rw [← hD2, Lib.size_eq]; simp; omega
    have cJ : ∀ W g c', Good w W → s.size + t.size ≤ c' → (∀ j u, (Lib.byteCells (s.data.toList ++ t.data.toList))[j]? = some u → W.cell? ⟨g, j, none⟩ = some u) →
        Calls Tryd.prog 10 #[.slice (some ⟨g, 0, none⟩) (s.size + t.size) c'] W fun e w' => e = .returned (.string (D1 ++ D2)) ∧ Good w w' := by
      intro W g c' h hc hcell
      have := decode_any (s ++ t) (some ⟨g, 0, none⟩) c' W (by rw [ba_size]; omega) (by rw [ba_size]; omega) (fun _ => ⟨g, 0, rfl, fun j hj => by
        rw [ba_size] at hj
        rw [Nat.zero_add, ← Lib.getD_get!', ba_append]
        exact hcell j _ (byteCells_get _ j (by rw [List.length_append]; omega))⟩) h.1
      rw [ba_size, ba_append, hD] at this
      exact h.calls this
    have cA : ∀ W, Good w W → Calls Tryd.prog 10 #[.slice (some ⟨W.heap.size, 0, none⟩) s.size (grownCap W s.size 0 5)] (Lib.bytesWorld W 5 s) fun e w' => e = .returned (.string D1) ∧ Good w w' := fun W h => by
      have := decode_str s W (by omega) h.1
      rw [hD1] at this
      exact this.mono fun e w' ⟨he, hb⟩ => ⟨he, h.step hb⟩
    have cB : ∀ W, Good w W → Calls Tryd.prog 10 #[.slice A t.size cap] W fun e w' => e = .returned (.string D2) ∧ Good w w' := fun W h => by
      have := decode_any t A cap W (by omega) hcap (Bts.at_ (hB.below h.2)) h.1
      rw [hD2] at this
      exact h.calls this
    have Hap := Lib.hid (fun W (h : Good w W) => (hB.below (h.2.trans ((below_bytes W s).mono h.2.size)) : Bts t A (Lib.bytesWorld W 5 s)))
    have hcv := fun w => Lib.run_convert_string_bytes (P := Tryd.prog) w 9 22 5 s Tryd.underlying9 Tryd.underlying22 Tryd.underlying5
    have hst : ((s.size + t.size : Nat) : Int) ≤ 600 := by omega
    clear hsg hj hl1 hl2 hlen hlen2 hD1 hD2 hD hB h300 h301
    go_enter Tryd.func6, Tryd.ntmps6
    go_wp2_with (first
      | (go_at_call 8; refine cH.mono ?_; rintro e W1 ⟨rfl, hG1⟩)
      | (go_at_call 11; refine (cS _ (by assumption)).mono ?_; rintro e W1 ⟨v, rfl, hG2⟩)
      | (at_builtin; refine wpList_append_bytes rfl _ _ rfl _ s t A cap rfl rfl (Hap.out _ (by assumption)) (by omega) ?_; intro g c' w2 hc' hcell hb2; have hG3 := hG2.step hb2)
      | (go_at_call 10; ((with_reducible refine (cJ _ _ _ (by assumption) hc' hcell).mono ?_); rintro e W1 ⟨rfl, hG4⟩))
      | (go_at_call 10; ((with_reducible refine (cA _ (by assumption)).mono ?_); rintro e W1 ⟨rfl, hG4⟩))
      | (go_at_call 10; ((with_reducible refine (cB _ (by assumption)).mono ?_); rintro e W1 ⟨rfl, hG4⟩)))
    go_ret
    exact ⟨rfl, hG4.2⟩
end Go.Proofs.YtaijjabbkmdcdaaDoor
