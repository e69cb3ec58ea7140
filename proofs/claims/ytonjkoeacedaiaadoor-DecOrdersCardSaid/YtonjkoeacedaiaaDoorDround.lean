/- The walks of dec.up and dec.Round. -/
import Derived.Test.YtonjkoeacedaiaaDoorUx1
import Derived.Test.YtonjkoeacedaiaaDoorDsmall
import Derived.Laws.Cover1
import Derived.Deep.RegionHeld3
import Derived.Deep.RegionWith
import Derived.Deep.DrawnRows
import Derived.Deep.LoopGhost
import Derived.Deep.AppendLies
import Derived.Handy
namespace Go.Proofs.YtonjkoeacedaiaaDoor
open Go.RowKit Go.Proofs.YtonjkoeacedaiaaDoorW.PrintWords Go.Proofs.YtonjkoeacedaiaaDoorW.PrintMore
set_option linter.unusedVariables false
set_option linter.unusedSimpArgs false

/-- One more, the last digit first. -/
def incR : List UInt8 → List UInt8
  | [] => [49]
  | c :: t => if c.toNat < 57 then (c.toNat + 1).toUInt8 :: t else 48 :: incR t
def incL (l : List UInt8) : List UInt8 := (incR l.reverse).reverse
/-- The bytes M lie in the block g from its beginning on, and may be written. -/
structure Lies (g : Nat) (M : List UInt8) (w : World) : Prop where
  cell : ∀ j c, M[j]? = some c → w.cell? ⟨g, j, none⟩ = some (.int .u8 c.toNat)
  free : ∀ j, j < M.length → w.frozen? ⟨g, j, none⟩ = false
theorem Lies.below {g : Nat} {M : List UInt8} {w w' : World} (h : Lies g M w) (hb : Below w.heap.size w w') (hg : g < w.heap.size) : Lies g M w' :=
  ⟨fun j c hj => by rw [hb.cell (p := ⟨g, j, none⟩) hg]; exact h.cell j c hj, fun j hj => by rw [hb.frozen (p := ⟨g, j, none⟩) hg]; exact h.free j hj⟩
theorem Lies.set {g : Nat} {M : List UInt8} {w : World} (h : Lies g M w) (i : Nat) (hi : i < M.length) (c : UInt8) : Lies g (M.set i c) (w.setCell ⟨g, i, none⟩ (.int .u8 c.toNat)) := by
  refine ⟨fun j x hj => ?_, fun j hj => ?_⟩
  · rw [List.getElem?_set] at hj
    by_cases e : i = j
    · subst e
      rw [if_pos rfl, if_pos hi] at hj
      obtain rfl := Option.some.inj hj
      exact World.cell?_setCell_same _ _ _ (h.cell i _ (List.getElem?_eq_getElem hi))
    · rw [if_neg e] at hj
      rw [World.cell?_setCell_other _ _ ⟨g, j, none⟩ _ (by intro h; exact e (by injection h))]
      exact h.cell j x hj
  · rw [World.frozen?_setCell]
    rw [List.length_set] at hj
    exact h.free j hj

theorem strOfNums_list (l : List UInt8) : strOfNums (l.map fun b => (b.toNat : Int)) = ⟨l.toArray⟩ := by
  apply ByteArray.ext
  apply Array.toList_inj.1
  rw [strOfNums_data, List.map_map]
  show l.map _ = l
  conv => rhs; rw [← List.map_id l]
  exact List.map_congr_left fun b _ => by simp
/-- string(b). -/
theorem Lies.str {g : Nat} {M : List UInt8} {w : World} (h : Lies g M w) (cap : Nat) : (convert 100 9 (.slice (some ⟨g, 0, none⟩) M.length cap)).run Tryd.prog w = .ok (.string ⟨M.toArray⟩) w := by
  rw [run_convert_bytes_arg (P := Tryd.prog) w 100 5 Tryd.underlying100 Tryd.underlying5 g 0 M.length cap (M.map fun b => (b.toNat : Int)) (by simp) (fun i hi => by
    rw [Nat.zero_add, h.cell i _ (List.getElem?_eq_getElem hi)]
    simp [List.getD, List.getElem?_eq_getElem hi]) 9 Tryd.underlying9, strOfNums_list]

/-- What up leaves where the last j digits were nines. -/
theorem incL_step (a : List UInt8) (c : UInt8) (j : Nat) (h : 57 ≤ c.toNat) : incL (a ++ [c]) ++ List.replicate j 48 = incL a ++ List.replicate (j + 1) 48 := by
  unfold incL
  rw [List.reverse_append]
  show (incR (c :: a.reverse)).reverse ++ _ = _
  rw [show incR (c :: a.reverse) = if c.toNat < 57 then (c.toNat + 1).toUInt8 :: a.reverse else 48 :: incR a.reverse from rfl, if_neg (by omega)]
  rw [List.reverse_cons, List.append_assoc, List.replicate_succ]
  rfl
theorem incL_stop (a : List UInt8) (c : UInt8) (h : c.toNat < 57) : incL (a ++ [c]) = a ++ [(c.toNat + 1).toUInt8] := by
  unfold incL
  rw [List.reverse_append]
  show (incR (c :: a.reverse)).reverse = _
  rw [show incR (c :: a.reverse) = if c.toNat < 57 then (c.toNat + 1).toUInt8 :: a.reverse else 48 :: incR a.reverse from rfl, if_pos h]
  simp
theorem incL_nil : incL [] = [49] := rfl

theorem Lies.of_own {w : World} {base g n cap : Nat} {l : List UInt8} {xs : List Value} (h : w.ownsRow base 5 1 (.slice (some ⟨g, 0, none⟩) n cap) n xs) (hx : xs = l.map fun c => Value.int .u8 c.toNat) : Lies g l w := by
  rcases h.2 with ⟨h, _⟩ | ⟨g3, cap3, cur, h, _, hh, h2, _, h4, h5⟩
  · cases h
  · injection h with h1 _ _
    injection h1 with h1
    injection h1 with h1
    subst h1
    subst hx
    rw [Nat.mul_one] at h5
    refine ⟨fun j c hj => ?_, fun j hj => Lib.frozen_of_heap hh j⟩
    rw [Lib.cell_of_heap hh]
    have e : (cur.toList.take n)[j]? = some (.int .u8 c.toNat) := by rw [h5, List.getElem?_map, hj]; rfl
    rw [List.getElem?_take] at e
    split at e
    · rw [← Array.getElem?_toList]; exact e
    · cases e
theorem u8Info : (Tryd.prog.info? 5).map (fun i => (i.zero, i.size, i.bytes)) = some (some (.int .u8 0), 1, 1) := by kernel_rfl
set_option maxRecDepth 100000 in
set_option maxHeartbeats 4000000 in
theorem up_any (l : List UInt8) (g cap : Nat) (w : World) (hn : 1 ≤ l.length) (hl : l.length ≤ 1000) (hL : Lies g l w) (hg : g < w.heap.size) :
    Calls Tryd.prog 74 #[.slice (some ⟨g, 0, none⟩) l.length cap] w fun e w' => ∃ g' cap', e = .returned (.slice (some ⟨g', 0, none⟩) (incL l).length cap') ∧ Lies g' (incL l) w' ∧ g' < w'.heap.size ∧ Below g w w' := by
  obtain ⟨R, hR⟩ : ∃ R, incL l = R := ⟨_, rfl⟩
  rw [hR]
  have HR := Lib.hid hR; clear hR
  have HL := Lib.hid hL; clear hL
  go_enter Tryd.func74, Tryd.ntmps74
  go_wp2
  go_loopg [3] l.length (fun gk si wx => ∃ (i : Nat) (z : Int), si = .int .i64 z ∧ z + 1 = i ∧ i ≤ l.length ∧ Lies g (l.take i ++ List.replicate (l.length - i) 48) wx ∧ Below g w wx ∧ incL (l.take i) ++ List.replicate (l.length - i) 48 = R ∧ i ≤ gk)
  case atStart => exact ⟨l.length, (l.length : Int) - 1, rfl, by omega, Nat.le_refl _, by simpa using HL.out, Below.refl _ _, by simpa using HR.out, Nat.le_refl _⟩
  case round =>
    obtain ⟨i, z, rfl, hz, hi, hL, hb, hr, hfu⟩ := hrel
    clear HL HR
    have hsz := hb.size
    have Hr := Lib.hid hr; clear hr
    cases i with
    | zero =>
      obtain rfl : z = -1 := by omega
      have hL0 : Lies g (List.replicate l.length 48) wr := by simpa using hL
      have hR0 : R = 49 :: List.replicate l.length 48 := by rw [← Hr.out]; simp [incL_nil]
      have hnews : ∀ (j : Nat) (u : Value), (List.replicate l.length (Value.int .u8 48))[j]? = some u → (wr.alloc (.cells #[.int .u8 49] 5)).cell? ((⟨g, 0, none⟩ : Addr).add j) = some u := fun j u hj => by
        obtain ⟨hlt, e⟩ := List.getElem?_eq_some_iff.1 hj
        rw [List.length_replicate] at hlt
        rw [List.getElem_replicate] at e
        subst e
        rw [add_plain, World.cell?_alloc_lt _ _ _ (by show g < wr.heap.size; omega)]
        exact hL0.cell j 48 (by rw [List.getElem?_replicate, if_pos hlt])
      have hown : (wr.alloc (.cells #[.int .u8 49] 5)).ownsRow wr.heap.size 5 1 (.slice (some ⟨wr.heap.size, 0, none⟩) 1 1) 1 [.int .u8 49] := ⟨rfl, .inr ⟨wr.heap.size, 1, #[.int .u8 49], rfl, Nat.le_refl _, heap_alloc_new wr _, Nat.le_refl _, by decide, rfl, rfl⟩⟩
      have hone : ∀ u ∈ List.replicate l.length (Value.int .u8 48), u.oneCell' = true := fun u hu => by rw [List.eq_of_mem_replicate hu]; rfl
      have Hone := Lib.hid hone; clear hone
      obtain ⟨i0, hi0, hz0, hz1, hz2⟩ := info_parts u8Info
      have Hn := Lib.hid hnews; clear hnews
      have Ho := Lib.hid hown; clear hown
      have H0 := Lib.hid hL0; clear hL0
      have HR0 := Lib.hid hR0; clear hR0
      clear hL
      go_wp2_with (at_builtin; refine wpList_append_lies _ rfl _ _ 100 rfl wr.heap.size 5 i0 (.int .u8 0) 1 1 Tryd.underlying100 hi0 hz0 hz1 hz2 rfl (by decide) _ _ _ rfl Ho.out ⟨g, 0, none⟩ l.length cap (List.replicate l.length (Value.int .u8 48)) rfl (by simp) Hn.out Hone.out (by omega) (by unfold maxLen; omega) (by omega) (by simp) (wr.heap.size + 1) (by simp) ?_; intro g2 cap2 w1 hown2 hgrow hat hlt)
      go_ret
      have hRl : R.length = 1 + l.length := by rw [HR0.out]; simp; omega
      refine ⟨g2, cap2, ?_, ?_, hlt, ?_⟩
      · rw [hRl]; simp
      · rw [HR0.out]
        have := Lies.of_own (l := 49 :: List.replicate l.length 48) hown2 (by simp)
        exact this
      · exact (hb.alloc (by omega) _).grown hgrow (by simp; omega) (fun k hk => by have e : wr.heap.size = k := Option.some.inj (show some wr.heap.size = some k from hk); omega)
    | succ m =>
      obtain rfl : z = (m : Int) := by omega
      have hml : m < l.length := by omega
      obtain ⟨c, hc⟩ : ∃ c, l[m]? = some c := ⟨_, List.getElem?_eq_getElem hml⟩
      have htk : l.take (m + 1) = l.take m ++ [c] := by rw [List.take_add_one, hc]; rfl
      have hMl : (l.take (m + 1) ++ List.replicate (l.length - (m + 1)) 48).length = l.length := by simp; omega
      have hMm : (l.take (m + 1) ++ List.replicate (l.length - (m + 1)) 48)[m]? = some c := by
        rw [List.getElem?_append_left (by rw [List.length_take]; omega), List.getElem?_take_of_lt (by omega), hc]
      have hcm := hL.cell m c hMm
      have hfm := hL.free m (by rw [hMl]; exact hml)
      have hset : ∀ x : UInt8, (l.take (m + 1) ++ List.replicate (l.length - (m + 1)) 48).set m x = l.take m ++ x :: List.replicate (l.length - (m + 1)) 48 := fun x => by
        rw [htk, List.append_assoc, List.set_append_right _ _ (by rw [List.length_take]; omega), List.length_take, Nat.min_eq_left (by omega), Nat.sub_self]
        rfl
      have hLs : ∀ x : UInt8, Lies g (l.take m ++ x :: List.replicate (l.length - (m + 1)) 48) (wr.setCell ⟨g, m, none⟩ (.int .u8 x.toNat)) := fun x => by
        have := hL.set m (by rw [hMl]; exact hml) x
        rw [hset] at this
        exact this
      have hmz : (m : Int) < (l.length : Int) := by omega
      have hc0 : (0 : Int) ≤ (c.toNat : Int) := by omega
      have Hs := Lib.hid hLs; clear hLs hset hL
      have Hc := Lib.hid hc; clear hc
      have Htk := Lib.hid htk; clear htk
      clear hMl hMm
      by_cases h57 : c.toNat < 57
      · have h57z : (c.toNat : Int) < 57 := by omega
        obtain ⟨f, rfl⟩ : ∃ f, gk = f + 1 := ⟨gk - 1, by omega⟩
        go_wp2
        go_ret
        have hRe : R = l.take m ++ (c.toNat + 1).toUInt8 :: List.replicate (l.length - (m + 1)) 48 := by
          rw [← Hr.out, Htk.out, incL_stop _ _ h57]; simp
        have hRl : R.length = l.length := by rw [hRe]; simp; omega
        have hcn : ((c.toNat + 1).toUInt8.toNat : Int) = (c.toNat : Int) + 1 := by simp [Nat.toUInt8]; omega
        refine ⟨g, cap, ?_, ?_, ?_, ?_⟩
        · show Ending.returned (Value.slice (some ⟨g, 0, none⟩) ↑l.length cap) = _
          rw [hRl]
        · rw [hRe]
          have := Hs.out (c.toNat + 1).toUInt8
          rw [hcn] at this
          exact this
        · simpa using (by omega : g < wr.heap.size)
        · exact hb.setCell (Nat.le_refl _) _
      · have h57z : ¬ (c.toNat : Int) < 57 := by omega
        obtain ⟨f, rfl⟩ : ∃ f, gk = f + 1 := ⟨gk - 1, by omega⟩
        go_wp2
        go_roundg f
        case measure => omega
        case rel =>
          refine ⟨m, (m : Int) - 1, rfl, by omega, by omega, ?_, hb.setCell (Nat.le_refl _) _, ?_, by omega⟩
          · have := Hs.out 48
            rw [show l.length - m = (l.length - (m + 1)) + 1 by omega, List.replicate_succ]
            exact this
          · rw [← Hr.out, Htk.out, incL_step _ _ _ (by omega)]
            rw [show l.length - m = (l.length - (m + 1)) + 1 by omega]

theorem cell_bytes {w : World} {e : TypeId} {s : ByteArray} {b o : Nat} (hb : b < w.heap.size) : (Lib.bytesWorld w e s).cell? ⟨b, o, none⟩ = w.cell? ⟨b, o, none⟩ :=
  World.cell?_of_block (Lib.bytesWorld_at_old w e s b hb)

/-- What Round keeps of its own while it calls. -/
structure RG (w : World) (n : Bool) (W : World) : Prop where
  c0 : W.cell? ⟨w.heap.size, 0, none⟩ = some (.bool n)
  e0 : W.cell? ⟨w.heap.size + 1, 0, none⟩ = some (.bool false)
  e1 : W.cell? ⟨w.heap.size + 1, 1, none⟩ = some (.string ⟨#[]⟩)
  e2 : W.cell? ⟨w.heap.size + 1, 2, none⟩ = some (.int .i64 0)
  fr : ∀ j, W.frozen? ⟨w.heap.size + 1, j, none⟩ = false
  sz : w.heap.size + 1 + 1 < W.heap.size
  bel : Below w.heap.size w W
theorem RG.step {w W W' : World} {n : Bool} (h : RG w n W) (b : Below (w.heap.size + 1 + 1) W W') : RG w n W' where
  c0 := (b.cell (p := ⟨w.heap.size, 0, none⟩) (by show w.heap.size < _; omega)).trans h.c0
  e0 := (b.cell (p := ⟨w.heap.size + 1, 0, none⟩) (by show w.heap.size + 1 < _; omega)).trans h.e0
  e1 := (b.cell (p := ⟨w.heap.size + 1, 1, none⟩) (by show w.heap.size + 1 < _; omega)).trans h.e1
  e2 := (b.cell (p := ⟨w.heap.size + 1, 2, none⟩) (by show w.heap.size + 1 < _; omega)).trans h.e2
  fr := fun j => (b.frozen (p := ⟨w.heap.size + 1, j, none⟩) (by show w.heap.size + 1 < _; omega)).trans (h.fr j)
  sz := Nat.lt_of_lt_of_le h.sz b.size
  bel := h.bel.trans (b.mono (by omega))

attribute [local go_sem] max2_int max_two
set_option maxRecDepth 100000 in
set_option maxHeartbeats 4000000 in
theorem round_more (n : Bool) (d : ByteArray) (k sc ct : Nat) (s : Int) (w : World) (hsc : (if s < 0 then (0 : Int) else s) = (sc : Int)) (hk : k < d.size) (hks : sc < k) (hct : ct + 1 + (k - sc) = d.size) (hd : ∀ c ∈ d.data.toList, 48 ≤ c.toNat ∧ c.toNat ≤ 57) (hs : d.size ≤ 1000)
    (x : UInt8) (hx : d.data.toList[ct]? = some x) (C : Int) (hC : C = -1 ∨ C = 0 ∨ C = 1) (O : Bool)
    (hcC : ∀ W, Calls Tryd.prog 73 #[.string (d.extract (ct + 1) d.size), .string ((⟨#[53]⟩ : ByteArray) ++ ⟨(Lib.repeatL [48] (k - sc - 1)).toArray⟩)] W fun e w' => e = .returned (.int .i64 C) ∧ W = w')
    (hO : (((x.toNat : Int) - 48) % 2 == 1) = O)
    (r1 : Bool) (r2 : ByteArray) (r3 : Int) (hm : U.dec_make0.f n ⟨(if C > 0 ∨ C = 0 ∧ O = true then incL (d.data.toList.take (ct + 1)) else d.data.toList.take (ct + 1)).toArray⟩ sc = some (r1, r2, r3)) :
    Calls Tryd.prog 40 #[decV n d k, .int .i64 s] w fun e w' => e = .returned (.agg #[.bool r1, .string r2, .int .i64 r3]) ∧ Below w.heap.size w w' := by
  unfold decV
  obtain ⟨X, hX⟩ : ∃ X, (w.alloc (.cells #[.bool n, .string d, .int .i64 k] 23)).alloc (.cells #[.bool false, .string ⟨#[]⟩, .int .i64 0] 23) = X := ⟨_, rfl⟩
  have hXs : X.heap.size = w.heap.size + 1 + 1 := by rw [← hX]; simp
  have hXd : X.drew.heap.size = w.heap.size + 1 + 1 := by simpa using hXs
  have bX : Below w.heap.size w X := by rw [← hX]; exact ((Below.refl _ _).alloc (Nat.le_refl _) _).alloc (by simp) _
  have c0 : X.cell? ⟨w.heap.size, 0, none⟩ = some (.bool n) := by rw [← hX]; simp [go_sem]
  have c1 : X.cell? ⟨w.heap.size, 1, none⟩ = some (.string d) := by rw [← hX]; simp [go_sem]
  have c2 : X.cell? ⟨w.heap.size, 2, none⟩ = some (.int .i64 k) := by rw [← hX]; simp [go_sem]
  have d0 : X.cell? ⟨w.heap.size + 1, 0, none⟩ = some (.bool false) := by rw [← hX]; simp [go_sem]
  have d1 : X.cell? ⟨w.heap.size + 1, 1, none⟩ = some (.string ⟨#[]⟩) := by rw [← hX]; simp [go_sem]
  have d2 : X.cell? ⟨w.heap.size + 1, 2, none⟩ = some (.int .i64 0) := by rw [← hX]; simp [go_sem]
  have f0 : ∀ j, X.frozen? ⟨w.heap.size + 1, j, none⟩ = false := fun j => by
    rw [← hX]
    have hh := heap_alloc_new (w.alloc (.cells #[.bool n, .string d, .int .i64 k] 23)) (.cells #[.bool false, .string ⟨#[]⟩, .int .i64 0] 23)
    rw [show (w.alloc (.cells #[.bool n, .string d, .int .i64 k] 23)).heap.size = w.heap.size + 1 by simp] at hh
    exact Lib.frozen_of_heap hh j
  obtain ⟨W2, hW2⟩ : ∃ W2, Lib.bytesWorld X.drew 5 (d.extract 0 (ct + 1)) = W2 := ⟨_, rfl⟩
  have b2 : Below X.heap.size X W2 := by
    rw [← hW2]
    exact ⟨rfl, rfl, rfl, by rw [Lib.bytesWorld_size]; simp, fun i hi => (Lib.bytesWorld_at_old _ _ _ _ (by simpa using hi)).trans rfl⟩
  have hsz : (d.extract 0 (ct + 1)).size = ct + 1 := by simp; omega
  have hdl : (d.extract 0 (ct + 1)).data.toList = d.data.toList.take (ct + 1) := by rw [Lib.extract_data]; simp
  have hL2 : Lies (w.heap.size + 1 + 1) (d.data.toList.take (ct + 1)) W2 := by
    refine ⟨fun j c hj => ?_, fun j hj => ?_⟩
    · rw [← hW2, ← hXd]
      have hlt : j < ct + 1 := by
        have := (List.getElem?_eq_some_iff.1 hj).1
        rw [List.length_take] at this
        omega
      rw [Lib.bytesWorld_cell _ _ _ _ (by rw [hsz]; exact hlt), hdl, List.getD_eq_getElem?_getD, hj]
      rfl
    · rw [← hW2, ← hXd]
      have hlt : j < ct + 1 := by rw [List.length_take] at hj; omega
      have hbs : j < (Lib.bytesCells X.drew 5 (d.extract 0 (ct + 1))).size := by
        simp [Lib.bytesCells]; omega
      simp only [World.frozen?, Lib.bytesWorld_at_new]
      simp; omega
  have hs2 : w.heap.size + 1 + 1 < W2.heap.size := by rw [← hW2, Lib.bytesWorld_size, hXd]; omega
  have cc := fun (a : Addr) (v : Value) (h : X.cell? a = some v) => (b2.cell (p := a) (World.block_lt_of_cell? _ _ h)).trans h
  have hR2 : RG w n W2 := ⟨cc _ _ c0, cc _ _ d0, cc _ _ d1, cc _ _ d2, fun j => (b2.frozen (p := ⟨w.heap.size + 1, j, none⟩) (by show w.heap.size + 1 < X.heap.size; omega)).trans (f0 j), hs2, bX.trans (b2.mono (by omega))⟩
  obtain ⟨CP, hCP⟩ : ∃ CP, grownCap X.drew (d.extract 0 (ct + 1)).size 0 5 = CP := ⟨_, rfl⟩
  have hk1 : (convert 9 100 (.string (d.extract 0 (ct + 1)))).run Tryd.prog X.drew = .ok (.slice (some ⟨w.heap.size + 1 + 1, 0, none⟩) ((ct + 1 : Nat)) CP) W2 := by
    rw [Lib.run_convert_string_bytes (P := Tryd.prog) X.drew 9 100 5 _ Tryd.underlying9 Tryd.underlying100 Tryd.underlying5, hW2, hXd, hCP, hsz]
  have hw1 : W2.cell? ⟨w.heap.size, 1, none⟩ = some (.string d) := cc _ _ c1
  have hcut : (d.size : Int) - ((k : Int) - sc) = (ct : Int) + 1 := by omega
  have hz0 : (0 : Int) ≤ (ct : Int) + 1 := by omega
  have hz1 : (ct : Int) + 1 ≤ (d.size : Int) := by omega
  have hle : (sc : Int) < (k : Int) := by omega
  have hxr := hd x (List.mem_of_getElem? hx)
  have hx0 : (48 : Int) ≤ (x.toNat : Int) := by omega
  have hx9 : (x.toNat : Int) ≤ 57 := by omega
  have hxt : (d.data.toList.take (ct + 1))[ct]? = some x := by rw [List.getElem?_take_of_lt (by omega), hx]
  have hll : (d.data.toList.take (ct + 1)).length = ct + 1 := by
    have := Lib.size_eq d
    rw [List.length_take]; omega
  have cR : ∀ (m : Int) (W : World), 0 ≤ m → m ≤ 1000 → Calls Tryd.prog 64 #[.string ⟨#[48]⟩, .int .i64 m] W fun e w' => e = .returned (.string ⟨(Lib.repeatL [48] m.toNat).toArray⟩) ∧ Below W.heap.size W w' := fun m W h0 h1 => by
    have := Tryd.strings_Repeat ⟨#[48]⟩ m.toNat W (by omega) (by show 1 * m.toNat ≤ _; omega)
    rw [Int.toNat_of_nonneg h0] at this
    exact this
  have cR1 := fun (W : World) => cR (((d.size - (ct + 1) : Nat) : Int) - 1) W (by omega) (by omega)
  rw [show ((((d.size - (ct + 1) : Nat) : Int) - 1)).toNat = k - sc - 1 by omega] at cR1
  clear cR
  obtain ⟨rz, hrz⟩ : ∃ rz : ByteArray, (⟨(Lib.repeatL [48] (k - sc - 1)).toArray⟩ : ByteArray) = rz := ⟨_, rfl⟩
  have hrzs : rz.size ≤ 1000 := by rw [← hrz, Lib.size_eq, Lib.repeatL_length]; show (k - sc - 1) * 1 ≤ 1000; omega
  rw [hrz] at hcC cR1
  clear hrz
  have cU := fun (W : World) h1 h2 => up_any (d.data.toList.take (ct + 1)) (w.heap.size + 1 + 1) CP W (by rw [hll]; omega) (by rw [hll]; omega) h1 h2
  rw [hll] at cU
  have cK := fun (W : World) (h : Lies (w.heap.size + 1 + 1) (d.data.toList.take (ct + 1)) W) => h.str CP
  rw [hll] at cK
  clear hll
  have Hxt := Lib.hid hxt; clear hxt hx hxr
  have HR2 := Lib.hid hR2; clear hR2
  have HL2 := Lib.hid hL2; clear hL2
  have Hm := Lib.hid hm; clear hm
  have Hd := Lib.hid hd; clear hd
  clear cc hs2 b2 hXs hXd bX c0 d0 d1 d2 f0 hsz hdl hCP
  have HW := Lib.hid hW2; clear hW2
  have CK := Lib.hid cK; clear cK
  rcases hC with rfl | rfl | rfl
  rotate_left
  rcases O with _ | _
  rotate_left
  all_goals
    have hm2 := Hm.out
    first | rw [if_pos (by decide)] at hm2 | rw [if_pos (Or.inl (by decide))] at hm2 | rw [if_neg (by decide)] at hm2 | rw [if_neg (fun h => Or.elim h (fun h => absurd h (by decide)) (fun h => absurd h.1 (by decide)))] at hm2
    have cMM := fun W => U.dec_make0.calls n _ sc r1 r2 r3 W hm2
    clear hm2 Hm
    go_enter Tryd.func40, Tryd.ntmps40
    go_wp2
    go_region_with (fail)
    all_goals
      go_wp2_with (first
        | (go_at_call 64; ((with_reducible refine (cR1 _).mono ?_); rintro e W3 ⟨rfl, b3⟩; have h3 := HR2.out.step (b3.mono (Nat.le_of_lt HR2.out.sz)); have L3 := HL2.out.below b3 HR2.out.sz; have q3 := L3.cell ct x Hxt.out; have hk3 := CK.out _ L3; have g0 := h3.c0; have g1 := h3.e0; have g2 := h3.e1; have g3 := h3.e2; have g4 := h3.fr 0; have g5 := h3.fr 1; have g6 := h3.fr 2; have K3 := Lib.hid L3; clear L3; have G3 := Lib.hid h3; clear h3))
        | (go_at_call 73; ((with_reducible refine (hcC _).mono ?_); rintro e W4 ⟨rfl, rfl⟩))
        | (go_at_call 74; ((with_reducible refine (cU _ K3.out G3.out.sz).mono ?_); rintro e W5 ⟨g', cap', rfl, L5, hg5, b5⟩; have h5 := G3.out.step b5; have hk5 := L5.str cap'; have q0 := h5.c0; clear L5; have G5 := Lib.hid h5; clear h5))
        | (go_at_call 72; ((with_reducible refine (cMM _).mono ?_); rintro e W6 ⟨rfl, b6⟩; (first | have h6 := G5.out.step (b6.mono (Nat.le_of_lt G5.out.sz)) | have h6 := G3.out.step (b6.mono (Nat.le_of_lt G3.out.sz))); have p1 := h6.e0; have p2 := h6.e1; have p3 := h6.e2; have p4 := h6.fr 0; have p5 := h6.fr 1; have p6 := h6.fr 2; have b7 := h6.bel; have G6 := Lib.hid h6; clear h6)))
      have y0 := World.cell?_setCell_same W6 ⟨w.heap.size + 1, 0, none⟩ (.bool r1) p1
      have z1 := (World.cell?_setCell_other W6 ⟨w.heap.size + 1, 0, none⟩ ⟨w.heap.size + 1, 1, none⟩ (.bool r1) (by simp)).trans p2
      have y1 := World.cell?_setCell_same (W6.setCell ⟨w.heap.size + 1, 0, none⟩ (.bool r1)) ⟨w.heap.size + 1, 1, none⟩ (.string r2) z1
      have z2 := (World.cell?_setCell_other (W6.setCell ⟨w.heap.size + 1, 0, none⟩ (.bool r1)) ⟨w.heap.size + 1, 1, none⟩ ⟨w.heap.size + 1, 2, none⟩ (.string r2) (by simp)).trans ((World.cell?_setCell_other W6 ⟨w.heap.size + 1, 0, none⟩ ⟨w.heap.size + 1, 2, none⟩ (.bool r1) (by simp)).trans p3)
      have y2 := World.cell?_setCell_same ((W6.setCell ⟨w.heap.size + 1, 0, none⟩ (.bool r1)).setCell ⟨w.heap.size + 1, 1, none⟩ (.string r2)) ⟨w.heap.size + 1, 2, none⟩ (.int .i64 r3) z2
      refine bodyPost_ret (v := .agg #[.bool r1, .string r2, .int .i64 r3]) (by simp [results, Tryd.results40, go_sem, y0, y1, y2]) rfl ?_
      exact ⟨rfl, ((b7.setCell (by simp) _).setCell (by simp) _).setCell (by simp) _⟩
end Go.Proofs.YtonjkoeacedaiaaDoor
