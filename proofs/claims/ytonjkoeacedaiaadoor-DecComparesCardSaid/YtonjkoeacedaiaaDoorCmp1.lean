/- DecCompares: whatever two numbers come in, the call returns true and leaves them as they were (Text 2 of 4: what the law's proof rests on, joined; walks printed by the kit's print over given contracts, walks and plain laws by hand.) -/
import Derived.Laws.Cover1
import Derived.Deep.RegionHeld3
import Derived.Deep.RegionWith
import Derived.Deep.DrawnRows
import Derived.Deep.LoopGhost
import Derived.Deep.AppendLies
import Derived.Handy
import Derived.StillTailTactics
import Derived.Deep.QuietTactic
import Derived.BigQuiet
import Derived.Test.YtonjkoeacedaiaaDoorProg
import Derived.Below
import Derived.Deep.Draws
import Derived.Maps.AppendAt
import Derived.OwnWalk
import Derived.Laws.BytesArg
import Derived.Laws.MakeOwn
import Derived.Laws.OwnMore
import Derived.Deep.OwnRows
import Derived.Tactics
import Derived.Lib.ConvBytes
import Derived.Laws.Slices
import Derived.WalkKit
import Derived.KernelRfl
import Derived.RowKit3
import Derived.WideLaws
import Derived.Deep.DeepCutAuto
import Derived.Deep.CutBlock
import Derived.Laws.Rows
import Derived.Lib.AppendStr
import Derived.ArgAppend
import Derived.Laws.IdiomCopy
import Derived.OrdersHeld
import Derived.Laws.BitsLemmas
import Derived.RowKit
import Derived.Test.YtonjkoeacedaiaaDoorCmp0
namespace Go.Proofs.YtonjkoeacedaiaaDoor
open Go.RowKit Go.Proofs.YtonjkoeacedaiaaDoorW.PrintWords Go.Proofs.YtonjkoeacedaiaaDoorW.PrintMore
set_option linter.unusedVariables false
set_option linter.unusedSimpArgs false
def incR : List UInt8 → List UInt8
  | [] => [49]
  | c :: t => if c.toNat < 57 then (c.toNat + 1).toUInt8 :: t else 48 :: incR t
def incL (l : List UInt8) : List UInt8 := (incR l.reverse).reverse
structure Lies (g : Nat) (M : List UInt8) (w : World) : Prop where
  cell : ∀ j c, M[j]? = some c → w.cell? ⟨g, j, none⟩ = some (.int .u8 c.toNat)
  free : ∀ j, j < M.length → w.frozen? ⟨g, j, none⟩ = false
theorem Lies.below {g : Nat} {M : List UInt8} {w w' : World} (h : Lies g M w) (hb : Below w.heap.size w w') (hg : g < w.heap.size) : Lies g M w' :=
  ⟨fun j c hj => by rw [hb.cell (p := ⟨g, j, none⟩) hg]; exact h.cell j c hj, fun j hj => by rw [hb.frozen (p := ⟨g, j, none⟩) hg]; exact h.free j hj⟩
theorem Lies.set {g : Nat} {M : List UInt8} {w : World} (h : Lies g M w) (i : Nat) (hi : i < M.length) (c : UInt8) : Lies g (M.set i c) (w.setCell ⟨g, i, none⟩ (.int .u8 c.toNat)) := by
  refine ⟨fun j x hj => ?_, fun j hj => ?_⟩
  · rw [List.getElem?_set] at hj
    by_cases e : i = j
    · subst e
      rw [if_pos rfl, if_pos hi] at hj
      obtain rfl := Option.some.inj hj
      exact World.cell?_setCell_same _ _ _ (h.cell i _ (List.getElem?_eq_getElem hi))
    · rw [if_neg e] at hj
      rw [World.cell?_setCell_other _ _ ⟨g, j, none⟩ _ (by intro h; exact e (by injection h))]
      exact h.cell j x hj
  · rw [World.frozen?_setCell]
    rw [List.length_set] at hj
    exact h.free j hj
theorem strOfNums_list (l : List UInt8) : strOfNums (l.map fun b => (b.toNat : Int)) = ⟨l.toArray⟩ := by
  apply ByteArray.ext
  apply Array.toList_inj.1
  rw [strOfNums_data, List.map_map]
  show l.map _ = l
  conv => rhs; rw [← List.map_id l]
  exact List.map_congr_left fun b _ => by simp
theorem Lies.str {g : Nat} {M : List UInt8} {w : World} (h : Lies g M w) (cap : Nat) : (convert 100 9 (.slice (some ⟨g, 0, none⟩) M.length cap)).run Tryd.prog w = .ok (.string ⟨M.toArray⟩) w := by
  rw [run_convert_bytes_arg (P := Tryd.prog) w 100 5 Tryd.underlying100 Tryd.underlying5 g 0 M.length cap (M.map fun b => (b.toNat : Int)) (by simp) (fun i hi => by
    rw [Nat.zero_add, h.cell i _ (List.getElem?_eq_getElem hi)]
    simp [List.getD, List.getElem?_eq_getElem hi]) 9 Tryd.underlying9, strOfNums_list]
theorem incL_step (a : List UInt8) (c : UInt8) (j : Nat) (h : 57 ≤ c.toNat) : incL (a ++ [c]) ++ List.replicate j 48 = incL a ++ List.replicate (j + 1) 48 := by
  unfold incL
  rw [List.reverse_append]
  show (incR (c :: a.reverse)).reverse ++ _ = _
  rw [show incR (c :: a.reverse) = if c.toNat < 57 then (c.toNat + 1).toUInt8 :: a.reverse else 48 :: incR a.reverse from rfl, if_neg (by omega)]
  rw [List.reverse_cons, List.append_assoc, List.replicate_succ]
  rfl
theorem incL_stop (a : List UInt8) (c : UInt8) (h : c.toNat < 57) : incL (a ++ [c]) = a ++ [(c.toNat + 1).toUInt8] := by
  unfold incL
  rw [List.reverse_append]
  show (incR (c :: a.reverse)).reverse = _
  rw [show incR (c :: a.reverse) = if c.toNat < 57 then (c.toNat + 1).toUInt8 :: a.reverse else 48 :: incR a.reverse from rfl, if_pos h]
  simp
theorem incL_nil : incL [] = [49] := rfl
theorem Lies.of_own {w : World} {base g n cap : Nat} {l : List UInt8} {xs : List Value} (h : w.ownsRow base 5 1 (.slice (some ⟨g, 0, none⟩) n cap) n xs) (hx : xs = l.map fun c => Value.int .u8 c.toNat) : Lies g l w := by
  rcases h.2 with ⟨h, _⟩ | ⟨g3, cap3, cur, h, _, hh, h2, _, h4, h5⟩
  · cases h
  · injection h with h1 _ _
    injection h1 with h1
    injection h1 with h1
    subst h1
    subst hx
    rw [Nat.mul_one] at h5
    refine ⟨fun j c hj => ?_, fun j hj => Lib.frozen_of_heap hh j⟩
    rw [Lib.cell_of_heap hh]
    have e : (cur.toList.take n)[j]? = some (.int .u8 c.toNat) := by rw [h5, List.getElem?_map, hj]; rfl
    rw [List.getElem?_take] at e
    split at e
    · rw [← Array.getElem?_toList]; exact e
    · cases e
theorem u8Info : (Tryd.prog.info? 5).map (fun i => (i.zero, i.size, i.bytes)) = some (some (.int .u8 0), 1, 1) := by kernel_rfl
set_option maxRecDepth 100000 in
set_option maxHeartbeats 4000000 in
theorem up_any (l : List UInt8) (g cap : Nat) (w : World) (hn : 1 ≤ l.length) (hl : l.length ≤ 1000) (hL : Lies g l w) (hg : g < w.heap.size) :
    Calls Tryd.prog 74 #[.slice (some ⟨g, 0, none⟩) l.length cap] w fun e w' => ∃ g' cap', e = .returned (.slice (some ⟨g', 0, none⟩) (incL l).length cap') ∧ Lies g' (incL l) w' ∧ g' < w'.heap.size ∧ Below g w w' := by
  obtain ⟨R, hR⟩ : ∃ R, incL l = R := ⟨_, rfl⟩
  rw [hR]
  have HR := Lib.hid hR; clear hR
  have HL := Lib.hid hL; clear hL
  go_enter Tryd.func74, Tryd.ntmps74
  go_wp2
  go_loopg [3] l.length (fun gk si wx => ∃ (i : Nat) (z : Int), si = .int .i64 z ∧ z + 1 = i ∧ i ≤ l.length ∧ Lies g (l.take i ++ List.replicate (l.length - i) 48) wx ∧ Below g w wx ∧ incL (l.take i) ++ List.replicate (l.length - i) 48 = R ∧ i ≤ gk)
  case atStart => exact ⟨l.length, (l.length : Int) - 1, rfl, by omega, Nat.le_refl _, by simpa using HL.out, Below.refl _ _, by simpa using HR.out, Nat.le_refl _⟩
  case round =>
    obtain ⟨i, z, rfl, hz, hi, hL, hb, hr, hfu⟩ := hrel
    clear HL HR
    have hsz := hb.size
    have Hr := Lib.hid hr; clear hr
    cases i with
    | zero =>
      obtain rfl : z = -1 := by omega
      have hL0 : Lies g (List.replicate l.length 48) wr := by simpa using hL
      have hR0 : R = 49 :: List.replicate l.length 48 := by rw [← Hr.out]; simp [incL_nil]
      have hnews : ∀ (j : Nat) (u : Value), (List.replicate l.length (Value.int .u8 48))[j]? = some u → (wr.alloc (.cells #[.int .u8 49] 5)).cell? ((⟨g, 0, none⟩ : Addr).add j) = some u := fun j u hj => by
        obtain ⟨hlt, e⟩ := List.getElem?_eq_some_iff.1 hj
        rw [List.length_replicate] at hlt
        rw [List.getElem_replicate] at e
        subst e
        rw [add_plain, World.cell?_alloc_lt _ _ _ (by show g < wr.heap.size; omega)]
        exact hL0.cell j 48 (by rw [List.getElem?_replicate, if_pos hlt])
      have hown : (wr.alloc (.cells #[.int .u8 49] 5)).ownsRow wr.heap.size 5 1 (.slice (some ⟨wr.heap.size, 0, none⟩) 1 1) 1 [.int .u8 49] := ⟨rfl, .inr ⟨wr.heap.size, 1, #[.int .u8 49], rfl, Nat.le_refl _, heap_alloc_new wr _, Nat.le_refl _, by decide, rfl, rfl⟩⟩
      have hone : ∀ u ∈ List.replicate l.length (Value.int .u8 48), u.oneCell' = true := fun u hu => by rw [List.eq_of_mem_replicate hu]; rfl
      have Hone := Lib.hid hone; clear hone
      obtain ⟨i0, hi0, hz0, hz1, hz2⟩ := info_parts u8Info
      have Hn := Lib.hid hnews; clear hnews
      have Ho := Lib.hid hown; clear hown
      have H0 := Lib.hid hL0; clear hL0
      have HR0 := Lib.hid hR0; clear hR0
      clear hL
      go_wp2_with (at_builtin; refine wpList_append_lies _ rfl _ _ 100 rfl wr.heap.size 5 i0 (.int .u8 0) 1 1 Tryd.underlying100 hi0 hz0 hz1 hz2 rfl (by decide) _ _ _ rfl Ho.out ⟨g, 0, none⟩ l.length cap (List.replicate l.length (Value.int .u8 48)) rfl (by simp) Hn.out Hone.out (by omega) (by unfold maxLen; omega) (by omega) (by simp) (wr.heap.size + 1) (by simp) ?_; intro g2 cap2 w1 hown2 hgrow hat hlt)
      go_ret
      have hRl : R.length = 1 + l.length := by rw [HR0.out]; simp; omega
      refine ⟨g2, cap2, ?_, ?_, hlt, ?_⟩
      · rw [hRl]; simp
      · rw [HR0.out]
        have := Lies.of_own (l := 49 :: List.replicate l.length 48) hown2 (by simp)
        exact this
      · exact (hb.alloc (by omega) _).grown hgrow (by simp; omega) (fun k hk => by have e : wr.heap.size = k := Option.some.inj (show some wr.heap.size = some k from hk); omega)
    | succ m =>
      obtain rfl : z = (m : Int) := by omega
      have hml : m < l.length := by omega
      obtain ⟨c, hc⟩ : ∃ c, l[m]? = some c := ⟨_, List.getElem?_eq_getElem hml⟩
      have htk : l.take (m + 1) = l.take m ++ [c] := by rw [List.take_add_one, hc]; rfl
      have hMl : (l.take (m + 1) ++ List.replicate (l.length - (m + 1)) 48).length = l.length := by simp; omega
      have hMm : (l.take (m + 1) ++ List.replicate (l.length - (m + 1)) 48)[m]? = some c := by
        rw [List.getElem?_append_left (by rw [List.length_take]; omega), List.getElem?_take_of_lt (by omega), hc]
      have hcm := hL.cell m c hMm
      have hfm := hL.free m (by rw [hMl]; exact hml)
      have hset : ∀ x : UInt8, (l.take (m + 1) ++ List.replicate (l.length - (m + 1)) 48).set m x = l.take m ++ x :: List.replicate (l.length - (m + 1)) 48 := fun x => by
        rw [htk, List.append_assoc, List.set_append_right _ _ (by rw [List.length_take]; omega), List.length_take, Nat.min_eq_left (by omega), Nat.sub_self]
        rfl
      have hLs : ∀ x : UInt8, Lies g (l.take m ++ x :: List.replicate (l.length - (m + 1)) 48) (wr.setCell ⟨g, m, none⟩ (.int .u8 x.toNat)) := fun x => by
        have := hL.set m (by rw [hMl]; exact hml) x
        rw [hset] at this
        exact this
      have hmz : (m : Int) < (l.length : Int) := by omega
      have hc0 : (0 : Int) ≤ (c.toNat : Int) := by omega
      have Hs := Lib.hid hLs; clear hLs hset hL
      have Hc := Lib.hid hc; clear hc
      have Htk := Lib.hid htk; clear htk
      clear hMl hMm
      by_cases h57 : c.toNat < 57
      · have h57z : (c.toNat : Int) < 57 := by omega
        obtain ⟨f, rfl⟩ : ∃ f, gk = f + 1 := ⟨gk - 1, by omega⟩
        go_wp2
        go_ret
        have hRe : R = l.take m ++ (c.toNat + 1).toUInt8 :: List.replicate (l.length - (m + 1)) 48 := by
          rw [← Hr.out, Htk.out, incL_stop _ _ h57]; simp
        have hRl : R.length = l.length := by rw [hRe]; simp; omega
        have hcn : ((c.toNat + 1).toUInt8.toNat : Int) = (c.toNat : Int) + 1 := by simp [Nat.toUInt8]; omega
        refine ⟨g, cap, ?_, ?_, ?_, ?_⟩
        · show Ending.returned (Value.slice (some ⟨g, 0, none⟩) ↑l.length cap) = _
          rw [hRl]
        · rw [hRe]
          have := Hs.out (c.toNat + 1).toUInt8
          rw [hcn] at this
          exact this
        · simpa using (by omega : g < wr.heap.size)
        · exact hb.setCell (Nat.le_refl _) _
      · have h57z : ¬ (c.toNat : Int) < 57 := by omega
        obtain ⟨f, rfl⟩ : ∃ f, gk = f + 1 := ⟨gk - 1, by omega⟩
        go_wp2
        go_roundg f
        case measure => omega
        case rel =>
          refine ⟨m, (m : Int) - 1, rfl, by omega, by omega, ?_, hb.setCell (Nat.le_refl _) _, ?_, by omega⟩
          · have := Hs.out 48
            rw [show l.length - m = (l.length - (m + 1)) + 1 by omega, List.replicate_succ]
            exact this
          · rw [← Hr.out, Htk.out, incL_step _ _ _ (by omega)]
            rw [show l.length - m = (l.length - (m + 1)) + 1 by omega]
structure RG (w : World) (n : Bool) (W : World) : Prop where
  c0 : W.cell? ⟨w.heap.size, 0, none⟩ = some (.bool n)
  e0 : W.cell? ⟨w.heap.size + 1, 0, none⟩ = some (.bool false)
  e1 : W.cell? ⟨w.heap.size + 1, 1, none⟩ = some (.string ⟨#[]⟩)
  e2 : W.cell? ⟨w.heap.size + 1, 2, none⟩ = some (.int .i64 0)
  fr : ∀ j, W.frozen? ⟨w.heap.size + 1, j, none⟩ = false
  sz : w.heap.size + 1 + 1 < W.heap.size
  bel : Below w.heap.size w W
theorem RG.step {w W W' : World} {n : Bool} (h : RG w n W) (b : Below (w.heap.size + 1 + 1) W W') : RG w n W' where
  c0 := (b.cell (p := ⟨w.heap.size, 0, none⟩) (by show w.heap.size < _; omega)).trans h.c0
  e0 := (b.cell (p := ⟨w.heap.size + 1, 0, none⟩) (by show w.heap.size + 1 < _; omega)).trans h.e0
  e1 := (b.cell (p := ⟨w.heap.size + 1, 1, none⟩) (by show w.heap.size + 1 < _; omega)).trans h.e1
  e2 := (b.cell (p := ⟨w.heap.size + 1, 2, none⟩) (by show w.heap.size + 1 < _; omega)).trans h.e2
  fr := fun j => (b.frozen (p := ⟨w.heap.size + 1, j, none⟩) (by show w.heap.size + 1 < _; omega)).trans (h.fr j)
  sz := Nat.lt_of_lt_of_le h.sz b.size
  bel := h.bel.trans (b.mono (by omega))
attribute [local go_sem] max2_int max_two
set_option maxRecDepth 100000 in
set_option maxHeartbeats 4000000 in
theorem round_more (n : Bool) (d : ByteArray) (k sc ct : Nat) (s : Int) (w : World) (hsc : (if s < 0 then (0 : Int) else s) = (sc : Int)) (hk : k < d.size) (hks : sc < k) (hct : ct + 1 + (k - sc) = d.size) (hd : ∀ c ∈ d.data.toList, 48 ≤ c.toNat ∧ c.toNat ≤ 57) (hs : d.size ≤ 1000)
    (x : UInt8) (hx : d.data.toList[ct]? = some x) (C : Int) (hC : C = -1 ∨ C = 0 ∨ C = 1) (O : Bool)
    (hcC : ∀ W, Calls Tryd.prog 73 #[.string (d.extract (ct + 1) d.size), .string ((⟨#[53]⟩ : ByteArray) ++ ⟨(Lib.repeatL [48] (k - sc - 1)).toArray⟩)] W fun e w' => e = .returned (.int .i64 C) ∧ W = w')
    (hO : (((x.toNat : Int) - 48) % 2 == 1) = O)
    (r1 : Bool) (r2 : ByteArray) (r3 : Int) (hm : U.dec_make0.f n ⟨(if C > 0 ∨ C = 0 ∧ O = true then incL (d.data.toList.take (ct + 1)) else d.data.toList.take (ct + 1)).toArray⟩ sc = some (r1, r2, r3)) :
    Calls Tryd.prog 40 #[decV n d k, .int .i64 s] w fun e w' => e = .returned (.agg #[.bool r1, .string r2, .int .i64 r3]) ∧ Below w.heap.size w w' := by
  unfold decV
  obtain ⟨X, hX⟩ : ∃ X, (w.alloc (.cells #[.bool n, .string d, .int .i64 k] 23)).alloc (.cells #[.bool false, .string ⟨#[]⟩, .int .i64 0] 23) = X := ⟨_, rfl⟩
  have hXs : X.heap.size = w.heap.size + 1 + 1 := by rw [← hX]; simp
  have hXd : X.drew.heap.size = w.heap.size + 1 + 1 := by simpa using hXs
  have bX : Below w.heap.size w X := by rw [← hX]; exact ((Below.refl _ _).alloc (Nat.le_refl _) _).alloc (by simp) _
  have c0 : X.cell? ⟨w.heap.size, 0, none⟩ = some (.bool n) := by rw [← hX]; simp [go_sem]
  have c1 : X.cell? ⟨w.heap.size, 1, none⟩ = some (.string d) := by rw [← hX]; simp [go_sem]
  have c2 : X.cell? ⟨w.heap.size, 2, none⟩ = some (.int .i64 k) := by rw [← hX]; simp [go_sem]
  have d0 : X.cell? ⟨w.heap.size + 1, 0, none⟩ = some (.bool false) := by rw [← hX]; simp [go_sem]
  have d1 : X.cell? ⟨w.heap.size + 1, 1, none⟩ = some (.string ⟨#[]⟩) := by rw [← hX]; simp [go_sem]
  have d2 : X.cell? ⟨w.heap.size + 1, 2, none⟩ = some (.int .i64 0) := by rw [← hX]; simp [go_sem]
  have f0 : ∀ j, X.frozen? ⟨w.heap.size + 1, j, none⟩ = false := fun j => by
    rw [← hX]
    have hh := heap_alloc_new (w.alloc (.cells #[.bool n, .string d, .int .i64 k] 23)) (.cells #[.bool false, .string ⟨#[]⟩, .int .i64 0] 23)
    rw [show (w.alloc (.cells #[.bool n, .string d, .int .i64 k] 23)).heap.size = w.heap.size + 1 by simp] at hh
    exact Lib.frozen_of_heap hh j
  obtain ⟨W2, hW2⟩ : ∃ W2, Lib.bytesWorld X.drew 5 (d.extract 0 (ct + 1)) = W2 := ⟨_, rfl⟩
  have b2 : Below X.heap.size X W2 := by
    rw [← hW2]
    exact ⟨rfl, rfl, rfl, by rw [Lib.bytesWorld_size]; simp, fun i hi => (Lib.bytesWorld_at_old _ _ _ _ (by simpa using hi)).trans rfl⟩
  have hsz : (d.extract 0 (ct + 1)).size = ct + 1 := by simp; omega
  have hdl : (d.extract 0 (ct + 1)).data.toList = d.data.toList.take (ct + 1) := by rw [Lib.extract_data]; simp
  have hL2 : Lies (w.heap.size + 1 + 1) (d.data.toList.take (ct + 1)) W2 := by
    refine ⟨fun j c hj => ?_, fun j hj => ?_⟩
    · rw [← hW2, ← hXd]
      have hlt : j < ct + 1 := by
        have := (List.getElem?_eq_some_iff.1 hj).1
        rw [List.length_take] at this
        omega
      rw [Lib.bytesWorld_cell _ _ _ _ (by rw [hsz]; exact hlt), hdl, List.getD_eq_getElem?_getD, hj]
      rfl
    · rw [← hW2, ← hXd]
      have hlt : j < ct + 1 := by rw [List.length_take] at hj; omega
      have hbs : j < (Lib.bytesCells X.drew 5 (d.extract 0 (ct + 1))).size := by
        simp [Lib.bytesCells]; omega
      simp only [World.frozen?, Lib.bytesWorld_at_new]
      simp; omega
  have hs2 : w.heap.size + 1 + 1 < W2.heap.size := by rw [← hW2, Lib.bytesWorld_size, hXd]; omega
  have cc := fun (a : Addr) (v : Value) (h : X.cell? a = some v) => (b2.cell (p := a) (World.block_lt_of_cell? _ _ h)).trans h
  have hR2 : RG w n W2 := ⟨cc _ _ c0, cc _ _ d0, cc _ _ d1, cc _ _ d2, fun j => (b2.frozen (p := ⟨w.heap.size + 1, j, none⟩) (by show w.heap.size + 1 < X.heap.size; omega)).trans (f0 j), hs2, bX.trans (b2.mono (by omega))⟩
  obtain ⟨CP, hCP⟩ : ∃ CP, grownCap X.drew (d.extract 0 (ct + 1)).size 0 5 = CP := ⟨_, rfl⟩
  have hk1 : (convert 9 100 (.string (d.extract 0 (ct + 1)))).run Tryd.prog X.drew = .ok (.slice (some ⟨w.heap.size + 1 + 1, 0, none⟩) ((ct + 1 : Nat)) CP) W2 := by
    rw [Lib.run_convert_string_bytes (P := Tryd.prog) X.drew 9 100 5 _ Tryd.underlying9 Tryd.underlying100 Tryd.underlying5, hW2, hXd, hCP, hsz]
  have hw1 : W2.cell? ⟨w.heap.size, 1, none⟩ = some (.string d) := cc _ _ c1
  have hcut : (d.size : Int) - ((k : Int) - sc) = (ct : Int) + 1 := by omega
  have hz0 : (0 : Int) ≤ (ct : Int) + 1 := by omega
  have hz1 : (ct : Int) + 1 ≤ (d.size : Int) := by omega
  have hle : (sc : Int) < (k : Int) := by omega
  have hxr := hd x (List.mem_of_getElem? hx)
  have hx0 : (48 : Int) ≤ (x.toNat : Int) := by omega
  have hx9 : (x.toNat : Int) ≤ 57 := by omega
  have hxt : (d.data.toList.take (ct + 1))[ct]? = some x := by rw [List.getElem?_take_of_lt (by omega), hx]
  have hll : (d.data.toList.take (ct + 1)).length = ct + 1 := by
    have := Lib.size_eq d
    rw [List.length_take]; omega
  have cR : ∀ (m : Int) (W : World), 0 ≤ m → m ≤ 1000 → Calls Tryd.prog 64 #[.string ⟨#[48]⟩, .int .i64 m] W fun e w' => e = .returned (.string ⟨(Lib.repeatL [48] m.toNat).toArray⟩) ∧ Below W.heap.size W w' := fun m W h0 h1 => by
    have := Tryd.strings_Repeat ⟨#[48]⟩ m.toNat W (by omega) (by show 1 * m.toNat ≤ _; omega)
    rw [Int.toNat_of_nonneg h0] at this
    exact this
  have cR1 := fun (W : World) => cR (((d.size - (ct + 1) : Nat) : Int) - 1) W (by omega) (by omega)
  rw [show ((((d.size - (ct + 1) : Nat) : Int) - 1)).toNat = k - sc - 1 by omega] at cR1
  clear cR
  obtain ⟨rz, hrz⟩ : ∃ rz : ByteArray, (⟨(Lib.repeatL [48] (k - sc - 1)).toArray⟩ : ByteArray) = rz := ⟨_, rfl⟩
  have hrzs : rz.size ≤ 1000 := by rw [← hrz, Lib.size_eq, Lib.repeatL_length]; show (k - sc - 1) * 1 ≤ 1000; omega
  rw [hrz] at hcC cR1
  clear hrz
  have cU := fun (W : World) h1 h2 => up_any (d.data.toList.take (ct + 1)) (w.heap.size + 1 + 1) CP W (by rw [hll]; omega) (by rw [hll]; omega) h1 h2
  rw [hll] at cU
  have cK := fun (W : World) (h : Lies (w.heap.size + 1 + 1) (d.data.toList.take (ct + 1)) W) => h.str CP
  rw [hll] at cK
  clear hll
  have Hxt := Lib.hid hxt; clear hxt hx hxr
  have HR2 := Lib.hid hR2; clear hR2
  have HL2 := Lib.hid hL2; clear hL2
  have Hm := Lib.hid hm; clear hm
  have Hd := Lib.hid hd; clear hd
  clear cc hs2 b2 hXs hXd bX c0 d0 d1 d2 f0 hsz hdl hCP
  have HW := Lib.hid hW2; clear hW2
  have CK := Lib.hid cK; clear cK
  rcases hC with rfl | rfl | rfl
  rotate_left
  rcases O with _ | _
  rotate_left
  all_goals
    have hm2 := Hm.out
    first | rw [if_pos (by decide)] at hm2 | rw [if_pos (Or.inl (by decide))] at hm2 | rw [if_neg (by decide)] at hm2 | rw [if_neg (fun h => Or.elim h (fun h => absurd h (by decide)) (fun h => absurd h.1 (by decide)))] at hm2
    have cMM := fun W => U.dec_make0.calls n _ sc r1 r2 r3 W hm2
    clear hm2 Hm
    go_enter Tryd.func40, Tryd.ntmps40
    go_wp2
    go_region_with (fail)
    all_goals
      go_wp2_with (first
        | (go_at_call 64; ((with_reducible refine (cR1 _).mono ?_); rintro e W3 ⟨rfl, b3⟩; have h3 := HR2.out.step (b3.mono (Nat.le_of_lt HR2.out.sz)); have L3 := HL2.out.below b3 HR2.out.sz; have q3 := L3.cell ct x Hxt.out; have hk3 := CK.out _ L3; have g0 := h3.c0; have g1 := h3.e0; have g2 := h3.e1; have g3 := h3.e2; have g4 := h3.fr 0; have g5 := h3.fr 1; have g6 := h3.fr 2; have K3 := Lib.hid L3; clear L3; have G3 := Lib.hid h3; clear h3))
        | (go_at_call 73; ((with_reducible refine (hcC _).mono ?_); rintro e W4 ⟨rfl, rfl⟩))
        | (go_at_call 74; ((with_reducible refine (cU _ K3.out G3.out.sz).mono ?_); rintro e W5 ⟨g', cap', rfl, L5, hg5, b5⟩; have h5 := G3.out.step b5; have hk5 := L5.str cap'; have q0 := h5.c0; clear L5; have G5 := Lib.hid h5; clear h5))
        | (go_at_call 72; ((with_reducible refine (cMM _).mono ?_); rintro e W6 ⟨rfl, b6⟩; (first | have h6 := G5.out.step (b6.mono (Nat.le_of_lt G5.out.sz)) | have h6 := G3.out.step (b6.mono (Nat.le_of_lt G3.out.sz))); have p1 := h6.e0; have p2 := h6.e1; have p3 := h6.e2; have p4 := h6.fr 0; have p5 := h6.fr 1; have p6 := h6.fr 2; have b7 := h6.bel; have G6 := Lib.hid h6; clear h6)))
      have y0 := World.cell?_setCell_same W6 ⟨w.heap.size + 1, 0, none⟩ (.bool r1) p1
      have z1 := (World.cell?_setCell_other W6 ⟨w.heap.size + 1, 0, none⟩ ⟨w.heap.size + 1, 1, none⟩ (.bool r1) (by simp)).trans p2
      have y1 := World.cell?_setCell_same (W6.setCell ⟨w.heap.size + 1, 0, none⟩ (.bool r1)) ⟨w.heap.size + 1, 1, none⟩ (.string r2) z1
      have z2 := (World.cell?_setCell_other (W6.setCell ⟨w.heap.size + 1, 0, none⟩ (.bool r1)) ⟨w.heap.size + 1, 1, none⟩ ⟨w.heap.size + 1, 2, none⟩ (.string r2) (by simp)).trans ((World.cell?_setCell_other W6 ⟨w.heap.size + 1, 0, none⟩ ⟨w.heap.size + 1, 2, none⟩ (.bool r1) (by simp)).trans p3)
      have y2 := World.cell?_setCell_same ((W6.setCell ⟨w.heap.size + 1, 0, none⟩ (.bool r1)).setCell ⟨w.heap.size + 1, 1, none⟩ (.string r2)) ⟨w.heap.size + 1, 2, none⟩ (.int .i64 r3) z2
      refine bodyPost_ret (v := .agg #[.bool r1, .string r2, .int .i64 r3]) (by simp [results, Tryd.results40, go_sem, y0, y1, y2]) rfl ?_
      exact ⟨rfl, ((b7.setCell (by simp) _).setCell (by simp) _).setCell (by simp) _⟩
end Go.Proofs.YtonjkoeacedaiaaDoor
namespace Go.Proofs.YtonjkoeacedaiaaDoor
open Go.RowKit Go.Proofs.YtonjkoeacedaiaaDoorW.PrintWords
set_option linter.unusedVariables false
set_option linter.unusedSimpArgs false
def grpR (B : List UInt8) : List UInt8 → List UInt8
  | [] => []
  | c :: t => (if (t.length + 1) % 3 = 0 then B else []) ++ c :: grpR B t
def grp (B : List UInt8) : List UInt8 → List UInt8
  | [] => []
  | c :: t => c :: grpR B t
def restG (B D : List UInt8) (i : Nat) : List UInt8 := if i = 0 then grp B D else grpR B (D.drop i)
theorem restG_zero (B D : List UInt8) (c : UInt8) (h : D[0]? = some c) : restG B D 0 = [c] ++ restG B D (0 + 1) := by
  cases D with
  | nil => simp at h
  | cons a t =>
    have : a = c := by simpa using h
    subst this
    rfl
theorem drop_at' {D : List UInt8} {i : Nat} {c : UInt8} (h : D[i]? = some c) : D.drop i = c :: D.drop (i + 1) := by
  obtain ⟨hl, e⟩ := List.getElem?_eq_some_iff.1 h
  rw [List.drop_eq_getElem_cons hl, e]
theorem restG_yes (B D : List UInt8) (i : Nat) (c : UInt8) (h0 : i ≠ 0) (h : D[i]? = some c) (h3 : (D.length - i) % 3 = 0) : restG B D i = B ++ [c] ++ restG B D (i + 1) := by
  obtain ⟨hl, _⟩ := List.getElem?_eq_some_iff.1 h
  unfold restG
  rw [if_neg h0, if_neg (by omega), drop_at' h]
  rw [show grpR B (c :: D.drop (i + 1)) = (if ((D.drop (i + 1)).length + 1) % 3 = 0 then B else []) ++ c :: grpR B (D.drop (i + 1)) from rfl]
  rw [List.length_drop, if_pos (by omega)]
  simp
theorem restG_no (B D : List UInt8) (i : Nat) (c : UInt8) (h0 : i ≠ 0) (h : D[i]? = some c) (h3 : ¬ (D.length - i) % 3 = 0) : restG B D i = [c] ++ restG B D (i + 1) := by
  obtain ⟨hl, _⟩ := List.getElem?_eq_some_iff.1 h
  unfold restG
  rw [if_neg h0, if_neg (by omega), drop_at' h]
  rw [show grpR B (c :: D.drop (i + 1)) = (if ((D.drop (i + 1)).length + 1) % 3 = 0 then B else []) ++ c :: grpR B (D.drop (i + 1)) from rfl]
  rw [List.length_drop, if_neg (by omega)]
  simp
theorem grpR_len (B : List UInt8) : ∀ L, (grpR B L).length ≤ (B.length + 1) * L.length
  | [] => by simp [grpR]
  | c :: t => by
    have := grpR_len B t
    unfold grpR
    rw [List.length_append, List.length_cons, List.length_cons, Nat.mul_add, Nat.mul_one]
    split <;> simp <;> omega
set_option maxRecDepth 100000 in
set_option maxHeartbeats 4000000 in
theorem group_any (d b : ByteArray) (w : World) (hd : d.size ≤ 1000) (hb : b.size ≤ 1000) :
    Calls Tryd.prog 36 #[.string d, .string b] w fun e w' => e = .returned (.string ⟨(grp b.data.toList d.data.toList).toArray⟩) ∧ Below w.heap.size w w' := by
  have hl : d.data.toList.length = d.size := (Lib.size_eq d).symm
  have hlb : b.data.toList.length = b.size := (Lib.size_eq b).symm
  have hfresh := Lib.fresh_isBuffer 109 5 w
  obtain ⟨R, hR⟩ : ∃ R, grp b.data.toList d.data.toList = R := ⟨_, rfl⟩
  rw [hR]
  have hRl : R.length ≤ 1001 * 1000 + 1 := by
    rw [← hR]
    cases h : d.data.toList with
    | nil => simp [grp]
    | cons c t =>
      rw [h, List.length_cons] at hl
      have := grpR_len b.data.toList t
      have h2 : (b.data.toList.length + 1) * t.length ≤ 1001 * 1000 := Nat.mul_le_mul (by omega) (by omega)
      show (c :: grpR _ t).length ≤ _
      rw [List.length_cons]
      omega
  have HR := Lib.hid hR; clear hR
  go_enter Tryd.func36, Tryd.ntmps36
  go_wp2
  go_loopg [9] d.size (fun gk si wx => ∃ (i : Nat) (acc : List UInt8), si = .int .i64 i ∧ i ≤ d.size ∧ Lib.IsBuffer 109 5 w.heap.size w.heap.size (Lib.byteCells acc) wx ∧ Below w.heap.size w wx ∧ acc ++ restG b.data.toList d.data.toList i = R ∧ d.size ≤ i + gk)
  case atStart => exact ⟨0, [], rfl, by omega, hfresh, (Below.refl _ _).alloc (Nat.le_refl _) _, by rw [← HR.out]; rfl, by omega⟩
  case round =>
    obtain ⟨i, acc, rfl, hi, hI, hbw, hacc, hfu⟩ := hrel
    clear hfresh HR
    have hsz := hbw.size
    have hal : acc.length ≤ R.length := by rw [← hacc, List.length_append]; omega
    have HA := Lib.hid hacc; clear hacc
    by_cases hp : i < d.size
    · obtain ⟨f, rfl⟩ : ∃ f, gk = f + 1 := ⟨gk - 1, by omega⟩
      have hpz : (i : Int) < (d.size : Int) := by omega
      have hip : d.data.toList[i]? = some (d[i]'hp) := by rw [List.getElem?_eq_getElem (by omega)]; rfl
      have cB := fun W bs hI hB h1 h2 => Tryd.Buffer_WriteByte w.heap.size w.heap.size bs ((d[i]'hp).toNat : Int) W hI hB h1 h2
      have cS := fun W bs hI hB h1 h2 => Tryd.Buffer_WriteString w.heap.size w.heap.size bs b W hI hB h1 h2
      have hbl : (Lib.byteCells acc).length = acc.length := Lib.byteCells_length _
      have Hbl := Lib.hid hbl; clear hbl
      have Hip := Lib.hid hip; clear hip
      have Hl := Lib.hid hl; clear hl
      have Hlb := Lib.hid hlb; clear hlb
      by_cases h0 : i = 0
      · subst h0
        have e1 : restG b.data.toList d.data.toList 0 = [d[0]'hp] ++ restG b.data.toList d.data.toList (0 + 1) := restG_zero _ _ _ Hip.out
        have HE := Lib.hid e1; clear e1
        go_wp2_with (go_at_call 67; ((with_reducible refine (cB _ _ hI (by assumption) (Lib.byteCells_one _) (by rw [Hbl.out]; omega)).mono ?_); rintro e W1 ⟨rfl, hI1, hb1⟩))
        go_roundg f
        case measure => omega
        case rel => exact ⟨0 + 1, acc ++ [d[0]'hp], by go_num, by omega, by rw [Lib.byteCells_append]; exact hI1, hbw.trans hb1, by rw [← HA.out, HE.out, List.append_assoc], by omega⟩
      · have hp0 : (0 : Int) < (i : Int) := by omega
        by_cases h3 : (d.size - i) % 3 = 0
        · have hz3 : (((d.size : Int) - i) % 3 == 0) = true := by rw [beq_iff_eq]; omega
          have e1 : restG b.data.toList d.data.toList i = b.data.toList ++ [d[i]'hp] ++ restG b.data.toList d.data.toList (i + 1) := restG_yes _ _ i _ h0 Hip.out (by rw [Hl.out]; exact h3)
          have HE := Lib.hid e1; clear e1
          go_wp2_with (first
            | (go_at_call 66; ((with_reducible refine (cS _ _ hI (by assumption) (Lib.byteCells_one _) (by rw [Hbl.out]; omega)).mono ?_); rintro e W1 ⟨rfl, hI1, hb1⟩; rw [← Lib.byteCells_append] at hI1; have hs1 := hb1.size))
            | (go_at_call 67; ((with_reducible refine (cB _ _ hI1 (by omega) (Lib.byteCells_one _) (by rw [Lib.byteCells_length, List.length_append, Hlb.out]; omega)).mono ?_); rintro e W2 ⟨rfl, hI2, hb2⟩)))
          go_roundg f
          case measure => omega
          case rel => exact ⟨i + 1, acc ++ b.data.toList ++ [d[i]'hp], by go_num, by omega, by rw [Lib.byteCells_append]; exact hI2, (hbw.trans hb1).trans hb2, by rw [← HA.out, HE.out]; simp, by omega⟩
        · have hz3 : (((d.size : Int) - i) % 3 == 0) = false := by rw [beq_eq_false_iff_ne]; omega
          have e1 : restG b.data.toList d.data.toList i = [d[i]'hp] ++ restG b.data.toList d.data.toList (i + 1) := restG_no _ _ i _ h0 Hip.out (by rw [Hl.out]; exact h3)
          have HE := Lib.hid e1; clear e1
          go_wp2_with (go_at_call 67; ((with_reducible refine (cB _ _ hI (by assumption) (Lib.byteCells_one _) (by rw [Hbl.out]; omega)).mono ?_); rintro e W1 ⟨rfl, hI1, hb1⟩))
          go_roundg f
          case measure => omega
          case rel => exact ⟨i + 1, acc ++ [d[i]'hp], by go_num, by omega, by rw [Lib.byteCells_append]; exact hI1, hbw.trans hb1, by rw [← HA.out, HE.out, List.append_assoc], by omega⟩
    · obtain rfl : i = d.size := by omega
      have e1 : restG b.data.toList d.data.toList d.size = [] := by
        unfold restG
        by_cases h0 : d.size = 0
        · rw [if_pos h0, List.eq_nil_of_length_eq_zero (show d.data.toList.length = 0 by omega)]; rfl
        · rw [if_neg h0, List.drop_eq_nil_of_le (by omega)]; rfl
      have e2 : acc = R := by rw [← HA.out, e1, List.append_nil]
      subst e2
      have cT := Tryd.Buffer_String w.heap.size w.heap.size acc wr hI
      clear HA e1
      go_wp2_with (go_at_call 68; ((with_reducible refine cT.mono ?_); rintro e W1 ⟨rfl, n, rfl⟩))
      go_ret
      exact ⟨rfl, pw_below_drewN hbw n⟩
end Go.Proofs.YtonjkoeacedaiaaDoor
namespace Go.Proofs.YtonjkoeacedaiaaDoor.G
open Go.RowKit Go.Proofs.YtonjkoeacedaiaaDoor Go.Proofs.YtonjkoeacedaiaaDoorW.PrintWords Go.Proofs.YtonjkoeacedaiaaDoorW.PrintMore
set_option linter.unusedVariables false
set_option linter.unusedSimpArgs false
def dec_Group.f (d b : ByteArray) : Option ByteArray := if d.size ≤ 1000 ∧ b.size ≤ 1000 then some ⟨(grp b.data.toList d.data.toList).toArray⟩ else none
theorem dec_Group.calls (d b r : ByteArray) (w : World) (h : dec_Group.f d b = some r) :
    Calls Tryd.prog 36 #[.string d, .string b] w fun e w' => e = .returned (.string r) ∧ Below w.heap.size w w' := by
  unfold dec_Group.f at h
  by_cases hs : d.size ≤ 1000 ∧ b.size ≤ 1000
  · rw [if_pos hs] at h
    obtain rfl := Option.some.inj h
    exact group_any d b w hs.1 hs.2
  · rw [if_neg hs] at h
    exact absurd h (by simp)
attribute [local go_sem] max2_int max_two
set_option maxRecDepth 100000 in
theorem round_same (n : Bool) (d : ByteArray) (k : Int) (sc : Int) (s : Int) (w : World) (hsc : (if s < 0 then (0 : Int) else s) = sc) (hks : k ≤ sc) :
    Calls Tryd.prog 40 #[decV n d k, .int .i64 s] w fun e w' => e = .returned (decV n d k) ∧ Below w.heap.size w w' := by
  unfold decV
  have bX : Below w.heap.size w ((w.alloc (.cells #[.bool n, .string d, .int .i64 k] 23)).alloc (.cells #[.bool false, .string ⟨#[]⟩, .int .i64 0] 23)) := ((Below.refl _ _).alloc (Nat.le_refl _) _).alloc (by simp) _
  go_enter Tryd.func40, Tryd.ntmps40
  go_wp2
  go_returns
  exact ⟨rfl, ((Below.refl _ _).alloc (Nat.le_refl _) _).alloc (by simp) _⟩
def digB (d : ByteArray) : Bool := d.data.toList.all fun c => decide (48 ≤ c.toNat) && decide (c.toNat ≤ 57)
theorem digB_at {d : ByteArray} (h : digB d = true) : ∀ c ∈ d.data.toList, 48 ≤ c.toNat ∧ c.toNat ≤ 57 := fun c hc => by
  have := List.all_eq_true.1 h c hc
  simpa using this
def roundL (D : List UInt8) (k sc : Nat) : List UInt8 :=
  if cmpS (D.drop (D.length - (k - sc))) (53 :: List.replicate (k - sc - 1) 48) > 0 ∨ cmpS (D.drop (D.length - (k - sc))) (53 :: List.replicate (k - sc - 1) 48) = 0 ∧ ((D.getD (D.length - (k - sc) - 1) 0).toNat - 48) % 2 = 1
  then incL (D.take (D.length - (k - sc))) else D.take (D.length - (k - sc))
def rndOk (a1 : ByteArray) (a2 : Int) : Bool := decide (0 ≤ a2) && decide (a2 < a1.size) && decide (a1.size ≤ 1000) && digB a1
def dec_Dec_Round.f (a0 : Bool) (a1 : ByteArray) (a2 a3 : Int) : Option (Bool × ByteArray × Int) :=
  if rndOk a1 a2 = true then (if a2 ≤ (if a3 < 0 then (0 : Int) else a3) then some (a0, a1, a2)
    else U.dec_make0.f a0 ⟨(roundL a1.data.toList a2.toNat (if a3 < 0 then (0 : Int) else a3).toNat).toArray⟩ (if a3 < 0 then (0 : Int) else a3)) else none
theorem if_iff {α : Type} {p q : Prop} [Decidable p] [Decidable q] (h : p ↔ q) {a b : α} : (if p then a else b) = if q then a else b := by
  by_cases hp : p
  · rw [if_pos hp, if_pos (h.1 hp)]
  · rw [if_neg hp, if_neg (fun hq => hp (h.2 hq))]
theorem cmpS_or (a b : List UInt8) : cmpS a b = -1 ∨ cmpS a b = 0 ∨ cmpS a b = 1 := by
  unfold cmpS
  split
  · exact Or.inl rfl
  · split
    · exact Or.inr (Or.inl rfl)
    · exact Or.inr (Or.inr rfl)
theorem repeatL_one (c : UInt8) : ∀ m, Lib.repeatL [c] m = List.replicate m c
  | 0 => rfl
  | m + 1 => by
    show [c] ++ Lib.repeatL [c] m = _
    rw [repeatL_one c m, List.replicate_succ]
    rfl
theorem dec_Dec_Round.calls (a0 : Bool) (a1 : ByteArray) (a2 a3 : Int) (r1 : Bool) (r2 : ByteArray) (r3 : Int) (w : World) (h : dec_Dec_Round.f a0 a1 a2 a3 = some (r1, r2, r3)) :
    Calls Tryd.prog 40 #[.agg #[.bool a0, .string a1, .int .i64 a2], .int .i64 a3] w fun e w' => e = .returned (.agg #[.bool r1, .string r2, .int .i64 r3]) ∧ Below w.heap.size w w' := by
  unfold dec_Dec_Round.f at h
  by_cases hok : rndOk a1 a2 = true
  · rw [if_pos hok] at h
    obtain ⟨⟨⟨h0, h1⟩, h2⟩, hd⟩ : ((0 ≤ a2 ∧ a2 < a1.size) ∧ a1.size ≤ 1000) ∧ digB a1 = true := by simpa [rndOk] using hok
    obtain ⟨s, hs⟩ : ∃ s, (if a3 < 0 then (0 : Int) else a3) = s := ⟨_, rfl⟩
    have hs0 : 0 ≤ s := by rw [← hs]; split <;> omega
    rw [hs] at h
    by_cases hk : a2 ≤ s
    · rw [if_pos hk] at h
      obtain ⟨rfl, g⟩ := Prod.mk.inj (Option.some.inj h)
      obtain ⟨rfl, rfl⟩ := Prod.mk.inj g
      exact round_same a0 a1 a2 s a3 w hs hk
    · rw [if_neg hk] at h
      obtain ⟨k, rfl⟩ := Int.eq_ofNat_of_zero_le h0
      obtain ⟨sc, rfl⟩ := Int.eq_ofNat_of_zero_le hs0
      rw [Int.toNat_natCast, Int.toNat_natCast] at h
      have hD := digB_at hd
      have hl : a1.data.toList.length = a1.size := (Lib.size_eq a1).symm
      obtain ⟨ct, hct⟩ : ∃ ct, ct + 1 + (k - sc) = a1.size := ⟨a1.size - (k - sc) - 1, by omega⟩
      obtain ⟨x, hx⟩ : ∃ x, a1.data.toList[ct]? = some x := ⟨_, List.getElem?_eq_getElem (by omega)⟩
      have e1 : (a1.extract (ct + 1) a1.size).toList = a1.data.toList.drop (ct + 1) := by rw [Lib.toList_data, Lib.extract_to_end]
      have e2 : ((⟨#[53]⟩ : ByteArray) ++ ⟨(Lib.repeatL [48] (k - sc - 1)).toArray⟩).toList = 53 :: List.replicate (k - sc - 1) 48 := by
        rw [Lib.toList_data, ByteArray.data_append, Array.toList_append, repeatL_one]
        rfl
      have hcut : a1.data.toList.length - (k - sc) = ct + 1 := by omega
      refine round_more a0 a1 k sc ct a3 w hs (by omega) (by omega) hct hD h2 x hx (cmpS (a1.data.toList.drop (ct + 1)) (53 :: List.replicate (k - sc - 1) 48)) (cmpS_or _ _) ((((x.toNat : Int) - 48) % 2 == 1)) ?_ rfl r1 r2 r3 ?_
      · intro W
        have := cmp_str (a1.extract (ct + 1) a1.size) ((⟨#[53]⟩ : ByteArray) ++ ⟨(Lib.repeatL [48] (k - sc - 1)).toArray⟩) W
        rw [e1, e2] at this
        exact this
      · unfold roundL at h
        rw [hcut, show ct + 1 - 1 = ct by omega, List.getD_eq_getElem?_getD, hx, Option.getD_some] at h
        have hxr := hD x (List.mem_of_getElem? hx)
        have e3 : ((((x.toNat : Int) - 48) % 2 == 1) = true) = ((x.toNat - 48) % 2 = 1) := by
          rw [beq_iff_eq, eq_iff_iff]; omega
        rw [if_iff (or_congr Iff.rfl (and_congr Iff.rfl (iff_of_eq e3)))]
        exact h
  · rw [if_neg hok] at h
    exact absurd h (by simp)
end Go.Proofs.YtonjkoeacedaiaaDoor.G
namespace Go.Proofs.YtonjkoeacedaiaaDoor.R
open Go.RowKit Go.Proofs.YtonjkoeacedaiaaDoor.G Go.Proofs.YtonjkoeacedaiaaDoor.U Go.Proofs.YtonjkoeacedaiaaDoorW.PrintWords Go.Proofs.YtonjkoeacedaiaaDoorW.PrintLast Go.Proofs.YtonjkoeacedaiaaDoorW.PrintMore
attribute [local go_sem] max2_int min2_int max_two min_two max_three min_three max_four min_four
set_option linter.unusedVariables false
set_option linter.unusedSimpArgs false
def errW : Option Int → Value
  | none => .nilIface
  | some c => .iface 0 (.int .i64 c)
theorem errW_none : errW none = .nilIface := rfl
theorem errW_some (c : Int) : errW (some c) = .iface 0 (.int .i64 c) := rfl
structure S23 where
  f0 : Bool
  f1 : ByteArray
  f2 : Int
end Go.Proofs.YtonjkoeacedaiaaDoor.R
namespace Go.Proofs.YtonjkoeacedaiaaDoor.R
open Go.RowKit Go.Proofs.YtonjkoeacedaiaaDoor.G Go.Proofs.YtonjkoeacedaiaaDoor.U Go.Proofs.YtonjkoeacedaiaaDoorW.PrintWords Go.Proofs.YtonjkoeacedaiaaDoorW.PrintLast Go.Proofs.YtonjkoeacedaiaaDoorW.PrintMore
attribute [local go_sem] max2_int min2_int max_two min_two max_three min_three max_four min_four
set_option linter.unusedVariables false
set_option linter.unusedSimpArgs false
theorem eqA23 (d : Nat) (w : World) (x0 y0 : Bool) (x1 y1 : ByteArray) (x2 y2 : Int) :
    (Op.equalIn (d + 2) 23 (.agg #[.bool x0, .string x1, .int .i64 x2]) (.agg #[.bool y0, .string y1, .int .i64 y2])).run Tryd.prog w = .ok (x0 == y0 && (x1.toList == y1.toList && (x2 == y2))) w := by
  refine eqA_of Tryd.underlying23 (by kernel_rfl) ?_
  refine eqf_cons (by rfl) (by go_simp; rfl) (by go_simp; rfl) (by go_simp) ?_
  refine eqf_cons (by rfl) (by go_simp; rfl) (by go_simp; rfl) (by go_simp) ?_
  exact eqf_last (by rfl) (by go_simp; rfl) (by go_simp; rfl) (by go_simp)
end Go.Proofs.YtonjkoeacedaiaaDoor.R
namespace Go.Proofs.YtonjkoeacedaiaaDoor.R
open Go.RowKit Go.Proofs.YtonjkoeacedaiaaDoor.G Go.Proofs.YtonjkoeacedaiaaDoor.U Go.Proofs.YtonjkoeacedaiaaDoorW.PrintWords Go.Proofs.YtonjkoeacedaiaaDoorW.PrintLast Go.Proofs.YtonjkoeacedaiaaDoorW.PrintMore
attribute [local go_sem] max2_int min2_int max_two min_two max_three min_three max_four min_four
set_option linter.unusedVariables false
set_option linter.unusedSimpArgs false
attribute [local go_sem high] eqA23
def dec_Dec_Whole.f (a0_0 : Bool) (a0_1 : ByteArray) (a0_2 : Int) : Option (ByteArray) := if 0 ≤ (wrap64 ((a0_1.size : Int) - a0_2)) then (if (wrap64 ((a0_1.size : Int) - a0_2)) ≤ (a0_1.size : Int) then (some (a0_1.extract 0 ((wrap64 ((a0_1.size : Int) - a0_2)) : Int).toNat)) else (none)) else (none)
set_option maxHeartbeats 8000000 in
set_option maxRecDepth 100000 in
theorem dec_Dec_Whole.calls (a0_0 : Bool) (a0_1 : ByteArray) (a0_2 : Int) (r : ByteArray) (w : World) (h : dec_Dec_Whole.f a0_0 a0_1 a0_2 = some r) :
    Calls Tryd.prog 30 #[.agg #[.bool a0_0, .string a0_1, .int .i64 a0_2]] w fun e w' => e = .returned (.string r) ∧ Below w.heap.size w w' := by
  have hu23 := Tryd.underlying23
  have HB := Aside0.mk (Below.refl w.heap.size w)
  have H : (if 0 ≤ (wrap64 ((a0_1.size : Int) - a0_2)) then (if (wrap64 ((a0_1.size : Int) - a0_2)) ≤ (a0_1.size : Int) then (some (a0_1.extract 0 ((wrap64 ((a0_1.size : Int) - a0_2)) : Int).toNat)) else (none)) else (none)) = some r := h
  clear h
  obtain ⟨ji2, hji2⟩ : ∃ j_ : Int, (wrap64 ((a0_1.size : Int) - a0_2)) = j_ := ⟨_, rfl⟩
  replace H : (if 0 ≤ (ji2) then (if (ji2) ≤ (a0_1.size : Int) then (some (a0_1.extract 0 ((ji2) : Int).toNat)) else (none)) else (none)) = some r := by first | (rw [hji2] at H; exact H) | (simp only [hji2] at H ⊢; exact H)
  have hji2w : (IntKind.i64.wrap ((a0_1.size : Int) - a0_2)) = ji2 := (i64_w _).trans hji2
  by_cases c3 : 0 ≤ (ji2)
  · rw [if_pos c3] at H
    have c3b0 := eq_true c3
    have c3b1 : decide (0 ≤ (ji2)) = true := decide_eq_true c3
    clear c3
    by_cases c4 : (ji2) ≤ (a0_1.size : Int)
    · rw [if_pos c4] at H
      have c4b0 := eq_true c4
      have c4b1 : decide ((ji2) ≤ (a0_1.size : Int)) = true := decide_eq_true c4
      clear c4
      obtain rfl := Option.some.inj H
      go_enter Tryd.func30, Tryd.ntmps30
      go_wp2_with (first | ((with_reducible refine gate_dst (N := 1) rfl ?_); refine box_event ?hg (N := 1) ?hd (cs := #[.bool a0_0, .string a0_1, .int .i64 a0_2]) (t := 23) ?hr ?_; (case hd => rfl); (case hg => rfl); (case hr => first | (go_simp; done) | (go_simp; rfl)); intro gb101 hg w5 hbox hb; have n0_ := Aside0.mk (below_step (by repeat (first | (with_reducible first | exact HB.out | apply below_alloc | apply pw_below_drewN | apply below_drew1) | exact HB.out)) hb); have n1_ := Aside0.mk (hbox); have n2_ := Aside0.mk ((by rw [hg]; exact (below_size (by repeat (first | (with_reducible first | exact HB.out | apply below_alloc | apply pw_below_drewN | apply below_drew1) | exact HB.out))) : w.heap.size ≤ gb101)); have n3_ := Aside0.mk ((by rw [hg]; exact (below_size (by repeat (first | (with_reducible first | exact HB.out | apply below_alloc | apply pw_below_drewN | apply below_drew1) | exact HB.out))) : w.heap.size ≤ gb101)); clear HB; have HB := n0_; have BK101 := n1_; have GW101 := n2_; have GE101 := n3_; clear n0_ n1_ n2_ n3_; clear hb hbox hg; have hcz6_0 : w5.cell? ⟨gb101, 0, none⟩ = some (.bool a0_0) := (blk_cell BK101.out 0).trans rfl; have hcz6_1 : w5.cell? ⟨gb101, 1, none⟩ = some (.string a0_1) := (blk_cell BK101.out 1).trans rfl; have hcz6_2 : w5.cell? ⟨gb101, 2, none⟩ = some (.int .i64 a0_2) := (blk_cell BK101.out 2).trans rfl; have hfz6_0 := blk_frozen BK101.out 0; have hfz6_1 := blk_frozen BK101.out 1; have hfz6_2 := blk_frozen BK101.out 2))
      go_ret
      exact ⟨by first | rfl | (simp [errW_none, errW_some] <;> rfl) | (simp only [← hji2]; first | rfl | (simp [errW_none, errW_some] <;> rfl)) | (simp [*, errW_none, errW_some] <;> rfl), by repeat (first | (with_reducible first | exact HB.out | apply below_alloc | apply pw_below_drewN | apply below_drew1 | refine below_set ?_ GE101.out) | exact HB.out)⟩
    · rw [if_neg c4] at H
      exact absurd H (by simp)
  · rw [if_neg c3] at H
    exact absurd H (by simp)
def dec_Dec_Part.f (a0_0 : Bool) (a0_1 : ByteArray) (a0_2 : Int) : Option (ByteArray) := if 0 ≤ (wrap64 ((a0_1.size : Int) - a0_2)) then (if (wrap64 ((a0_1.size : Int) - a0_2)) ≤ (a0_1.size : Int) then (some (a0_1.extract ((wrap64 ((a0_1.size : Int) - a0_2)) : Int).toNat a0_1.size)) else (none)) else (none)
set_option maxHeartbeats 8000000 in
set_option maxRecDepth 100000 in
theorem dec_Dec_Part.calls (a0_0 : Bool) (a0_1 : ByteArray) (a0_2 : Int) (r : ByteArray) (w : World) (h : dec_Dec_Part.f a0_0 a0_1 a0_2 = some r) :
    Calls Tryd.prog 31 #[.agg #[.bool a0_0, .string a0_1, .int .i64 a0_2]] w fun e w' => e = .returned (.string r) ∧ Below w.heap.size w w' := by
  have hu23 := Tryd.underlying23
  have HB := Aside0.mk (Below.refl w.heap.size w)
  have H : (if 0 ≤ (wrap64 ((a0_1.size : Int) - a0_2)) then (if (wrap64 ((a0_1.size : Int) - a0_2)) ≤ (a0_1.size : Int) then (some (a0_1.extract ((wrap64 ((a0_1.size : Int) - a0_2)) : Int).toNat a0_1.size)) else (none)) else (none)) = some r := h
  clear h
  obtain ⟨ji2, hji2⟩ : ∃ j_ : Int, (wrap64 ((a0_1.size : Int) - a0_2)) = j_ := ⟨_, rfl⟩
  replace H : (if 0 ≤ (ji2) then (if (ji2) ≤ (a0_1.size : Int) then (some (a0_1.extract ((ji2) : Int).toNat a0_1.size)) else (none)) else (none)) = some r := by first | (rw [hji2] at H; exact H) | (simp only [hji2] at H ⊢; exact H)
  have hji2w : (IntKind.i64.wrap ((a0_1.size : Int) - a0_2)) = ji2 := (i64_w _).trans hji2
  by_cases c3 : 0 ≤ (ji2)
  · rw [if_pos c3] at H
    have c3b0 := eq_true c3
    have c3b1 : decide (0 ≤ (ji2)) = true := decide_eq_true c3
    clear c3
    by_cases c4 : (ji2) ≤ (a0_1.size : Int)
    · rw [if_pos c4] at H
      have c4b0 := eq_true c4
      have c4b1 : decide ((ji2) ≤ (a0_1.size : Int)) = true := decide_eq_true c4
      clear c4
      obtain rfl := Option.some.inj H
      go_enter Tryd.func31, Tryd.ntmps31
      go_wp2_with (first | ((with_reducible refine gate_dst (N := 1) rfl ?_); refine box_event ?hg (N := 1) ?hd (cs := #[.bool a0_0, .string a0_1, .int .i64 a0_2]) (t := 23) ?hr ?_; (case hd => rfl); (case hg => rfl); (case hr => first | (go_simp; done) | (go_simp; rfl)); intro gb102 hg w5 hbox hb; have n0_ := Aside0.mk (below_step (by repeat (first | (with_reducible first | exact HB.out | apply below_alloc | apply pw_below_drewN | apply below_drew1) | exact HB.out)) hb); have n1_ := Aside0.mk (hbox); have n2_ := Aside0.mk ((by rw [hg]; exact (below_size (by repeat (first | (with_reducible first | exact HB.out | apply below_alloc | apply pw_below_drewN | apply below_drew1) | exact HB.out))) : w.heap.size ≤ gb102)); have n3_ := Aside0.mk ((by rw [hg]; exact (below_size (by repeat (first | (with_reducible first | exact HB.out | apply below_alloc | apply pw_below_drewN | apply below_drew1) | exact HB.out))) : w.heap.size ≤ gb102)); clear HB; have HB := n0_; have BK102 := n1_; have GW102 := n2_; have GE102 := n3_; clear n0_ n1_ n2_ n3_; clear hb hbox hg; have hcz6_0 : w5.cell? ⟨gb102, 0, none⟩ = some (.bool a0_0) := (blk_cell BK102.out 0).trans rfl; have hcz6_1 : w5.cell? ⟨gb102, 1, none⟩ = some (.string a0_1) := (blk_cell BK102.out 1).trans rfl; have hcz6_2 : w5.cell? ⟨gb102, 2, none⟩ = some (.int .i64 a0_2) := (blk_cell BK102.out 2).trans rfl; have hfz6_0 := blk_frozen BK102.out 0; have hfz6_1 := blk_frozen BK102.out 1; have hfz6_2 := blk_frozen BK102.out 2))
      go_ret
      exact ⟨by first | rfl | (simp [errW_none, errW_some] <;> rfl) | (simp only [← hji2]; first | rfl | (simp [errW_none, errW_some] <;> rfl)) | (simp [*, errW_none, errW_some] <;> rfl), by repeat (first | (with_reducible first | exact HB.out | apply below_alloc | apply pw_below_drewN | apply below_drew1 | refine below_set ?_ GE102.out) | exact HB.out)⟩
    · rw [if_neg c4] at H
      exact absurd H (by simp)
  · rw [if_neg c3] at H
    exact absurd H (by simp)
def dec_Dec_String.f (a0_0 : Bool) (a0_1 : ByteArray) (a0_2 : Int) : Option (ByteArray) := (dec_Dec_Whole.f a0_0 a0_1 a0_2).bind fun t104 => (if a0_2 > 0 then ((dec_Dec_Part.f a0_0 a0_1 a0_2).bind fun t105 => (if 1 + t105.size ≤ 9223372036854775807 then (if t104.size + ((⟨#[46]⟩ : ByteArray) ++ t105).size ≤ 9223372036854775807 then (if a0_0 = true then (if 1 + (t104 ++ ((⟨#[46]⟩ : ByteArray) ++ t105)).size ≤ 9223372036854775807 then (some ((⟨#[45]⟩ : ByteArray) ++ (t104 ++ ((⟨#[46]⟩ : ByteArray) ++ t105)))) else (none)) else (some (t104 ++ ((⟨#[46]⟩ : ByteArray) ++ t105)))) else (none)) else (none))) else (if a0_0 = true then (if 1 + t104.size ≤ 9223372036854775807 then (some ((⟨#[45]⟩ : ByteArray) ++ t104)) else (none)) else (some t104)))
set_option maxHeartbeats 8000000 in
set_option maxRecDepth 100000 in
theorem dec_Dec_String.calls (a0_0 : Bool) (a0_1 : ByteArray) (a0_2 : Int) (r : ByteArray) (w : World) (h : dec_Dec_String.f a0_0 a0_1 a0_2 = some r) :
    Calls Tryd.prog 25 #[.agg #[.bool a0_0, .string a0_1, .int .i64 a0_2]] w fun e w' => e = .returned (.string r) ∧ Below w.heap.size w w' := by
  have hu23 := Tryd.underlying23
  have HB := Aside0.mk (Below.refl w.heap.size w)
  have H : ((dec_Dec_Whole.f a0_0 a0_1 a0_2).bind fun t104 => (if a0_2 > 0 then ((dec_Dec_Part.f a0_0 a0_1 a0_2).bind fun t105 => (if 1 + t105.size ≤ 9223372036854775807 then (if t104.size + ((⟨#[46]⟩ : ByteArray) ++ t105).size ≤ 9223372036854775807 then (if a0_0 = true then (if 1 + (t104 ++ ((⟨#[46]⟩ : ByteArray) ++ t105)).size ≤ 9223372036854775807 then (some ((⟨#[45]⟩ : ByteArray) ++ (t104 ++ ((⟨#[46]⟩ : ByteArray) ++ t105)))) else (none)) else (some (t104 ++ ((⟨#[46]⟩ : ByteArray) ++ t105)))) else (none)) else (none))) else (if a0_0 = true then (if 1 + t104.size ≤ 9223372036854775807 then (some ((⟨#[45]⟩ : ByteArray) ++ t104)) else (none)) else (some t104)))) = some r := h
  clear h
  replace H := Option.bind_eq_some_iff.mp H
  obtain ⟨t104, A20, H⟩ := H
  replace H : (if a0_2 > 0 then ((dec_Dec_Part.f a0_0 a0_1 a0_2).bind fun t105 => (if 1 + t105.size ≤ 9223372036854775807 then (if t104.size + ((⟨#[46]⟩ : ByteArray) ++ t105).size ≤ 9223372036854775807 then (if a0_0 = true then (if 1 + (t104 ++ ((⟨#[46]⟩ : ByteArray) ++ t105)).size ≤ 9223372036854775807 then (some ((⟨#[45]⟩ : ByteArray) ++ (t104 ++ ((⟨#[46]⟩ : ByteArray) ++ t105)))) else (none)) else (some (t104 ++ ((⟨#[46]⟩ : ByteArray) ++ t105)))) else (none)) else (none))) else (if a0_0 = true then (if 1 + t104.size ≤ 9223372036854775807 then (some ((⟨#[45]⟩ : ByteArray) ++ t104)) else (none)) else (some t104))) = some r := H
  have A2 := Aside0.mk A20
  clear A20
  by_cases c3 : a0_2 > 0
  · rw [if_pos c3] at H
    have c3b0 : decide (0 < a0_2) = true := decide_eq_true c3
    clear c3
    replace H := Option.bind_eq_some_iff.mp H
    obtain ⟨t105, A40, H⟩ := H
    replace H : (if 1 + t105.size ≤ 9223372036854775807 then (if t104.size + ((⟨#[46]⟩ : ByteArray) ++ t105).size ≤ 9223372036854775807 then (if a0_0 = true then (if 1 + (t104 ++ ((⟨#[46]⟩ : ByteArray) ++ t105)).size ≤ 9223372036854775807 then (some ((⟨#[45]⟩ : ByteArray) ++ (t104 ++ ((⟨#[46]⟩ : ByteArray) ++ t105)))) else (none)) else (some (t104 ++ ((⟨#[46]⟩ : ByteArray) ++ t105)))) else (none)) else (none)) = some r := H
    have A4 := Aside0.mk A40
    clear A40
    by_cases c5 : 1 + t105.size ≤ 9223372036854775807
    · rw [if_pos c5] at H
      have c5b0 := eq_true c5
      have c5b1 : decide (1 + t105.size ≤ 9223372036854775807) = true := decide_eq_true c5
      try have c5b2 : (9223372036854775807 < 1 + t105.size) = False := eq_false (Nat.not_lt.2 c5)
      by_cases c6 : t104.size + ((⟨#[46]⟩ : ByteArray) ++ t105).size ≤ 9223372036854775807
      · rw [if_pos c6] at H
        have c6b0 := eq_true c6
        try have c6n := c6
        try simp only [ByteArray.size_append, show (⟨#[46]⟩ : ByteArray).size = 1 from rfl] at c6n
        try have c6m := eq_false (Nat.not_lt.2 c6n)
        try have c6k := eq_true c6n
        have c6b1 : decide (t104.size + ((⟨#[46]⟩ : ByteArray) ++ t105).size ≤ 9223372036854775807) = true := decide_eq_true c6
        try have c6b2 : (9223372036854775807 < t104.size + ((⟨#[46]⟩ : ByteArray) ++ t105).size) = False := eq_false (Nat.not_lt.2 c6)
        by_cases c7 : a0_0 = true
        · subst c7
          have H1 : (if 1 + (t104 ++ ((⟨#[46]⟩ : ByteArray) ++ t105)).size ≤ 9223372036854775807 then (some ((⟨#[45]⟩ : ByteArray) ++ (t104 ++ ((⟨#[46]⟩ : ByteArray) ++ t105)))) else (none)) = some r := by rw [if_pos rfl] at H; exact H
          clear H
          have H := H1
          clear H1
          by_cases c8 : 1 + (t104 ++ ((⟨#[46]⟩ : ByteArray) ++ t105)).size ≤ 9223372036854775807
          · rw [if_pos c8] at H
            have c8b0 := eq_true c8
            try have c8n := c8
            try simp only [ByteArray.size_append, show (⟨#[46]⟩ : ByteArray).size = 1 from rfl] at c8n
            try have c8m := eq_false (Nat.not_lt.2 c8n)
            try have c8k := eq_true c8n
            have c8b1 : decide (1 + (t104 ++ ((⟨#[46]⟩ : ByteArray) ++ t105)).size ≤ 9223372036854775807) = true := decide_eq_true c8
            try have c8b2 : (9223372036854775807 < 1 + (t104 ++ ((⟨#[46]⟩ : ByteArray) ++ t105)).size) = False := eq_false (Nat.not_lt.2 c8)
            obtain rfl := Option.some.inj H
            go_enter Tryd.func25, Tryd.ntmps25
            go_wp2_with (first | ((with_reducible refine gate_dst (N := 1) rfl ?_); refine box_event ?hg (N := 1) ?hd (cs := #[.bool true, .string a0_1, .int .i64 a0_2]) (t := 23) ?hr ?_; (case hd => rfl); (case hg => rfl); (case hr => first | (go_simp; done) | (go_simp; rfl)); intro gb103 hg w9 hbox hb; have n0_ := Aside0.mk (below_step (by repeat (first | (with_reducible first | exact HB.out | apply below_alloc | apply pw_below_drewN | apply below_drew1) | exact HB.out)) hb); have n1_ := Aside0.mk (hbox); have n2_ := Aside0.mk ((by rw [hg]; exact (below_size (by repeat (first | (with_reducible first | exact HB.out | apply below_alloc | apply pw_below_drewN | apply below_drew1) | exact HB.out))) : w.heap.size ≤ gb103)); have n3_ := Aside0.mk ((by rw [hg]; exact (below_size (by repeat (first | (with_reducible first | exact HB.out | apply below_alloc | apply pw_below_drewN | apply below_drew1) | exact HB.out))) : w.heap.size ≤ gb103)); clear HB; have HB := n0_; have BK103 := n1_; have GW103 := n2_; have GE103 := n3_; clear n0_ n1_ n2_ n3_; clear hb hbox hg; have hcz10_0 : w9.cell? ⟨gb103, 0, none⟩ = some (.bool true) := (blk_cell BK103.out 0).trans rfl; have hcz10_1 : w9.cell? ⟨gb103, 1, none⟩ = some (.string a0_1) := (blk_cell BK103.out 1).trans rfl; have hcz10_2 : w9.cell? ⟨gb103, 2, none⟩ = some (.int .i64 a0_2) := (blk_cell BK103.out 2).trans rfl; have hfz10_0 := blk_frozen BK103.out 0; have hfz10_1 := blk_frozen BK103.out 1; have hfz10_2 := blk_frozen BK103.out 2) | ((with_reducible refine gate_callee (f := 30) rfl ?_); refine goesL_ (some 5) rfl rfl Tryd.func30 (by kernel_rfl) rfl #[.agg #[.bool true, .string a0_1, .int .i64 a0_2]] rfl (by (try simp only [List.map_toArray, List.map_cons, List.map_nil]); first | done | rfl | (simp only [List.length_drop, List.length_take]; rfl)) ?_; (with_reducible refine (dec_Dec_Whole.calls true a0_1 a0_2 t104 _ A2.out).mono ?_); rintro e w11 ⟨rfl, hb⟩; refine ⟨_, rfl, ?_⟩; have n0_ := Aside0.mk (blk_below (g := gb103) (o := .cells #[.bool true, .string a0_1, .int .i64 a0_2] 23 (0, 0)) (by (with_reducible repeat (first | refine blk_drewN ?_ _ | refine blk_drew ?_ | refine blk_alloc ?_ _)); exact BK103.out) hb); have n1_ := Aside0.mk (below_step (by repeat (first | (with_reducible first | exact HB.out | apply below_alloc | apply pw_below_drewN | apply below_drew1 | refine below_set ?_ GE103.out) | exact HB.out)) hb); clear BK103; clear HB; have BK103 := n0_; have HB := n1_; clear n0_ n1_; (try clear hb); (try clear hb2); (try clear hk); (try clear hi); have hcz12_0 : w11.cell? ⟨gb103, 0, none⟩ = some (.bool true) := (blk_cell BK103.out 0).trans rfl; have hcz12_1 : w11.cell? ⟨gb103, 1, none⟩ = some (.string a0_1) := (blk_cell BK103.out 1).trans rfl; have hcz12_2 : w11.cell? ⟨gb103, 2, none⟩ = some (.int .i64 a0_2) := (blk_cell BK103.out 2).trans rfl; have hfz12_0 := blk_frozen BK103.out 0; have hfz12_1 := blk_frozen BK103.out 1; have hfz12_2 := blk_frozen BK103.out 2) | ((with_reducible refine gate_callee (f := 31) rfl ?_); refine goesL_ (some 11) rfl rfl Tryd.func31 (by kernel_rfl) rfl #[.agg #[.bool true, .string a0_1, .int .i64 a0_2]] rfl (by (try simp only [List.map_toArray, List.map_cons, List.map_nil]); first | done | rfl | (simp only [List.length_drop, List.length_take]; rfl)) ?_; (with_reducible refine (dec_Dec_Part.calls true a0_1 a0_2 t105 _ A4.out).mono ?_); rintro e w13 ⟨rfl, hb⟩; refine ⟨_, rfl, ?_⟩; have n0_ := Aside0.mk (blk_below (g := gb103) (o := .cells #[.bool true, .string a0_1, .int .i64 a0_2] 23 (0, 0)) (by (with_reducible repeat (first | refine blk_drewN ?_ _ | refine blk_drew ?_ | refine blk_alloc ?_ _)); exact BK103.out) hb); have n1_ := Aside0.mk (below_step (by repeat (first | (with_reducible first | exact HB.out | apply below_alloc | apply pw_below_drewN | apply below_drew1 | refine below_set ?_ GE103.out) | exact HB.out)) hb); clear BK103; clear HB; have BK103 := n0_; have HB := n1_; clear n0_ n1_; (try clear hb); (try clear hb2); (try clear hk); (try clear hi); have hcz14_0 : w13.cell? ⟨gb103, 0, none⟩ = some (.bool true) := (blk_cell BK103.out 0).trans rfl; have hcz14_1 : w13.cell? ⟨gb103, 1, none⟩ = some (.string a0_1) := (blk_cell BK103.out 1).trans rfl; have hcz14_2 : w13.cell? ⟨gb103, 2, none⟩ = some (.int .i64 a0_2) := (blk_cell BK103.out 2).trans rfl; have hfz14_0 := blk_frozen BK103.out 0; have hfz14_1 := blk_frozen BK103.out 1; have hfz14_2 := blk_frozen BK103.out 2))
            go_ret
            exact ⟨by first | rfl | (simp [errW_none, errW_some] <;> rfl) | (simp [*, errW_none, errW_some] <;> rfl), by repeat (first | (with_reducible first | exact HB.out | apply below_alloc | apply pw_below_drewN | apply below_drew1 | refine below_set ?_ GE103.out) | exact HB.out)⟩
          · rw [if_neg c8] at H
            exact absurd H (by simp)
        · replace c7 := Bool.eq_false_iff.mpr c7
          subst c7
          have H1 : (some (t104 ++ ((⟨#[46]⟩ : ByteArray) ++ t105))) = some r := by rw [if_neg (show ¬ (false = true) by decide)] at H; exact H
          clear H
          have H := H1
          clear H1
          obtain rfl := Option.some.inj H
          go_enter Tryd.func25, Tryd.ntmps25
          go_wp2_with (first | ((with_reducible refine gate_dst (N := 1) rfl ?_); refine box_event ?hg (N := 1) ?hd (cs := #[.bool false, .string a0_1, .int .i64 a0_2]) (t := 23) ?hr ?_; (case hd => rfl); (case hg => rfl); (case hr => first | (go_simp; done) | (go_simp; rfl)); intro gb103 hg w15 hbox hb; have n0_ := Aside0.mk (below_step (by repeat (first | (with_reducible first | exact HB.out | apply below_alloc | apply pw_below_drewN | apply below_drew1) | exact HB.out)) hb); have n1_ := Aside0.mk (hbox); have n2_ := Aside0.mk ((by rw [hg]; exact (below_size (by repeat (first | (with_reducible first | exact HB.out | apply below_alloc | apply pw_below_drewN | apply below_drew1) | exact HB.out))) : w.heap.size ≤ gb103)); have n3_ := Aside0.mk ((by rw [hg]; exact (below_size (by repeat (first | (with_reducible first | exact HB.out | apply below_alloc | apply pw_below_drewN | apply below_drew1) | exact HB.out))) : w.heap.size ≤ gb103)); clear HB; have HB := n0_; have BK103 := n1_; have GW103 := n2_; have GE103 := n3_; clear n0_ n1_ n2_ n3_; clear hb hbox hg; have hcz16_0 : w15.cell? ⟨gb103, 0, none⟩ = some (.bool false) := (blk_cell BK103.out 0).trans rfl; have hcz16_1 : w15.cell? ⟨gb103, 1, none⟩ = some (.string a0_1) := (blk_cell BK103.out 1).trans rfl; have hcz16_2 : w15.cell? ⟨gb103, 2, none⟩ = some (.int .i64 a0_2) := (blk_cell BK103.out 2).trans rfl; have hfz16_0 := blk_frozen BK103.out 0; have hfz16_1 := blk_frozen BK103.out 1; have hfz16_2 := blk_frozen BK103.out 2) | ((with_reducible refine gate_callee (f := 30) rfl ?_); refine goesL_ (some 5) rfl rfl Tryd.func30 (by kernel_rfl) rfl #[.agg #[.bool false, .string a0_1, .int .i64 a0_2]] rfl (by (try simp only [List.map_toArray, List.map_cons, List.map_nil]); first | done | rfl | (simp only [List.length_drop, List.length_take]; rfl)) ?_; (with_reducible refine (dec_Dec_Whole.calls false a0_1 a0_2 t104 _ A2.out).mono ?_); rintro e w17 ⟨rfl, hb⟩; refine ⟨_, rfl, ?_⟩; have n0_ := Aside0.mk (blk_below (g := gb103) (o := .cells #[.bool false, .string a0_1, .int .i64 a0_2] 23 (0, 0)) (by (with_reducible repeat (first | refine blk_drewN ?_ _ | refine blk_drew ?_ | refine blk_alloc ?_ _)); exact BK103.out) hb); have n1_ := Aside0.mk (below_step (by repeat (first | (with_reducible first | exact HB.out | apply below_alloc | apply pw_below_drewN | apply below_drew1 | refine below_set ?_ GE103.out) | exact HB.out)) hb); clear BK103; clear HB; have BK103 := n0_; have HB := n1_; clear n0_ n1_; (try clear hb); (try clear hb2); (try clear hk); (try clear hi); have hcz18_0 : w17.cell? ⟨gb103, 0, none⟩ = some (.bool false) := (blk_cell BK103.out 0).trans rfl; have hcz18_1 : w17.cell? ⟨gb103, 1, none⟩ = some (.string a0_1) := (blk_cell BK103.out 1).trans rfl; have hcz18_2 : w17.cell? ⟨gb103, 2, none⟩ = some (.int .i64 a0_2) := (blk_cell BK103.out 2).trans rfl; have hfz18_0 := blk_frozen BK103.out 0; have hfz18_1 := blk_frozen BK103.out 1; have hfz18_2 := blk_frozen BK103.out 2) | ((with_reducible refine gate_callee (f := 31) rfl ?_); refine goesL_ (some 11) rfl rfl Tryd.func31 (by kernel_rfl) rfl #[.agg #[.bool false, .string a0_1, .int .i64 a0_2]] rfl (by (try simp only [List.map_toArray, List.map_cons, List.map_nil]); first | done | rfl | (simp only [List.length_drop, List.length_take]; rfl)) ?_; (with_reducible refine (dec_Dec_Part.calls false a0_1 a0_2 t105 _ A4.out).mono ?_); rintro e w19 ⟨rfl, hb⟩; refine ⟨_, rfl, ?_⟩; have n0_ := Aside0.mk (blk_below (g := gb103) (o := .cells #[.bool false, .string a0_1, .int .i64 a0_2] 23 (0, 0)) (by (with_reducible repeat (first | refine blk_drewN ?_ _ | refine blk_drew ?_ | refine blk_alloc ?_ _)); exact BK103.out) hb); have n1_ := Aside0.mk (below_step (by repeat (first | (with_reducible first | exact HB.out | apply below_alloc | apply pw_below_drewN | apply below_drew1 | refine below_set ?_ GE103.out) | exact HB.out)) hb); clear BK103; clear HB; have BK103 := n0_; have HB := n1_; clear n0_ n1_; (try clear hb); (try clear hb2); (try clear hk); (try clear hi); have hcz20_0 : w19.cell? ⟨gb103, 0, none⟩ = some (.bool false) := (blk_cell BK103.out 0).trans rfl; have hcz20_1 : w19.cell? ⟨gb103, 1, none⟩ = some (.string a0_1) := (blk_cell BK103.out 1).trans rfl; have hcz20_2 : w19.cell? ⟨gb103, 2, none⟩ = some (.int .i64 a0_2) := (blk_cell BK103.out 2).trans rfl; have hfz20_0 := blk_frozen BK103.out 0; have hfz20_1 := blk_frozen BK103.out 1; have hfz20_2 := blk_frozen BK103.out 2))
          go_ret
          exact ⟨by first | rfl | (simp [errW_none, errW_some] <;> rfl) | (simp [*, errW_none, errW_some] <;> rfl), by repeat (first | (with_reducible first | exact HB.out | apply below_alloc | apply pw_below_drewN | apply below_drew1 | refine below_set ?_ GE103.out) | exact HB.out)⟩
      · rw [if_neg c6] at H
        exact absurd H (by simp)
    · rw [if_neg c5] at H
      exact absurd H (by simp)
  · rw [if_neg c3] at H
    have c3b0 : decide (0 < a0_2) = false := decide_eq_false c3
    clear c3
    by_cases c21 : a0_0 = true
    · subst c21
      have H1 : (if 1 + t104.size ≤ 9223372036854775807 then (some ((⟨#[45]⟩ : ByteArray) ++ t104)) else (none)) = some r := by rw [if_pos rfl] at H; exact H
      clear H
      have H := H1
      clear H1
      by_cases c22 : 1 + t104.size ≤ 9223372036854775807
      · rw [if_pos c22] at H
        have c22b0 := eq_true c22
        have c22b1 : decide (1 + t104.size ≤ 9223372036854775807) = true := decide_eq_true c22
        try have c22b2 : (9223372036854775807 < 1 + t104.size) = False := eq_false (Nat.not_lt.2 c22)
        obtain rfl := Option.some.inj H
        go_enter Tryd.func25, Tryd.ntmps25
        go_wp2_with (first | ((with_reducible refine gate_dst (N := 1) rfl ?_); refine box_event ?hg (N := 1) ?hd (cs := #[.bool true, .string a0_1, .int .i64 a0_2]) (t := 23) ?hr ?_; (case hd => rfl); (case hg => rfl); (case hr => first | (go_simp; done) | (go_simp; rfl)); intro gb103 hg w23 hbox hb; have n0_ := Aside0.mk (below_step (by repeat (first | (with_reducible first | exact HB.out | apply below_alloc | apply pw_below_drewN | apply below_drew1) | exact HB.out)) hb); have n1_ := Aside0.mk (hbox); have n2_ := Aside0.mk ((by rw [hg]; exact (below_size (by repeat (first | (with_reducible first | exact HB.out | apply below_alloc | apply pw_below_drewN | apply below_drew1) | exact HB.out))) : w.heap.size ≤ gb103)); have n3_ := Aside0.mk ((by rw [hg]; exact (below_size (by repeat (first | (with_reducible first | exact HB.out | apply below_alloc | apply pw_below_drewN | apply below_drew1) | exact HB.out))) : w.heap.size ≤ gb103)); clear HB; have HB := n0_; have BK103 := n1_; have GW103 := n2_; have GE103 := n3_; clear n0_ n1_ n2_ n3_; clear hb hbox hg; have hcz24_0 : w23.cell? ⟨gb103, 0, none⟩ = some (.bool true) := (blk_cell BK103.out 0).trans rfl; have hcz24_1 : w23.cell? ⟨gb103, 1, none⟩ = some (.string a0_1) := (blk_cell BK103.out 1).trans rfl; have hcz24_2 : w23.cell? ⟨gb103, 2, none⟩ = some (.int .i64 a0_2) := (blk_cell BK103.out 2).trans rfl; have hfz24_0 := blk_frozen BK103.out 0; have hfz24_1 := blk_frozen BK103.out 1; have hfz24_2 := blk_frozen BK103.out 2) | ((with_reducible refine gate_callee (f := 30) rfl ?_); refine goesL_ (some 5) rfl rfl Tryd.func30 (by kernel_rfl) rfl #[.agg #[.bool true, .string a0_1, .int .i64 a0_2]] rfl (by (try simp only [List.map_toArray, List.map_cons, List.map_nil]); first | done | rfl | (simp only [List.length_drop, List.length_take]; rfl)) ?_; (with_reducible refine (dec_Dec_Whole.calls true a0_1 a0_2 t104 _ A2.out).mono ?_); rintro e w25 ⟨rfl, hb⟩; refine ⟨_, rfl, ?_⟩; have n0_ := Aside0.mk (blk_below (g := gb103) (o := .cells #[.bool true, .string a0_1, .int .i64 a0_2] 23 (0, 0)) (by (with_reducible repeat (first | refine blk_drewN ?_ _ | refine blk_drew ?_ | refine blk_alloc ?_ _)); exact BK103.out) hb); have n1_ := Aside0.mk (below_step (by repeat (first | (with_reducible first | exact HB.out | apply below_alloc | apply pw_below_drewN | apply below_drew1 | refine below_set ?_ GE103.out) | exact HB.out)) hb); clear BK103; clear HB; have BK103 := n0_; have HB := n1_; clear n0_ n1_; (try clear hb); (try clear hb2); (try clear hk); (try clear hi); have hcz26_0 : w25.cell? ⟨gb103, 0, none⟩ = some (.bool true) := (blk_cell BK103.out 0).trans rfl; have hcz26_1 : w25.cell? ⟨gb103, 1, none⟩ = some (.string a0_1) := (blk_cell BK103.out 1).trans rfl; have hcz26_2 : w25.cell? ⟨gb103, 2, none⟩ = some (.int .i64 a0_2) := (blk_cell BK103.out 2).trans rfl; have hfz26_0 := blk_frozen BK103.out 0; have hfz26_1 := blk_frozen BK103.out 1; have hfz26_2 := blk_frozen BK103.out 2))
        go_ret
        exact ⟨by first | rfl | (simp [errW_none, errW_some] <;> rfl) | (simp [*, errW_none, errW_some] <;> rfl), by repeat (first | (with_reducible first | exact HB.out | apply below_alloc | apply pw_below_drewN | apply below_drew1 | refine below_set ?_ GE103.out) | exact HB.out)⟩
      · rw [if_neg c22] at H
        exact absurd H (by simp)
    · replace c21 := Bool.eq_false_iff.mpr c21
      subst c21
      have H1 : (some t104) = some r := by rw [if_neg (show ¬ (false = true) by decide)] at H; exact H
      clear H
      have H := H1
      clear H1
      obtain rfl := Option.some.inj H
      go_enter Tryd.func25, Tryd.ntmps25
      go_wp2_with (first | ((with_reducible refine gate_dst (N := 1) rfl ?_); refine box_event ?hg (N := 1) ?hd (cs := #[.bool false, .string a0_1, .int .i64 a0_2]) (t := 23) ?hr ?_; (case hd => rfl); (case hg => rfl); (case hr => first | (go_simp; done) | (go_simp; rfl)); intro gb103 hg w27 hbox hb; have n0_ := Aside0.mk (below_step (by repeat (first | (with_reducible first | exact HB.out | apply below_alloc | apply pw_below_drewN | apply below_drew1) | exact HB.out)) hb); have n1_ := Aside0.mk (hbox); have n2_ := Aside0.mk ((by rw [hg]; exact (below_size (by repeat (first | (with_reducible first | exact HB.out | apply below_alloc | apply pw_below_drewN | apply below_drew1) | exact HB.out))) : w.heap.size ≤ gb103)); have n3_ := Aside0.mk ((by rw [hg]; exact (below_size (by repeat (first | (with_reducible first | exact HB.out | apply below_alloc | apply pw_below_drewN | apply below_drew1) | exact HB.out))) : w.heap.size ≤ gb103)); clear HB; have HB := n0_; have BK103 := n1_; have GW103 := n2_; have GE103 := n3_; clear n0_ n1_ n2_ n3_; clear hb hbox hg; have hcz28_0 : w27.cell? ⟨gb103, 0, none⟩ = some (.bool false) := (blk_cell BK103.out 0).trans rfl; have hcz28_1 : w27.cell? ⟨gb103, 1, none⟩ = some (.string a0_1) := (blk_cell BK103.out 1).trans rfl; have hcz28_2 : w27.cell? ⟨gb103, 2, none⟩ = some (.int .i64 a0_2) := (blk_cell BK103.out 2).trans rfl; have hfz28_0 := blk_frozen BK103.out 0; have hfz28_1 := blk_frozen BK103.out 1; have hfz28_2 := blk_frozen BK103.out 2) | ((with_reducible refine gate_callee (f := 30) rfl ?_); refine goesL_ (some 5) rfl rfl Tryd.func30 (by kernel_rfl) rfl #[.agg #[.bool false, .string a0_1, .int .i64 a0_2]] rfl (by (try simp only [List.map_toArray, List.map_cons, List.map_nil]); first | done | rfl | (simp only [List.length_drop, List.length_take]; rfl)) ?_; (with_reducible refine (dec_Dec_Whole.calls false a0_1 a0_2 t104 _ A2.out).mono ?_); rintro e w29 ⟨rfl, hb⟩; refine ⟨_, rfl, ?_⟩; have n0_ := Aside0.mk (blk_below (g := gb103) (o := .cells #[.bool false, .string a0_1, .int .i64 a0_2] 23 (0, 0)) (by (with_reducible repeat (first | refine blk_drewN ?_ _ | refine blk_drew ?_ | refine blk_alloc ?_ _)); exact BK103.out) hb); have n1_ := Aside0.mk (below_step (by repeat (first | (with_reducible first | exact HB.out | apply below_alloc | apply pw_below_drewN | apply below_drew1 | refine below_set ?_ GE103.out) | exact HB.out)) hb); clear BK103; clear HB; have BK103 := n0_; have HB := n1_; clear n0_ n1_; (try clear hb); (try clear hb2); (try clear hk); (try clear hi); have hcz30_0 : w29.cell? ⟨gb103, 0, none⟩ = some (.bool false) := (blk_cell BK103.out 0).trans rfl; have hcz30_1 : w29.cell? ⟨gb103, 1, none⟩ = some (.string a0_1) := (blk_cell BK103.out 1).trans rfl; have hcz30_2 : w29.cell? ⟨gb103, 2, none⟩ = some (.int .i64 a0_2) := (blk_cell BK103.out 2).trans rfl; have hfz30_0 := blk_frozen BK103.out 0; have hfz30_1 := blk_frozen BK103.out 1; have hfz30_2 := blk_frozen BK103.out 2))
      go_ret
      exact ⟨by first | rfl | (simp [errW_none, errW_some] <;> rfl) | (simp [*, errW_none, errW_some] <;> rfl), by repeat (first | (with_reducible first | exact HB.out | apply below_alloc | apply pw_below_drewN | apply below_drew1 | refine below_set ?_ GE103.out) | exact HB.out)⟩
def dec_isDigits.f (a0 : ByteArray) : Option (Bool) := if a0.toList = ([] : List UInt8) then (some false) else ((strings_Trim.f a0 (⟨#[48, 49, 50, 51, 52, 53, 54, 55, 56, 57]⟩ : ByteArray)).bind fun t106 => (some (t106.toList == ([] : List UInt8))))
set_option maxHeartbeats 8000000 in
set_option maxRecDepth 100000 in
theorem dec_isDigits.calls (a0 : ByteArray) (r : Bool) (w : World) (h : dec_isDigits.f a0 = some r) :
    Calls Tryd.prog 71 #[.string a0] w fun e w' => e = .returned (.bool r) ∧ Below w.heap.size w w' := by
  have HB := Aside0.mk (Below.refl w.heap.size w)
  have H : (if a0.toList = ([] : List UInt8) then (some false) else ((strings_Trim.f a0 (⟨#[48, 49, 50, 51, 52, 53, 54, 55, 56, 57]⟩ : ByteArray)).bind fun t106 => (some (t106.toList == ([] : List UInt8))))) = some r := h
  clear h
  by_cases c2 : a0.toList = ([] : List UInt8)
  · rw [if_pos c2] at H
    have c2b0 : (a0.toList == ([] : List UInt8)) = true := beq_iff_eq.mpr c2
    have c2b1 : (a0.toList != ([] : List UInt8)) = false := bne_eq_false_iff_eq.mpr c2
    clear c2
    obtain rfl := Option.some.inj H
    go_enter Tryd.func71, Tryd.ntmps71
    go_wp2
    go_ret
    exact ⟨by first | rfl | (simp [errW_none, errW_some] <;> rfl) | (simp [*, errW_none, errW_some] <;> rfl), by repeat (first | (with_reducible first | exact HB.out | apply below_alloc | apply pw_below_drewN | apply below_drew1) | exact HB.out)⟩
  · rw [if_neg c2] at H
    have c2b0 : (a0.toList == ([] : List UInt8)) = false := beq_eq_false_iff_ne.mpr c2
    have c2b1 : (a0.toList != ([] : List UInt8)) = true := bne_iff_ne.mpr c2
    replace H := Option.bind_eq_some_iff.mp H
    obtain ⟨t106, A30, H⟩ := H
    replace H : (some (t106.toList == ([] : List UInt8))) = some r := H
    have A3 := Aside0.mk A30
    clear A30
    obtain rfl := Option.some.inj H
    go_enter Tryd.func71, Tryd.ntmps71
    go_wp2_with (first | (go_at_call 65; (with_reducible refine (strings_Trim.calls a0 (⟨#[48, 49, 50, 51, 52, 53, 54, 55, 56, 57]⟩ : ByteArray) t106 _ A3.out).mono ?_); rintro e w4 ⟨rfl, hb⟩; have n0_ := Aside0.mk (below_step (by repeat (first | (with_reducible first | exact HB.out | apply below_alloc | apply pw_below_drewN | apply below_drew1) | exact HB.out)) hb); clear HB; have HB := n0_; clear n0_; (try clear hb); (try clear hb2); (try clear hk); (try clear hi)))
    go_ret
    exact ⟨by first | rfl | (simp [errW_none, errW_some] <;> rfl) | (simp [*, errW_none, errW_some] <;> rfl), by repeat (first | (with_reducible first | exact HB.out | apply below_alloc | apply pw_below_drewN | apply below_drew1) | exact HB.out)⟩
def dec_Parse.f (a0 : ByteArray) : Option (Bool × ByteArray × Int × Bool) := (strings_CutPrefix.f a0 (⟨#[45]⟩ : ByteArray)).bind fun bt108 => ((strings_Cut.f bt108.1 (⟨#[46]⟩ : ByteArray)).bind fun bt110 => ((dec_isDigits.f bt110.1).bind fun t113 => (if t113 = true then (if bt110.2.2 = true then ((dec_isDigits.f bt110.2.1).bind fun t114 => (if t114 = true then (if (wrap64 ((bt110.1.size : Int) + (bt110.2.1.size : Int))) > 40 then (some (false, (⟨#[]⟩ : ByteArray), 0, false)) else (if bt110.1.size + bt110.2.1.size ≤ 9223372036854775807 then ((dec_make0.f bt108.2 (bt110.1 ++ bt110.2.1) (bt110.2.1.size : Int)).bind fun bt115 => (some (bt115.1, bt115.2.1, bt115.2.2, true))) else (none))) else (some (false, (⟨#[]⟩ : ByteArray), 0, false)))) else (if (wrap64 ((bt110.1.size : Int) + (bt110.2.1.size : Int))) > 40 then (some (false, (⟨#[]⟩ : ByteArray), 0, false)) else (if bt110.1.size + bt110.2.1.size ≤ 9223372036854775807 then ((dec_make0.f bt108.2 (bt110.1 ++ bt110.2.1) (bt110.2.1.size : Int)).bind fun bt118 => (some (bt118.1, bt118.2.1, bt118.2.2, true))) else (none)))) else (some (false, (⟨#[]⟩ : ByteArray), 0, false)))))
set_option maxHeartbeats 8000000 in
set_option maxRecDepth 100000 in
theorem dec_Parse.calls (a0 : ByteArray) (r1 : Bool) (r2 : ByteArray) (r3 : Int) (r4 : Bool) (w : World) (h : dec_Parse.f a0 = some (r1, r2, r3, r4)) (HT0_ : Tab_ w := by exact Tab_.step HT0_ (by repeat (first | (with_reducible first | exact HB.out | apply below_alloc | apply pw_below_drewN | apply below_drew1 | refine below_set ?_ (Aside0.out (by assumption))) | exact HB.out))) :
    Calls Tryd.prog 37 #[.string a0] w fun e w' => e = .returned (.tuple #[.agg #[.bool r1, .string r2, .int .i64 r3], .bool r4]) ∧ Below w.heap.size w w' := by
  have hu23 := Tryd.underlying23
  have HB := Aside0.mk (Below.refl w.heap.size w)
  have H : ((strings_CutPrefix.f a0 (⟨#[45]⟩ : ByteArray)).bind fun bt108 => ((strings_Cut.f bt108.1 (⟨#[46]⟩ : ByteArray)).bind fun bt110 => ((dec_isDigits.f bt110.1).bind fun t113 => (if t113 = true then (if bt110.2.2 = true then ((dec_isDigits.f bt110.2.1).bind fun t114 => (if t114 = true then (if (wrap64 ((bt110.1.size : Int) + (bt110.2.1.size : Int))) > 40 then (some (false, (⟨#[]⟩ : ByteArray), 0, false)) else (if bt110.1.size + bt110.2.1.size ≤ 9223372036854775807 then ((dec_make0.f bt108.2 (bt110.1 ++ bt110.2.1) (bt110.2.1.size : Int)).bind fun bt115 => (some (bt115.1, bt115.2.1, bt115.2.2, true))) else (none))) else (some (false, (⟨#[]⟩ : ByteArray), 0, false)))) else (if (wrap64 ((bt110.1.size : Int) + (bt110.2.1.size : Int))) > 40 then (some (false, (⟨#[]⟩ : ByteArray), 0, false)) else (if bt110.1.size + bt110.2.1.size ≤ 9223372036854775807 then ((dec_make0.f bt108.2 (bt110.1 ++ bt110.2.1) (bt110.2.1.size : Int)).bind fun bt118 => (some (bt118.1, bt118.2.1, bt118.2.2, true))) else (none)))) else (some (false, (⟨#[]⟩ : ByteArray), 0, false)))))) = some (r1, r2, r3, r4) := h
  clear h
  replace H := Option.bind_eq_some_iff.mp H
  obtain ⟨⟨t108, t109⟩, A20, H⟩ := H
  replace H : ((strings_Cut.f t108 (⟨#[46]⟩ : ByteArray)).bind fun bt110 => ((dec_isDigits.f bt110.1).bind fun t113 => (if t113 = true then (if bt110.2.2 = true then ((dec_isDigits.f bt110.2.1).bind fun t114 => (if t114 = true then (if (wrap64 ((bt110.1.size : Int) + (bt110.2.1.size : Int))) > 40 then (some (false, (⟨#[]⟩ : ByteArray), 0, false)) else (if bt110.1.size + bt110.2.1.size ≤ 9223372036854775807 then ((dec_make0.f t109 (bt110.1 ++ bt110.2.1) (bt110.2.1.size : Int)).bind fun bt115 => (some (bt115.1, bt115.2.1, bt115.2.2, true))) else (none))) else (some (false, (⟨#[]⟩ : ByteArray), 0, false)))) else (if (wrap64 ((bt110.1.size : Int) + (bt110.2.1.size : Int))) > 40 then (some (false, (⟨#[]⟩ : ByteArray), 0, false)) else (if bt110.1.size + bt110.2.1.size ≤ 9223372036854775807 then ((dec_make0.f t109 (bt110.1 ++ bt110.2.1) (bt110.2.1.size : Int)).bind fun bt118 => (some (bt118.1, bt118.2.1, bt118.2.2, true))) else (none)))) else (some (false, (⟨#[]⟩ : ByteArray), 0, false))))) = some (r1, r2, r3, r4) := H
  have A2 := Aside0.mk A20
  clear A20
  replace H := Option.bind_eq_some_iff.mp H
  obtain ⟨⟨t110, t111, t112⟩, A30, H⟩ := H
  replace H : ((dec_isDigits.f t110).bind fun t113 => (if t113 = true then (if t112 = true then ((dec_isDigits.f t111).bind fun t114 => (if t114 = true then (if (wrap64 ((t110.size : Int) + (t111.size : Int))) > 40 then (some (false, (⟨#[]⟩ : ByteArray), 0, false)) else (if t110.size + t111.size ≤ 9223372036854775807 then ((dec_make0.f t109 (t110 ++ t111) (t111.size : Int)).bind fun bt115 => (some (bt115.1, bt115.2.1, bt115.2.2, true))) else (none))) else (some (false, (⟨#[]⟩ : ByteArray), 0, false)))) else (if (wrap64 ((t110.size : Int) + (t111.size : Int))) > 40 then (some (false, (⟨#[]⟩ : ByteArray), 0, false)) else (if t110.size + t111.size ≤ 9223372036854775807 then ((dec_make0.f t109 (t110 ++ t111) (t111.size : Int)).bind fun bt118 => (some (bt118.1, bt118.2.1, bt118.2.2, true))) else (none)))) else (some (false, (⟨#[]⟩ : ByteArray), 0, false)))) = some (r1, r2, r3, r4) := H
  have A3 := Aside0.mk A30
  clear A30
  replace H := Option.bind_eq_some_iff.mp H
  obtain ⟨t113, A40, H⟩ := H
  replace H : (if t113 = true then (if t112 = true then ((dec_isDigits.f t111).bind fun t114 => (if t114 = true then (if (wrap64 ((t110.size : Int) + (t111.size : Int))) > 40 then (some (false, (⟨#[]⟩ : ByteArray), 0, false)) else (if t110.size + t111.size ≤ 9223372036854775807 then ((dec_make0.f t109 (t110 ++ t111) (t111.size : Int)).bind fun bt115 => (some (bt115.1, bt115.2.1, bt115.2.2, true))) else (none))) else (some (false, (⟨#[]⟩ : ByteArray), 0, false)))) else (if (wrap64 ((t110.size : Int) + (t111.size : Int))) > 40 then (some (false, (⟨#[]⟩ : ByteArray), 0, false)) else (if t110.size + t111.size ≤ 9223372036854775807 then ((dec_make0.f t109 (t110 ++ t111) (t111.size : Int)).bind fun bt118 => (some (bt118.1, bt118.2.1, bt118.2.2, true))) else (none)))) else (some (false, (⟨#[]⟩ : ByteArray), 0, false))) = some (r1, r2, r3, r4) := H
  have A4 := Aside0.mk A40
  clear A40
  by_cases c5 : t113 = true
  · subst c5
    have H1 : (if t112 = true then ((dec_isDigits.f t111).bind fun t114 => (if t114 = true then (if (wrap64 ((t110.size : Int) + (t111.size : Int))) > 40 then (some (false, (⟨#[]⟩ : ByteArray), 0, false)) else (if t110.size + t111.size ≤ 9223372036854775807 then ((dec_make0.f t109 (t110 ++ t111) (t111.size : Int)).bind fun bt115 => (some (bt115.1, bt115.2.1, bt115.2.2, true))) else (none))) else (some (false, (⟨#[]⟩ : ByteArray), 0, false)))) else (if (wrap64 ((t110.size : Int) + (t111.size : Int))) > 40 then (some (false, (⟨#[]⟩ : ByteArray), 0, false)) else (if t110.size + t111.size ≤ 9223372036854775807 then ((dec_make0.f t109 (t110 ++ t111) (t111.size : Int)).bind fun bt118 => (some (bt118.1, bt118.2.1, bt118.2.2, true))) else (none)))) = some (r1, r2, r3, r4) := by rw [if_pos rfl] at H; exact H
    clear H
    have H := H1
    clear H1
    by_cases c6 : t112 = true
    · subst c6
      have H1 : ((dec_isDigits.f t111).bind fun t114 => (if t114 = true then (if (wrap64 ((t110.size : Int) + (t111.size : Int))) > 40 then (some (false, (⟨#[]⟩ : ByteArray), 0, false)) else (if t110.size + t111.size ≤ 9223372036854775807 then ((dec_make0.f t109 (t110 ++ t111) (t111.size : Int)).bind fun bt115 => (some (bt115.1, bt115.2.1, bt115.2.2, true))) else (none))) else (some (false, (⟨#[]⟩ : ByteArray), 0, false)))) = some (r1, r2, r3, r4) := by rw [if_pos rfl] at H; exact H
      clear H
      have H := H1
      clear H1
      replace H := Option.bind_eq_some_iff.mp H
      obtain ⟨t114, A70, H⟩ := H
      replace H : (if t114 = true then (if (wrap64 ((t110.size : Int) + (t111.size : Int))) > 40 then (some (false, (⟨#[]⟩ : ByteArray), 0, false)) else (if t110.size + t111.size ≤ 9223372036854775807 then ((dec_make0.f t109 (t110 ++ t111) (t111.size : Int)).bind fun bt115 => (some (bt115.1, bt115.2.1, bt115.2.2, true))) else (none))) else (some (false, (⟨#[]⟩ : ByteArray), 0, false))) = some (r1, r2, r3, r4) := H
      have A7 := Aside0.mk A70
      clear A70
      by_cases c8 : t114 = true
      · subst c8
        have H1 : (if (wrap64 ((t110.size : Int) + (t111.size : Int))) > 40 then (some (false, (⟨#[]⟩ : ByteArray), 0, false)) else (if t110.size + t111.size ≤ 9223372036854775807 then ((dec_make0.f t109 (t110 ++ t111) (t111.size : Int)).bind fun bt115 => (some (bt115.1, bt115.2.1, bt115.2.2, true))) else (none))) = some (r1, r2, r3, r4) := by rw [if_pos rfl] at H; exact H
        clear H
        have H := H1
        clear H1
        by_cases c9 : (wrap64 ((t110.size : Int) + (t111.size : Int))) > 40
        · rw [if_pos c9] at H
          have c9b0 : decide (40 < (wrap64 ((t110.size : Int) + (t111.size : Int)))) = true := decide_eq_true c9
          clear c9
          simp only [Option.some.injEq, Prod.mk.injEq] at H
          obtain ⟨rfl, rfl, rfl, rfl⟩ := H
          go_enter Tryd.func37, Tryd.ntmps37
          go_wp2_with (first | ((with_reducible refine gate_dst (N := 2) rfl ?_); (try (refine gate_guard (by rfl) ?_; dsimp only)); refine box_event ?hg (N := 2) ?hd (cs := #[.bool false, .string (⟨#[]⟩ : ByteArray), .int .i64 0]) (t := 23) ?hr ?_; (case hd => rfl); (case hg => rfl); (case hr => first | (go_simp; done) | (go_simp; rfl)); intro gb107 hg w10 hbox hb; have n0_ := Aside0.mk (below_step (by repeat (first | (with_reducible first | exact HB.out | apply below_alloc | apply pw_below_drewN | apply below_drew1) | exact HB.out)) hb); have n1_ := Aside0.mk (hbox); have n2_ := Aside0.mk ((by rw [hg]; exact (below_size (by repeat (first | (with_reducible first | exact HB.out | apply below_alloc | apply pw_below_drewN | apply below_drew1) | exact HB.out))) : w.heap.size ≤ gb107)); have n3_ := Aside0.mk ((by rw [hg]; exact (below_size (by repeat (first | (with_reducible first | exact HB.out | apply below_alloc | apply pw_below_drewN | apply below_drew1) | exact HB.out))) : w.heap.size ≤ gb107)); clear HB; have HB := n0_; have BK107 := n1_; have GW107 := n2_; have GE107 := n3_; clear n0_ n1_ n2_ n3_; clear hb hbox hg) | ((with_reducible refine gate_callee (f := 69) rfl ?_); refine goesL_ (some 11) rfl rfl Tryd.func69 (by kernel_rfl) rfl #[.string a0, .string (⟨#[45]⟩ : ByteArray)] rfl (by (try simp only [List.map_toArray, List.map_cons, List.map_nil]); first | done | rfl | (simp only [List.length_drop, List.length_take]; rfl)) ?_; (with_reducible refine (strings_CutPrefix.calls a0 (⟨#[45]⟩ : ByteArray) t108 t109 _ A2.out).mono ?_); rintro e w11 ⟨rfl, hb⟩; refine ⟨_, rfl, ?_⟩; have n0_ := Aside0.mk (blk_below (g := gb107) (o := .cells #[.bool false, .string (⟨#[]⟩ : ByteArray), .int .i64 0] 23 (0, 0)) (by (with_reducible repeat (first | refine blk_drewN ?_ _ | refine blk_drew ?_ | refine blk_alloc ?_ _)); exact BK107.out) hb); have n1_ := Aside0.mk (below_step (by repeat (first | (with_reducible first | exact HB.out | apply below_alloc | apply pw_below_drewN | apply below_drew1 | refine below_set ?_ GE107.out) | exact HB.out)) hb); clear BK107; clear HB; have BK107 := n0_; have HB := n1_; clear n0_ n1_; (try clear hb); (try clear hb2); (try clear hk); (try clear hi)) | ((with_reducible refine gate_callee (f := 70) rfl ?_); refine goesL_ (some 16) rfl rfl Tryd.func70 (by kernel_rfl) rfl #[.string t108, .string (⟨#[46]⟩ : ByteArray)] rfl (by (try simp only [List.map_toArray, List.map_cons, List.map_nil]); first | done | rfl | (simp only [List.length_drop, List.length_take]; rfl)) ?_; (with_reducible refine (strings_Cut.calls t108 (⟨#[46]⟩ : ByteArray) t110 t111 true _ A3.out).mono ?_); rintro e w12 ⟨rfl, hb⟩; refine ⟨_, rfl, ?_⟩; have n0_ := Aside0.mk (blk_below (g := gb107) (o := .cells #[.bool false, .string (⟨#[]⟩ : ByteArray), .int .i64 0] 23 (0, 0)) (by (with_reducible repeat (first | refine blk_drewN ?_ _ | refine blk_drew ?_ | refine blk_alloc ?_ _)); exact BK107.out) hb); have n1_ := Aside0.mk (below_step (by repeat (first | (with_reducible first | exact HB.out | apply below_alloc | apply pw_below_drewN | apply below_drew1 | refine below_set ?_ GE107.out) | exact HB.out)) hb); clear BK107; clear HB; have BK107 := n0_; have HB := n1_; clear n0_ n1_; (try clear hb); (try clear hb2); (try clear hk); (try clear hi)) | ((with_reducible refine gate_callee (f := 71) rfl ?_); refine goesL_ (some 21) rfl rfl Tryd.func71 (by kernel_rfl) rfl #[.string t110] rfl (by (try simp only [List.map_toArray, List.map_cons, List.map_nil]); first | done | rfl | (simp only [List.length_drop, List.length_take]; rfl)) ?_; (with_reducible refine (dec_isDigits.calls t110 true _ A4.out).mono ?_); rintro e w13 ⟨rfl, hb⟩; refine ⟨_, rfl, ?_⟩; have n0_ := Aside0.mk (blk_below (g := gb107) (o := .cells #[.bool false, .string (⟨#[]⟩ : ByteArray), .int .i64 0] 23 (0, 0)) (by (with_reducible repeat (first | refine blk_drewN ?_ _ | refine blk_drew ?_ | refine blk_alloc ?_ _)); exact BK107.out) hb); have n1_ := Aside0.mk (below_step (by repeat (first | (with_reducible first | exact HB.out | apply below_alloc | apply pw_below_drewN | apply below_drew1 | refine below_set ?_ GE107.out) | exact HB.out)) hb); clear BK107; clear HB; have BK107 := n0_; have HB := n1_; clear n0_ n1_; (try clear hb); (try clear hb2); (try clear hk); (try clear hi)) | (go_at_call 71; (with_reducible refine (dec_isDigits.calls t111 true _ A7.out).mono ?_); rintro e w14 ⟨rfl, hb⟩; have n0_ := Aside0.mk (blk_below (g := gb107) (o := .cells #[.bool false, .string (⟨#[]⟩ : ByteArray), .int .i64 0] 23 (0, 0)) (by (with_reducible repeat (first | refine blk_drewN ?_ _ | refine blk_drew ?_ | refine blk_alloc ?_ _)); exact BK107.out) hb); have n1_ := Aside0.mk (below_step (by repeat (first | (with_reducible first | exact HB.out | apply below_alloc | apply pw_below_drewN | apply below_drew1 | refine below_set ?_ GE107.out) | exact HB.out)) hb); clear BK107; clear HB; have BK107 := n0_; have HB := n1_; clear n0_ n1_; (try clear hb); (try clear hb2); (try clear hk); (try clear hi); have hcz15_0 : w14.cell? ⟨gb107, 0, none⟩ = some (.bool false) := (blk_cell BK107.out 0).trans rfl; have hcz15_1 : w14.cell? ⟨gb107, 1, none⟩ = some (.string (⟨#[]⟩ : ByteArray)) := (blk_cell BK107.out 1).trans rfl; have hcz15_2 : w14.cell? ⟨gb107, 2, none⟩ = some (.int .i64 0) := (blk_cell BK107.out 2).trans rfl; have hfz15_0 := blk_frozen BK107.out 0; have hfz15_1 := blk_frozen BK107.out 1; have hfz15_2 := blk_frozen BK107.out 2))
          refine bodyPost_ret (results_ct rfl _ _ gb107 23 #[.bool false, .string (⟨#[]⟩ : ByteArray), .int .i64 0] (0, 0) _ rfl (by (with_reducible repeat (first | refine blk_drewN ?_ _ | refine blk_drew ?_ | refine blk_alloc ?_ _)); refine blk_put (cs := #[.bool false, .string (⟨#[]⟩ : ByteArray), .int .i64 0]) ?_ 2 _ rfl; (with_reducible repeat (first | refine blk_drewN ?_ _ | refine blk_drew ?_ | refine blk_alloc ?_ _)); refine blk_put (cs := #[.bool false, .string (⟨#[]⟩ : ByteArray), .int .i64 0]) ?_ 1 _ rfl; (with_reducible repeat (first | refine blk_drewN ?_ _ | refine blk_drew ?_ | refine blk_alloc ?_ _)); refine blk_put (cs := #[.bool false, .string (⟨#[]⟩ : ByteArray), .int .i64 0]) ?_ 0 _ rfl; (with_reducible repeat (first | refine blk_drewN ?_ _ | refine blk_drew ?_ | refine blk_alloc ?_ _)); exact BK107.out) Tryd.underlying23 rfl (by kernel_rfl)) rfl ?_
          exact ⟨by first | rfl | (simp [errW_none, errW_some] <;> rfl) | (simp [*, errW_none, errW_some] <;> rfl), by repeat (first | (with_reducible first | exact HB.out | apply below_alloc | apply pw_below_drewN | apply below_drew1 | refine below_set ?_ GE107.out) | exact HB.out)⟩
        · rw [if_neg c9] at H
          have c9b0 : decide (40 < (wrap64 ((t110.size : Int) + (t111.size : Int)))) = false := decide_eq_false c9
          clear c9
          by_cases c16 : t110.size + t111.size ≤ 9223372036854775807
          · rw [if_pos c16] at H
            try simp only [show wrap64 ((t110.size : Int) + (t111.size : Int)) = (t110.size : Int) + (t111.size : Int) from by unfold wrap64; omega] at *
            have c16b0 := eq_true c16
            have c16b1 : decide (t110.size + t111.size ≤ 9223372036854775807) = true := decide_eq_true c16
            try have c16b2 : (9223372036854775807 < t110.size + t111.size) = False := eq_false (Nat.not_lt.2 c16)
            replace H := Option.bind_eq_some_iff.mp H
            obtain ⟨⟨t115, t116, t117⟩, A170, H⟩ := H
            replace H : (some (t115, t116, t117, true)) = some (r1, r2, r3, r4) := H
            have A17 := Aside0.mk A170
            clear A170
            simp only [Option.some.injEq, Prod.mk.injEq] at H
            obtain ⟨rfl, rfl, rfl, rfl⟩ := H
            go_enter Tryd.func37, Tryd.ntmps37
            go_wp2_with (first | ((with_reducible refine gate_dst (N := 2) rfl ?_); (try (refine gate_guard (by rfl) ?_; dsimp only)); refine box_event ?hg (N := 2) ?hd (cs := #[.bool false, .string (⟨#[]⟩ : ByteArray), .int .i64 0]) (t := 23) ?hr ?_; (case hd => rfl); (case hg => rfl); (case hr => first | (go_simp; done) | (go_simp; rfl)); intro gb107 hg w18 hbox hb; have n0_ := Aside0.mk (below_step (by repeat (first | (with_reducible first | exact HB.out | apply below_alloc | apply pw_below_drewN | apply below_drew1) | exact HB.out)) hb); have n1_ := Aside0.mk (hbox); have n2_ := Aside0.mk ((by rw [hg]; exact (below_size (by repeat (first | (with_reducible first | exact HB.out | apply below_alloc | apply pw_below_drewN | apply below_drew1) | exact HB.out))) : w.heap.size ≤ gb107)); have n3_ := Aside0.mk ((by rw [hg]; exact (below_size (by repeat (first | (with_reducible first | exact HB.out | apply below_alloc | apply pw_below_drewN | apply below_drew1) | exact HB.out))) : w.heap.size ≤ gb107)); clear HB; have HB := n0_; have BK107 := n1_; have GW107 := n2_; have GE107 := n3_; clear n0_ n1_ n2_ n3_; clear hb hbox hg) | ((with_reducible refine gate_callee (f := 69) rfl ?_); refine goesL_ (some 11) rfl rfl Tryd.func69 (by kernel_rfl) rfl #[.string a0, .string (⟨#[45]⟩ : ByteArray)] rfl (by (try simp only [List.map_toArray, List.map_cons, List.map_nil]); first | done | rfl | (simp only [List.length_drop, List.length_take]; rfl)) ?_; (with_reducible refine (strings_CutPrefix.calls a0 (⟨#[45]⟩ : ByteArray) t108 t109 _ A2.out).mono ?_); rintro e w19 ⟨rfl, hb⟩; refine ⟨_, rfl, ?_⟩; have n0_ := Aside0.mk (blk_below (g := gb107) (o := .cells #[.bool false, .string (⟨#[]⟩ : ByteArray), .int .i64 0] 23 (0, 0)) (by (with_reducible repeat (first | refine blk_drewN ?_ _ | refine blk_drew ?_ | refine blk_alloc ?_ _)); exact BK107.out) hb); have n1_ := Aside0.mk (below_step (by repeat (first | (with_reducible first | exact HB.out | apply below_alloc | apply pw_below_drewN | apply below_drew1 | refine below_set ?_ GE107.out) | exact HB.out)) hb); clear BK107; clear HB; have BK107 := n0_; have HB := n1_; clear n0_ n1_; (try clear hb); (try clear hb2); (try clear hk); (try clear hi)) | ((with_reducible refine gate_callee (f := 70) rfl ?_); refine goesL_ (some 16) rfl rfl Tryd.func70 (by kernel_rfl) rfl #[.string t108, .string (⟨#[46]⟩ : ByteArray)] rfl (by (try simp only [List.map_toArray, List.map_cons, List.map_nil]); first | done | rfl | (simp only [List.length_drop, List.length_take]; rfl)) ?_; (with_reducible refine (strings_Cut.calls t108 (⟨#[46]⟩ : ByteArray) t110 t111 true _ A3.out).mono ?_); rintro e w20 ⟨rfl, hb⟩; refine ⟨_, rfl, ?_⟩; have n0_ := Aside0.mk (blk_below (g := gb107) (o := .cells #[.bool false, .string (⟨#[]⟩ : ByteArray), .int .i64 0] 23 (0, 0)) (by (with_reducible repeat (first | refine blk_drewN ?_ _ | refine blk_drew ?_ | refine blk_alloc ?_ _)); exact BK107.out) hb); have n1_ := Aside0.mk (below_step (by repeat (first | (with_reducible first | exact HB.out | apply below_alloc | apply pw_below_drewN | apply below_drew1 | refine below_set ?_ GE107.out) | exact HB.out)) hb); clear BK107; clear HB; have BK107 := n0_; have HB := n1_; clear n0_ n1_; (try clear hb); (try clear hb2); (try clear hk); (try clear hi)) | ((with_reducible refine gate_callee (f := 71) rfl ?_); refine goesL_ (some 21) rfl rfl Tryd.func71 (by kernel_rfl) rfl #[.string t110] rfl (by (try simp only [List.map_toArray, List.map_cons, List.map_nil]); first | done | rfl | (simp only [List.length_drop, List.length_take]; rfl)) ?_; (with_reducible refine (dec_isDigits.calls t110 true _ A4.out).mono ?_); rintro e w21 ⟨rfl, hb⟩; refine ⟨_, rfl, ?_⟩; have n0_ := Aside0.mk (blk_below (g := gb107) (o := .cells #[.bool false, .string (⟨#[]⟩ : ByteArray), .int .i64 0] 23 (0, 0)) (by (with_reducible repeat (first | refine blk_drewN ?_ _ | refine blk_drew ?_ | refine blk_alloc ?_ _)); exact BK107.out) hb); have n1_ := Aside0.mk (below_step (by repeat (first | (with_reducible first | exact HB.out | apply below_alloc | apply pw_below_drewN | apply below_drew1 | refine below_set ?_ GE107.out) | exact HB.out)) hb); clear BK107; clear HB; have BK107 := n0_; have HB := n1_; clear n0_ n1_; (try clear hb); (try clear hb2); (try clear hk); (try clear hi)) | (go_at_call 71; (with_reducible refine (dec_isDigits.calls t111 true _ A7.out).mono ?_); rintro e w22 ⟨rfl, hb⟩; have n0_ := Aside0.mk (blk_below (g := gb107) (o := .cells #[.bool false, .string (⟨#[]⟩ : ByteArray), .int .i64 0] 23 (0, 0)) (by (with_reducible repeat (first | refine blk_drewN ?_ _ | refine blk_drew ?_ | refine blk_alloc ?_ _)); exact BK107.out) hb); have n1_ := Aside0.mk (below_step (by repeat (first | (with_reducible first | exact HB.out | apply below_alloc | apply pw_below_drewN | apply below_drew1 | refine below_set ?_ GE107.out) | exact HB.out)) hb); clear BK107; clear HB; have BK107 := n0_; have HB := n1_; clear n0_ n1_; (try clear hb); (try clear hb2); (try clear hk); (try clear hi)) | ((with_reducible refine gate_callee (f := 72) rfl ?_); refine goesL_ (some 46) rfl rfl Tryd.func72 (by kernel_rfl) rfl #[.bool t109, .string (t110 ++ t111), .int .i64 (t111.size : Int)] rfl (by (try simp only [List.map_toArray, List.map_cons, List.map_nil]); first | done | rfl | (simp only [List.length_drop, List.length_take]; rfl)) ?_; (with_reducible refine (dec_make0.calls t109 (t110 ++ t111) (t111.size : Int) t115 t116 t117 _ A17.out).mono ?_); rintro e w23 ⟨rfl, hb⟩; refine ⟨_, rfl, ?_⟩; have n0_ := Aside0.mk (blk_below (g := gb107) (o := .cells #[.bool false, .string (⟨#[]⟩ : ByteArray), .int .i64 0] 23 (0, 0)) (by (with_reducible repeat (first | refine blk_drewN ?_ _ | refine blk_drew ?_ | refine blk_alloc ?_ _)); exact BK107.out) hb); have n1_ := Aside0.mk (below_step (by repeat (first | (with_reducible first | exact HB.out | apply below_alloc | apply pw_below_drewN | apply below_drew1 | refine below_set ?_ GE107.out) | exact HB.out)) hb); clear BK107; clear HB; have BK107 := n0_; have HB := n1_; clear n0_ n1_; (try clear hb); (try clear hb2); (try clear hk); (try clear hi); have hcz24_0 : w23.cell? ⟨gb107, 0, none⟩ = some (.bool false) := (blk_cell BK107.out 0).trans rfl; have hcz24_1 : w23.cell? ⟨gb107, 1, none⟩ = some (.string (⟨#[]⟩ : ByteArray)) := (blk_cell BK107.out 1).trans rfl; have hcz24_2 : w23.cell? ⟨gb107, 2, none⟩ = some (.int .i64 0) := (blk_cell BK107.out 2).trans rfl; have hfz24_0 := blk_frozen BK107.out 0; have hfz24_1 := blk_frozen BK107.out 1; have hfz24_2 := blk_frozen BK107.out 2))
            refine bodyPost_ret (results_ct rfl _ _ gb107 23 #[.bool t115, .string t116, .int .i64 t117] (0, 0) _ rfl (by (with_reducible repeat (first | refine blk_drewN ?_ _ | refine blk_drew ?_ | refine blk_alloc ?_ _)); refine blk_put (cs := #[.bool t115, .string t116, .int .i64 0]) ?_ 2 _ rfl; (with_reducible repeat (first | refine blk_drewN ?_ _ | refine blk_drew ?_ | refine blk_alloc ?_ _)); refine blk_put (cs := #[.bool t115, .string (⟨#[]⟩ : ByteArray), .int .i64 0]) ?_ 1 _ rfl; (with_reducible repeat (first | refine blk_drewN ?_ _ | refine blk_drew ?_ | refine blk_alloc ?_ _)); refine blk_put (cs := #[.bool false, .string (⟨#[]⟩ : ByteArray), .int .i64 0]) ?_ 0 _ rfl; (with_reducible repeat (first | refine blk_drewN ?_ _ | refine blk_drew ?_ | refine blk_alloc ?_ _)); exact BK107.out) Tryd.underlying23 rfl (by kernel_rfl)) rfl ?_
            exact ⟨by first | rfl | (simp [errW_none, errW_some] <;> rfl) | (simp [*, errW_none, errW_some] <;> rfl), by repeat (first | (with_reducible first | exact HB.out | apply below_alloc | apply pw_below_drewN | apply below_drew1 | refine below_set ?_ GE107.out) | exact HB.out)⟩
          · rw [if_neg c16] at H
            exact absurd H (by simp)
      · replace c8 := Bool.eq_false_iff.mpr c8
        subst c8
        have H1 : (some (false, (⟨#[]⟩ : ByteArray), 0, false)) = some (r1, r2, r3, r4) := by rw [if_neg (show ¬ (false = true) by decide)] at H; exact H
        clear H
        have H := H1
        clear H1
        simp only [Option.some.injEq, Prod.mk.injEq] at H
        obtain ⟨rfl, rfl, rfl, rfl⟩ := H
        go_enter Tryd.func37, Tryd.ntmps37
        go_wp2_with (first | ((with_reducible refine gate_dst (N := 2) rfl ?_); (try (refine gate_guard (by rfl) ?_; dsimp only)); refine box_event ?hg (N := 2) ?hd (cs := #[.bool false, .string (⟨#[]⟩ : ByteArray), .int .i64 0]) (t := 23) ?hr ?_; (case hd => rfl); (case hg => rfl); (case hr => first | (go_simp; done) | (go_simp; rfl)); intro gb107 hg w25 hbox hb; have n0_ := Aside0.mk (below_step (by repeat (first | (with_reducible first | exact HB.out | apply below_alloc | apply pw_below_drewN | apply below_drew1) | exact HB.out)) hb); have n1_ := Aside0.mk (hbox); have n2_ := Aside0.mk ((by rw [hg]; exact (below_size (by repeat (first | (with_reducible first | exact HB.out | apply below_alloc | apply pw_below_drewN | apply below_drew1) | exact HB.out))) : w.heap.size ≤ gb107)); have n3_ := Aside0.mk ((by rw [hg]; exact (below_size (by repeat (first | (with_reducible first | exact HB.out | apply below_alloc | apply pw_below_drewN | apply below_drew1) | exact HB.out))) : w.heap.size ≤ gb107)); clear HB; have HB := n0_; have BK107 := n1_; have GW107 := n2_; have GE107 := n3_; clear n0_ n1_ n2_ n3_; clear hb hbox hg) | ((with_reducible refine gate_callee (f := 69) rfl ?_); refine goesL_ (some 11) rfl rfl Tryd.func69 (by kernel_rfl) rfl #[.string a0, .string (⟨#[45]⟩ : ByteArray)] rfl (by (try simp only [List.map_toArray, List.map_cons, List.map_nil]); first | done | rfl | (simp only [List.length_drop, List.length_take]; rfl)) ?_; (with_reducible refine (strings_CutPrefix.calls a0 (⟨#[45]⟩ : ByteArray) t108 t109 _ A2.out).mono ?_); rintro e w26 ⟨rfl, hb⟩; refine ⟨_, rfl, ?_⟩; have n0_ := Aside0.mk (blk_below (g := gb107) (o := .cells #[.bool false, .string (⟨#[]⟩ : ByteArray), .int .i64 0] 23 (0, 0)) (by (with_reducible repeat (first | refine blk_drewN ?_ _ | refine blk_drew ?_ | refine blk_alloc ?_ _)); exact BK107.out) hb); have n1_ := Aside0.mk (below_step (by repeat (first | (with_reducible first | exact HB.out | apply below_alloc | apply pw_below_drewN | apply below_drew1 | refine below_set ?_ GE107.out) | exact HB.out)) hb); clear BK107; clear HB; have BK107 := n0_; have HB := n1_; clear n0_ n1_; (try clear hb); (try clear hb2); (try clear hk); (try clear hi)) | ((with_reducible refine gate_callee (f := 70) rfl ?_); refine goesL_ (some 16) rfl rfl Tryd.func70 (by kernel_rfl) rfl #[.string t108, .string (⟨#[46]⟩ : ByteArray)] rfl (by (try simp only [List.map_toArray, List.map_cons, List.map_nil]); first | done | rfl | (simp only [List.length_drop, List.length_take]; rfl)) ?_; (with_reducible refine (strings_Cut.calls t108 (⟨#[46]⟩ : ByteArray) t110 t111 true _ A3.out).mono ?_); rintro e w27 ⟨rfl, hb⟩; refine ⟨_, rfl, ?_⟩; have n0_ := Aside0.mk (blk_below (g := gb107) (o := .cells #[.bool false, .string (⟨#[]⟩ : ByteArray), .int .i64 0] 23 (0, 0)) (by (with_reducible repeat (first | refine blk_drewN ?_ _ | refine blk_drew ?_ | refine blk_alloc ?_ _)); exact BK107.out) hb); have n1_ := Aside0.mk (below_step (by repeat (first | (with_reducible first | exact HB.out | apply below_alloc | apply pw_below_drewN | apply below_drew1 | refine below_set ?_ GE107.out) | exact HB.out)) hb); clear BK107; clear HB; have BK107 := n0_; have HB := n1_; clear n0_ n1_; (try clear hb); (try clear hb2); (try clear hk); (try clear hi)) | ((with_reducible refine gate_callee (f := 71) rfl ?_); refine goesL_ (some 21) rfl rfl Tryd.func71 (by kernel_rfl) rfl #[.string t110] rfl (by (try simp only [List.map_toArray, List.map_cons, List.map_nil]); first | done | rfl | (simp only [List.length_drop, List.length_take]; rfl)) ?_; (with_reducible refine (dec_isDigits.calls t110 true _ A4.out).mono ?_); rintro e w28 ⟨rfl, hb⟩; refine ⟨_, rfl, ?_⟩; have n0_ := Aside0.mk (blk_below (g := gb107) (o := .cells #[.bool false, .string (⟨#[]⟩ : ByteArray), .int .i64 0] 23 (0, 0)) (by (with_reducible repeat (first | refine blk_drewN ?_ _ | refine blk_drew ?_ | refine blk_alloc ?_ _)); exact BK107.out) hb); have n1_ := Aside0.mk (below_step (by repeat (first | (with_reducible first | exact HB.out | apply below_alloc | apply pw_below_drewN | apply below_drew1 | refine below_set ?_ GE107.out) | exact HB.out)) hb); clear BK107; clear HB; have BK107 := n0_; have HB := n1_; clear n0_ n1_; (try clear hb); (try clear hb2); (try clear hk); (try clear hi)) | (go_at_call 71; (with_reducible refine (dec_isDigits.calls t111 false _ A7.out).mono ?_); rintro e w29 ⟨rfl, hb⟩; have n0_ := Aside0.mk (blk_below (g := gb107) (o := .cells #[.bool false, .string (⟨#[]⟩ : ByteArray), .int .i64 0] 23 (0, 0)) (by (with_reducible repeat (first | refine blk_drewN ?_ _ | refine blk_drew ?_ | refine blk_alloc ?_ _)); exact BK107.out) hb); have n1_ := Aside0.mk (below_step (by repeat (first | (with_reducible first | exact HB.out | apply below_alloc | apply pw_below_drewN | apply below_drew1 | refine below_set ?_ GE107.out) | exact HB.out)) hb); clear BK107; clear HB; have BK107 := n0_; have HB := n1_; clear n0_ n1_; (try clear hb); (try clear hb2); (try clear hk); (try clear hi); have hcz30_0 : w29.cell? ⟨gb107, 0, none⟩ = some (.bool false) := (blk_cell BK107.out 0).trans rfl; have hcz30_1 : w29.cell? ⟨gb107, 1, none⟩ = some (.string (⟨#[]⟩ : ByteArray)) := (blk_cell BK107.out 1).trans rfl; have hcz30_2 : w29.cell? ⟨gb107, 2, none⟩ = some (.int .i64 0) := (blk_cell BK107.out 2).trans rfl; have hfz30_0 := blk_frozen BK107.out 0; have hfz30_1 := blk_frozen BK107.out 1; have hfz30_2 := blk_frozen BK107.out 2))
        refine bodyPost_ret (results_ct rfl _ _ gb107 23 #[.bool false, .string (⟨#[]⟩ : ByteArray), .int .i64 0] (0, 0) _ rfl (by (with_reducible repeat (first | refine blk_drewN ?_ _ | refine blk_drew ?_ | refine blk_alloc ?_ _)); refine blk_put (cs := #[.bool false, .string (⟨#[]⟩ : ByteArray), .int .i64 0]) ?_ 2 _ rfl; (with_reducible repeat (first | refine blk_drewN ?_ _ | refine blk_drew ?_ | refine blk_alloc ?_ _)); refine blk_put (cs := #[.bool false, .string (⟨#[]⟩ : ByteArray), .int .i64 0]) ?_ 1 _ rfl; (with_reducible repeat (first | refine blk_drewN ?_ _ | refine blk_drew ?_ | refine blk_alloc ?_ _)); refine blk_put (cs := #[.bool false, .string (⟨#[]⟩ : ByteArray), .int .i64 0]) ?_ 0 _ rfl; (with_reducible repeat (first | refine blk_drewN ?_ _ | refine blk_drew ?_ | refine blk_alloc ?_ _)); exact BK107.out) Tryd.underlying23 rfl (by kernel_rfl)) rfl ?_
        exact ⟨by first | rfl | (simp [errW_none, errW_some] <;> rfl) | (simp [*, errW_none, errW_some] <;> rfl), by repeat (first | (with_reducible first | exact HB.out | apply below_alloc | apply pw_below_drewN | apply below_drew1 | refine below_set ?_ GE107.out) | exact HB.out)⟩
    · replace c6 := Bool.eq_false_iff.mpr c6
      subst c6
      have H1 : (if (wrap64 ((t110.size : Int) + (t111.size : Int))) > 40 then (some (false, (⟨#[]⟩ : ByteArray), 0, false)) else (if t110.size + t111.size ≤ 9223372036854775807 then ((dec_make0.f t109 (t110 ++ t111) (t111.size : Int)).bind fun bt118 => (some (bt118.1, bt118.2.1, bt118.2.2, true))) else (none))) = some (r1, r2, r3, r4) := by rw [if_neg (show ¬ (false = true) by decide)] at H; exact H
      clear H
      have H := H1
      clear H1
      by_cases c31 : (wrap64 ((t110.size : Int) + (t111.size : Int))) > 40
      · rw [if_pos c31] at H
        have c31b0 : decide (40 < (wrap64 ((t110.size : Int) + (t111.size : Int)))) = true := decide_eq_true c31
        clear c31
        simp only [Option.some.injEq, Prod.mk.injEq] at H
        obtain ⟨rfl, rfl, rfl, rfl⟩ := H
        go_enter Tryd.func37, Tryd.ntmps37
        go_wp2_with (first | ((with_reducible refine gate_dst (N := 2) rfl ?_); (try (refine gate_guard (by rfl) ?_; dsimp only)); refine box_event ?hg (N := 2) ?hd (cs := #[.bool false, .string (⟨#[]⟩ : ByteArray), .int .i64 0]) (t := 23) ?hr ?_; (case hd => rfl); (case hg => rfl); (case hr => first | (go_simp; done) | (go_simp; rfl)); intro gb107 hg w32 hbox hb; have n0_ := Aside0.mk (below_step (by repeat (first | (with_reducible first | exact HB.out | apply below_alloc | apply pw_below_drewN | apply below_drew1) | exact HB.out)) hb); have n1_ := Aside0.mk (hbox); have n2_ := Aside0.mk ((by rw [hg]; exact (below_size (by repeat (first | (with_reducible first | exact HB.out | apply below_alloc | apply pw_below_drewN | apply below_drew1) | exact HB.out))) : w.heap.size ≤ gb107)); have n3_ := Aside0.mk ((by rw [hg]; exact (below_size (by repeat (first | (with_reducible first | exact HB.out | apply below_alloc | apply pw_below_drewN | apply below_drew1) | exact HB.out))) : w.heap.size ≤ gb107)); clear HB; have HB := n0_; have BK107 := n1_; have GW107 := n2_; have GE107 := n3_; clear n0_ n1_ n2_ n3_; clear hb hbox hg) | ((with_reducible refine gate_callee (f := 69) rfl ?_); refine goesL_ (some 11) rfl rfl Tryd.func69 (by kernel_rfl) rfl #[.string a0, .string (⟨#[45]⟩ : ByteArray)] rfl (by (try simp only [List.map_toArray, List.map_cons, List.map_nil]); first | done | rfl | (simp only [List.length_drop, List.length_take]; rfl)) ?_; (with_reducible refine (strings_CutPrefix.calls a0 (⟨#[45]⟩ : ByteArray) t108 t109 _ A2.out).mono ?_); rintro e w33 ⟨rfl, hb⟩; refine ⟨_, rfl, ?_⟩; have n0_ := Aside0.mk (blk_below (g := gb107) (o := .cells #[.bool false, .string (⟨#[]⟩ : ByteArray), .int .i64 0] 23 (0, 0)) (by (with_reducible repeat (first | refine blk_drewN ?_ _ | refine blk_drew ?_ | refine blk_alloc ?_ _)); exact BK107.out) hb); have n1_ := Aside0.mk (below_step (by repeat (first | (with_reducible first | exact HB.out | apply below_alloc | apply pw_below_drewN | apply below_drew1 | refine below_set ?_ GE107.out) | exact HB.out)) hb); clear BK107; clear HB; have BK107 := n0_; have HB := n1_; clear n0_ n1_; (try clear hb); (try clear hb2); (try clear hk); (try clear hi)) | ((with_reducible refine gate_callee (f := 70) rfl ?_); refine goesL_ (some 16) rfl rfl Tryd.func70 (by kernel_rfl) rfl #[.string t108, .string (⟨#[46]⟩ : ByteArray)] rfl (by (try simp only [List.map_toArray, List.map_cons, List.map_nil]); first | done | rfl | (simp only [List.length_drop, List.length_take]; rfl)) ?_; (with_reducible refine (strings_Cut.calls t108 (⟨#[46]⟩ : ByteArray) t110 t111 false _ A3.out).mono ?_); rintro e w34 ⟨rfl, hb⟩; refine ⟨_, rfl, ?_⟩; have n0_ := Aside0.mk (blk_below (g := gb107) (o := .cells #[.bool false, .string (⟨#[]⟩ : ByteArray), .int .i64 0] 23 (0, 0)) (by (with_reducible repeat (first | refine blk_drewN ?_ _ | refine blk_drew ?_ | refine blk_alloc ?_ _)); exact BK107.out) hb); have n1_ := Aside0.mk (below_step (by repeat (first | (with_reducible first | exact HB.out | apply below_alloc | apply pw_below_drewN | apply below_drew1 | refine below_set ?_ GE107.out) | exact HB.out)) hb); clear BK107; clear HB; have BK107 := n0_; have HB := n1_; clear n0_ n1_; (try clear hb); (try clear hb2); (try clear hk); (try clear hi)) | ((with_reducible refine gate_callee (f := 71) rfl ?_); refine goesL_ (some 21) rfl rfl Tryd.func71 (by kernel_rfl) rfl #[.string t110] rfl (by (try simp only [List.map_toArray, List.map_cons, List.map_nil]); first | done | rfl | (simp only [List.length_drop, List.length_take]; rfl)) ?_; (with_reducible refine (dec_isDigits.calls t110 true _ A4.out).mono ?_); rintro e w35 ⟨rfl, hb⟩; refine ⟨_, rfl, ?_⟩; have n0_ := Aside0.mk (blk_below (g := gb107) (o := .cells #[.bool false, .string (⟨#[]⟩ : ByteArray), .int .i64 0] 23 (0, 0)) (by (with_reducible repeat (first | refine blk_drewN ?_ _ | refine blk_drew ?_ | refine blk_alloc ?_ _)); exact BK107.out) hb); have n1_ := Aside0.mk (below_step (by repeat (first | (with_reducible first | exact HB.out | apply below_alloc | apply pw_below_drewN | apply below_drew1 | refine below_set ?_ GE107.out) | exact HB.out)) hb); clear BK107; clear HB; have BK107 := n0_; have HB := n1_; clear n0_ n1_; (try clear hb); (try clear hb2); (try clear hk); (try clear hi); have hcz36_0 : w35.cell? ⟨gb107, 0, none⟩ = some (.bool false) := (blk_cell BK107.out 0).trans rfl; have hcz36_1 : w35.cell? ⟨gb107, 1, none⟩ = some (.string (⟨#[]⟩ : ByteArray)) := (blk_cell BK107.out 1).trans rfl; have hcz36_2 : w35.cell? ⟨gb107, 2, none⟩ = some (.int .i64 0) := (blk_cell BK107.out 2).trans rfl; have hfz36_0 := blk_frozen BK107.out 0; have hfz36_1 := blk_frozen BK107.out 1; have hfz36_2 := blk_frozen BK107.out 2))
        refine bodyPost_ret (results_ct rfl _ _ gb107 23 #[.bool false, .string (⟨#[]⟩ : ByteArray), .int .i64 0] (0, 0) _ rfl (by (with_reducible repeat (first | refine blk_drewN ?_ _ | refine blk_drew ?_ | refine blk_alloc ?_ _)); refine blk_put (cs := #[.bool false, .string (⟨#[]⟩ : ByteArray), .int .i64 0]) ?_ 2 _ rfl; (with_reducible repeat (first | refine blk_drewN ?_ _ | refine blk_drew ?_ | refine blk_alloc ?_ _)); refine blk_put (cs := #[.bool false, .string (⟨#[]⟩ : ByteArray), .int .i64 0]) ?_ 1 _ rfl; (with_reducible repeat (first | refine blk_drewN ?_ _ | refine blk_drew ?_ | refine blk_alloc ?_ _)); refine blk_put (cs := #[.bool false, .string (⟨#[]⟩ : ByteArray), .int .i64 0]) ?_ 0 _ rfl; (with_reducible repeat (first | refine blk_drewN ?_ _ | refine blk_drew ?_ | refine blk_alloc ?_ _)); exact BK107.out) Tryd.underlying23 rfl (by kernel_rfl)) rfl ?_
        exact ⟨by first | rfl | (simp [errW_none, errW_some] <;> rfl) | (simp [*, errW_none, errW_some] <;> rfl), by repeat (first | (with_reducible first | exact HB.out | apply below_alloc | apply pw_below_drewN | apply below_drew1 | refine below_set ?_ GE107.out) | exact HB.out)⟩
      · rw [if_neg c31] at H
        have c31b0 : decide (40 < (wrap64 ((t110.size : Int) + (t111.size : Int)))) = false := decide_eq_false c31
        clear c31
        by_cases c37 : t110.size + t111.size ≤ 9223372036854775807
        · rw [if_pos c37] at H
          try simp only [show wrap64 ((t110.size : Int) + (t111.size : Int)) = (t110.size : Int) + (t111.size : Int) from by unfold wrap64; omega] at *
          have c37b0 := eq_true c37
          have c37b1 : decide (t110.size + t111.size ≤ 9223372036854775807) = true := decide_eq_true c37
          try have c37b2 : (9223372036854775807 < t110.size + t111.size) = False := eq_false (Nat.not_lt.2 c37)
          replace H := Option.bind_eq_some_iff.mp H
          obtain ⟨⟨t118, t119, t120⟩, A380, H⟩ := H
          replace H : (some (t118, t119, t120, true)) = some (r1, r2, r3, r4) := H
          have A38 := Aside0.mk A380
          clear A380
          simp only [Option.some.injEq, Prod.mk.injEq] at H
          obtain ⟨rfl, rfl, rfl, rfl⟩ := H
          go_enter Tryd.func37, Tryd.ntmps37
          go_wp2_with (first | ((with_reducible refine gate_dst (N := 2) rfl ?_); (try (refine gate_guard (by rfl) ?_; dsimp only)); refine box_event ?hg (N := 2) ?hd (cs := #[.bool false, .string (⟨#[]⟩ : ByteArray), .int .i64 0]) (t := 23) ?hr ?_; (case hd => rfl); (case hg => rfl); (case hr => first | (go_simp; done) | (go_simp; rfl)); intro gb107 hg w39 hbox hb; have n0_ := Aside0.mk (below_step (by repeat (first | (with_reducible first | exact HB.out | apply below_alloc | apply pw_below_drewN | apply below_drew1) | exact HB.out)) hb); have n1_ := Aside0.mk (hbox); have n2_ := Aside0.mk ((by rw [hg]; exact (below_size (by repeat (first | (with_reducible first | exact HB.out | apply below_alloc | apply pw_below_drewN | apply below_drew1) | exact HB.out))) : w.heap.size ≤ gb107)); have n3_ := Aside0.mk ((by rw [hg]; exact (below_size (by repeat (first | (with_reducible first | exact HB.out | apply below_alloc | apply pw_below_drewN | apply below_drew1) | exact HB.out))) : w.heap.size ≤ gb107)); clear HB; have HB := n0_; have BK107 := n1_; have GW107 := n2_; have GE107 := n3_; clear n0_ n1_ n2_ n3_; clear hb hbox hg) | ((with_reducible refine gate_callee (f := 69) rfl ?_); refine goesL_ (some 11) rfl rfl Tryd.func69 (by kernel_rfl) rfl #[.string a0, .string (⟨#[45]⟩ : ByteArray)] rfl (by (try simp only [List.map_toArray, List.map_cons, List.map_nil]); first | done | rfl | (simp only [List.length_drop, List.length_take]; rfl)) ?_; (with_reducible refine (strings_CutPrefix.calls a0 (⟨#[45]⟩ : ByteArray) t108 t109 _ A2.out).mono ?_); rintro e w40 ⟨rfl, hb⟩; refine ⟨_, rfl, ?_⟩; have n0_ := Aside0.mk (blk_below (g := gb107) (o := .cells #[.bool false, .string (⟨#[]⟩ : ByteArray), .int .i64 0] 23 (0, 0)) (by (with_reducible repeat (first | refine blk_drewN ?_ _ | refine blk_drew ?_ | refine blk_alloc ?_ _)); exact BK107.out) hb); have n1_ := Aside0.mk (below_step (by repeat (first | (with_reducible first | exact HB.out | apply below_alloc | apply pw_below_drewN | apply below_drew1 | refine below_set ?_ GE107.out) | exact HB.out)) hb); clear BK107; clear HB; have BK107 := n0_; have HB := n1_; clear n0_ n1_; (try clear hb); (try clear hb2); (try clear hk); (try clear hi)) | ((with_reducible refine gate_callee (f := 70) rfl ?_); refine goesL_ (some 16) rfl rfl Tryd.func70 (by kernel_rfl) rfl #[.string t108, .string (⟨#[46]⟩ : ByteArray)] rfl (by (try simp only [List.map_toArray, List.map_cons, List.map_nil]); first | done | rfl | (simp only [List.length_drop, List.length_take]; rfl)) ?_; (with_reducible refine (strings_Cut.calls t108 (⟨#[46]⟩ : ByteArray) t110 t111 false _ A3.out).mono ?_); rintro e w41 ⟨rfl, hb⟩; refine ⟨_, rfl, ?_⟩; have n0_ := Aside0.mk (blk_below (g := gb107) (o := .cells #[.bool false, .string (⟨#[]⟩ : ByteArray), .int .i64 0] 23 (0, 0)) (by (with_reducible repeat (first | refine blk_drewN ?_ _ | refine blk_drew ?_ | refine blk_alloc ?_ _)); exact BK107.out) hb); have n1_ := Aside0.mk (below_step (by repeat (first | (with_reducible first | exact HB.out | apply below_alloc | apply pw_below_drewN | apply below_drew1 | refine below_set ?_ GE107.out) | exact HB.out)) hb); clear BK107; clear HB; have BK107 := n0_; have HB := n1_; clear n0_ n1_; (try clear hb); (try clear hb2); (try clear hk); (try clear hi)) | ((with_reducible refine gate_callee (f := 71) rfl ?_); refine goesL_ (some 21) rfl rfl Tryd.func71 (by kernel_rfl) rfl #[.string t110] rfl (by (try simp only [List.map_toArray, List.map_cons, List.map_nil]); first | done | rfl | (simp only [List.length_drop, List.length_take]; rfl)) ?_; (with_reducible refine (dec_isDigits.calls t110 true _ A4.out).mono ?_); rintro e w42 ⟨rfl, hb⟩; refine ⟨_, rfl, ?_⟩; have n0_ := Aside0.mk (blk_below (g := gb107) (o := .cells #[.bool false, .string (⟨#[]⟩ : ByteArray), .int .i64 0] 23 (0, 0)) (by (with_reducible repeat (first | refine blk_drewN ?_ _ | refine blk_drew ?_ | refine blk_alloc ?_ _)); exact BK107.out) hb); have n1_ := Aside0.mk (below_step (by repeat (first | (with_reducible first | exact HB.out | apply below_alloc | apply pw_below_drewN | apply below_drew1 | refine below_set ?_ GE107.out) | exact HB.out)) hb); clear BK107; clear HB; have BK107 := n0_; have HB := n1_; clear n0_ n1_; (try clear hb); (try clear hb2); (try clear hk); (try clear hi)) | ((with_reducible refine gate_callee (f := 72) rfl ?_); refine goesL_ (some 46) rfl rfl Tryd.func72 (by kernel_rfl) rfl #[.bool t109, .string (t110 ++ t111), .int .i64 (t111.size : Int)] rfl (by (try simp only [List.map_toArray, List.map_cons, List.map_nil]); first | done | rfl | (simp only [List.length_drop, List.length_take]; rfl)) ?_; (with_reducible refine (dec_make0.calls t109 (t110 ++ t111) (t111.size : Int) t118 t119 t120 _ A38.out).mono ?_); rintro e w43 ⟨rfl, hb⟩; refine ⟨_, rfl, ?_⟩; have n0_ := Aside0.mk (blk_below (g := gb107) (o := .cells #[.bool false, .string (⟨#[]⟩ : ByteArray), .int .i64 0] 23 (0, 0)) (by (with_reducible repeat (first | refine blk_drewN ?_ _ | refine blk_drew ?_ | refine blk_alloc ?_ _)); exact BK107.out) hb); have n1_ := Aside0.mk (below_step (by repeat (first | (with_reducible first | exact HB.out | apply below_alloc | apply pw_below_drewN | apply below_drew1 | refine below_set ?_ GE107.out) | exact HB.out)) hb); clear BK107; clear HB; have BK107 := n0_; have HB := n1_; clear n0_ n1_; (try clear hb); (try clear hb2); (try clear hk); (try clear hi); have hcz44_0 : w43.cell? ⟨gb107, 0, none⟩ = some (.bool false) := (blk_cell BK107.out 0).trans rfl; have hcz44_1 : w43.cell? ⟨gb107, 1, none⟩ = some (.string (⟨#[]⟩ : ByteArray)) := (blk_cell BK107.out 1).trans rfl; have hcz44_2 : w43.cell? ⟨gb107, 2, none⟩ = some (.int .i64 0) := (blk_cell BK107.out 2).trans rfl; have hfz44_0 := blk_frozen BK107.out 0; have hfz44_1 := blk_frozen BK107.out 1; have hfz44_2 := blk_frozen BK107.out 2))
          refine bodyPost_ret (results_ct rfl _ _ gb107 23 #[.bool t118, .string t119, .int .i64 t120] (0, 0) _ rfl (by (with_reducible repeat (first | refine blk_drewN ?_ _ | refine blk_drew ?_ | refine blk_alloc ?_ _)); refine blk_put (cs := #[.bool t118, .string t119, .int .i64 0]) ?_ 2 _ rfl; (with_reducible repeat (first | refine blk_drewN ?_ _ | refine blk_drew ?_ | refine blk_alloc ?_ _)); refine blk_put (cs := #[.bool t118, .string (⟨#[]⟩ : ByteArray), .int .i64 0]) ?_ 1 _ rfl; (with_reducible repeat (first | refine blk_drewN ?_ _ | refine blk_drew ?_ | refine blk_alloc ?_ _)); refine blk_put (cs := #[.bool false, .string (⟨#[]⟩ : ByteArray), .int .i64 0]) ?_ 0 _ rfl; (with_reducible repeat (first | refine blk_drewN ?_ _ | refine blk_drew ?_ | refine blk_alloc ?_ _)); exact BK107.out) Tryd.underlying23 rfl (by kernel_rfl)) rfl ?_
          exact ⟨by first | rfl | (simp [errW_none, errW_some] <;> rfl) | (simp [*, errW_none, errW_some] <;> rfl), by repeat (first | (with_reducible first | exact HB.out | apply below_alloc | apply pw_below_drewN | apply below_drew1 | refine below_set ?_ GE107.out) | exact HB.out)⟩
        · rw [if_neg c37] at H
          exact absurd H (by simp)
  · replace c5 := Bool.eq_false_iff.mpr c5
    subst c5
    have H1 : (some (false, (⟨#[]⟩ : ByteArray), 0, false)) = some (r1, r2, r3, r4) := by rw [if_neg (show ¬ (false = true) by decide)] at H; exact H
    clear H
    have H := H1
    clear H1
    simp only [Option.some.injEq, Prod.mk.injEq] at H
    obtain ⟨rfl, rfl, rfl, rfl⟩ := H
    go_enter Tryd.func37, Tryd.ntmps37
    go_wp2_with (first | ((with_reducible refine gate_dst (N := 2) rfl ?_); (try (refine gate_guard (by rfl) ?_; dsimp only)); refine box_event ?hg (N := 2) ?hd (cs := #[.bool false, .string (⟨#[]⟩ : ByteArray), .int .i64 0]) (t := 23) ?hr ?_; (case hd => rfl); (case hg => rfl); (case hr => first | (go_simp; done) | (go_simp; rfl)); intro gb107 hg w45 hbox hb; have n0_ := Aside0.mk (below_step (by repeat (first | (with_reducible first | exact HB.out | apply below_alloc | apply pw_below_drewN | apply below_drew1) | exact HB.out)) hb); have n1_ := Aside0.mk (hbox); have n2_ := Aside0.mk ((by rw [hg]; exact (below_size (by repeat (first | (with_reducible first | exact HB.out | apply below_alloc | apply pw_below_drewN | apply below_drew1) | exact HB.out))) : w.heap.size ≤ gb107)); have n3_ := Aside0.mk ((by rw [hg]; exact (below_size (by repeat (first | (with_reducible first | exact HB.out | apply below_alloc | apply pw_below_drewN | apply below_drew1) | exact HB.out))) : w.heap.size ≤ gb107)); clear HB; have HB := n0_; have BK107 := n1_; have GW107 := n2_; have GE107 := n3_; clear n0_ n1_ n2_ n3_; clear hb hbox hg) | ((with_reducible refine gate_callee (f := 69) rfl ?_); refine goesL_ (some 11) rfl rfl Tryd.func69 (by kernel_rfl) rfl #[.string a0, .string (⟨#[45]⟩ : ByteArray)] rfl (by (try simp only [List.map_toArray, List.map_cons, List.map_nil]); first | done | rfl | (simp only [List.length_drop, List.length_take]; rfl)) ?_; (with_reducible refine (strings_CutPrefix.calls a0 (⟨#[45]⟩ : ByteArray) t108 t109 _ A2.out).mono ?_); rintro e w46 ⟨rfl, hb⟩; refine ⟨_, rfl, ?_⟩; have n0_ := Aside0.mk (blk_below (g := gb107) (o := .cells #[.bool false, .string (⟨#[]⟩ : ByteArray), .int .i64 0] 23 (0, 0)) (by (with_reducible repeat (first | refine blk_drewN ?_ _ | refine blk_drew ?_ | refine blk_alloc ?_ _)); exact BK107.out) hb); have n1_ := Aside0.mk (below_step (by repeat (first | (with_reducible first | exact HB.out | apply below_alloc | apply pw_below_drewN | apply below_drew1 | refine below_set ?_ GE107.out) | exact HB.out)) hb); clear BK107; clear HB; have BK107 := n0_; have HB := n1_; clear n0_ n1_; (try clear hb); (try clear hb2); (try clear hk); (try clear hi)) | ((with_reducible refine gate_callee (f := 70) rfl ?_); refine goesL_ (some 16) rfl rfl Tryd.func70 (by kernel_rfl) rfl #[.string t108, .string (⟨#[46]⟩ : ByteArray)] rfl (by (try simp only [List.map_toArray, List.map_cons, List.map_nil]); first | done | rfl | (simp only [List.length_drop, List.length_take]; rfl)) ?_; (with_reducible refine (strings_Cut.calls t108 (⟨#[46]⟩ : ByteArray) t110 t111 t112 _ A3.out).mono ?_); rintro e w47 ⟨rfl, hb⟩; refine ⟨_, rfl, ?_⟩; have n0_ := Aside0.mk (blk_below (g := gb107) (o := .cells #[.bool false, .string (⟨#[]⟩ : ByteArray), .int .i64 0] 23 (0, 0)) (by (with_reducible repeat (first | refine blk_drewN ?_ _ | refine blk_drew ?_ | refine blk_alloc ?_ _)); exact BK107.out) hb); have n1_ := Aside0.mk (below_step (by repeat (first | (with_reducible first | exact HB.out | apply below_alloc | apply pw_below_drewN | apply below_drew1 | refine below_set ?_ GE107.out) | exact HB.out)) hb); clear BK107; clear HB; have BK107 := n0_; have HB := n1_; clear n0_ n1_; (try clear hb); (try clear hb2); (try clear hk); (try clear hi)) | ((with_reducible refine gate_callee (f := 71) rfl ?_); refine goesL_ (some 21) rfl rfl Tryd.func71 (by kernel_rfl) rfl #[.string t110] rfl (by (try simp only [List.map_toArray, List.map_cons, List.map_nil]); first | done | rfl | (simp only [List.length_drop, List.length_take]; rfl)) ?_; (with_reducible refine (dec_isDigits.calls t110 false _ A4.out).mono ?_); rintro e w48 ⟨rfl, hb⟩; refine ⟨_, rfl, ?_⟩; have n0_ := Aside0.mk (blk_below (g := gb107) (o := .cells #[.bool false, .string (⟨#[]⟩ : ByteArray), .int .i64 0] 23 (0, 0)) (by (with_reducible repeat (first | refine blk_drewN ?_ _ | refine blk_drew ?_ | refine blk_alloc ?_ _)); exact BK107.out) hb); have n1_ := Aside0.mk (below_step (by repeat (first | (with_reducible first | exact HB.out | apply below_alloc | apply pw_below_drewN | apply below_drew1 | refine below_set ?_ GE107.out) | exact HB.out)) hb); clear BK107; clear HB; have BK107 := n0_; have HB := n1_; clear n0_ n1_; (try clear hb); (try clear hb2); (try clear hk); (try clear hi); have hcz49_0 : w48.cell? ⟨gb107, 0, none⟩ = some (.bool false) := (blk_cell BK107.out 0).trans rfl; have hcz49_1 : w48.cell? ⟨gb107, 1, none⟩ = some (.string (⟨#[]⟩ : ByteArray)) := (blk_cell BK107.out 1).trans rfl; have hcz49_2 : w48.cell? ⟨gb107, 2, none⟩ = some (.int .i64 0) := (blk_cell BK107.out 2).trans rfl; have hfz49_0 := blk_frozen BK107.out 0; have hfz49_1 := blk_frozen BK107.out 1; have hfz49_2 := blk_frozen BK107.out 2))
    refine bodyPost_ret (results_ct rfl _ _ gb107 23 #[.bool false, .string (⟨#[]⟩ : ByteArray), .int .i64 0] (0, 0) _ rfl (by (with_reducible repeat (first | refine blk_drewN ?_ _ | refine blk_drew ?_ | refine blk_alloc ?_ _)); refine blk_put (cs := #[.bool false, .string (⟨#[]⟩ : ByteArray), .int .i64 0]) ?_ 2 _ rfl; (with_reducible repeat (first | refine blk_drewN ?_ _ | refine blk_drew ?_ | refine blk_alloc ?_ _)); refine blk_put (cs := #[.bool false, .string (⟨#[]⟩ : ByteArray), .int .i64 0]) ?_ 1 _ rfl; (with_reducible repeat (first | refine blk_drewN ?_ _ | refine blk_drew ?_ | refine blk_alloc ?_ _)); refine blk_put (cs := #[.bool false, .string (⟨#[]⟩ : ByteArray), .int .i64 0]) ?_ 0 _ rfl; (with_reducible repeat (first | refine blk_drewN ?_ _ | refine blk_drew ?_ | refine blk_alloc ?_ _)); exact BK107.out) Tryd.underlying23 rfl (by kernel_rfl)) rfl ?_
    exact ⟨by first | rfl | (simp [errW_none, errW_some] <;> rfl) | (simp [*, errW_none, errW_some] <;> rfl), by repeat (first | (with_reducible first | exact HB.out | apply below_alloc | apply pw_below_drewN | apply below_drew1 | refine below_set ?_ GE107.out) | exact HB.out)⟩
def polyglotlaw02_head.j0 : Nat → Bool → Bool → ByteArray → Int → Bool → ByteArray → Int → Option (Bool)
  | 0, _, _, _, _, _, _, _ => none
  | k + 1, x28, x126000, x126001, x126002, x131000, x131001, x131002 => if x28 = true then (some false) else ((dec_Dec_Round.f x126000 x126001 x126002 0).bind fun bt132 => ((dec_Dec_String.f bt132.1 bt132.2.1 bt132.2.2).bind fun t135 => (if t135.toList = ([50] : List UInt8) then ((dec_Dec_Round.f x131000 x131001 x131002 0).bind fun bt136 => ((dec_Dec_String.f bt136.1 bt136.2.1 bt136.2.2).bind fun t139 => (if t139.toList = ([52] : List UInt8) then ((dec_Group.f (⟨#[49, 50, 51, 52, 53, 54, 55]⟩ : ByteArray) (⟨#[32]⟩ : ByteArray)).bind fun t140 => (some (t140.toList == ([49, 32, 50, 51, 52, 32, 53, 54, 55] : List UInt8)))) else (some false)))) else (some false))))
def polyglotlaw02_head.f (k : Nat)  : Option (Bool) := (dec_Parse.f (⟨#[50, 46, 53]⟩ : ByteArray)).bind fun bt121 => ((dec_Parse.f (⟨#[51, 46, 53]⟩ : ByteArray)).bind fun bt126 => (if bt121.2.2.2 = true then (if bt126.2.2.2 = true then (if (bt121.1 || (!(bt121.2.1.toList == ([50, 53] : List UInt8)) || (!(bt121.2.2.1 == 1)))) = true then (polyglotlaw02_head.j0 k true bt121.1 bt121.2.1 bt121.2.2.1 bt126.1 bt126.2.1 bt126.2.2.1) else ((dec_Dec_String.f bt126.1 bt126.2.1 bt126.2.2.1).bind fun t131 => (polyglotlaw02_head.j0 k (t131.toList != ([51, 46, 53] : List UInt8)) bt121.1 bt121.2.1 bt121.2.2.1 bt126.1 bt126.2.1 bt126.2.2.1))) else (polyglotlaw02_head.j0 k true bt121.1 bt121.2.1 bt121.2.2.1 bt126.1 bt126.2.1 bt126.2.2.1)) else (polyglotlaw02_head.j0 k true bt121.1 bt121.2.1 bt121.2.2.1 bt126.1 bt126.2.1 bt126.2.2.1)))
set_option maxHeartbeats 8000000 in
set_option maxRecDepth 100000 in
theorem polyglotlaw02_head.calls (k : Nat)  (r : Bool) (w : World) (h : polyglotlaw02_head.f k  = some r) (HT0_ : Tab_ w := by exact Tab_.step HT0_ (by repeat (first | (with_reducible first | exact HB.out | apply below_alloc | apply pw_below_drewN | apply below_drew1 | refine below_set ?_ (Aside0.out (by assumption))) | exact HB.out))) :
    Calls Tryd.prog 34 #[] w fun e w' => e = .returned (.bool r) ∧ Below w.heap.size w w' := by
  have hu23 := Tryd.underlying23
  have HB := Aside0.mk (Below.refl w.heap.size w)
  have H : ((dec_Parse.f (⟨#[50, 46, 53]⟩ : ByteArray)).bind fun bt121 => ((dec_Parse.f (⟨#[51, 46, 53]⟩ : ByteArray)).bind fun bt126 => (if bt121.2.2.2 = true then (if bt126.2.2.2 = true then (if (bt121.1 || (!(bt121.2.1.toList == ([50, 53] : List UInt8)) || (!(bt121.2.2.1 == 1)))) = true then (polyglotlaw02_head.j0 k true bt121.1 bt121.2.1 bt121.2.2.1 bt126.1 bt126.2.1 bt126.2.2.1) else ((dec_Dec_String.f bt126.1 bt126.2.1 bt126.2.2.1).bind fun t131 => (polyglotlaw02_head.j0 k (t131.toList != ([51, 46, 53] : List UInt8)) bt121.1 bt121.2.1 bt121.2.2.1 bt126.1 bt126.2.1 bt126.2.2.1))) else (polyglotlaw02_head.j0 k true bt121.1 bt121.2.1 bt121.2.2.1 bt126.1 bt126.2.1 bt126.2.2.1)) else (polyglotlaw02_head.j0 k true bt121.1 bt121.2.1 bt121.2.2.1 bt126.1 bt126.2.1 bt126.2.2.1)))) = some r := h
  clear h
  replace H := Option.bind_eq_some_iff.mp H
  obtain ⟨⟨t121, t122, t123, t124⟩, A10, H⟩ := H
  replace H : ((dec_Parse.f (⟨#[51, 46, 53]⟩ : ByteArray)).bind fun bt126 => (if t124 = true then (if bt126.2.2.2 = true then (if (t121 || (!(t122.toList == ([50, 53] : List UInt8)) || (!(t123 == 1)))) = true then (polyglotlaw02_head.j0 k true t121 t122 t123 bt126.1 bt126.2.1 bt126.2.2.1) else ((dec_Dec_String.f bt126.1 bt126.2.1 bt126.2.2.1).bind fun t131 => (polyglotlaw02_head.j0 k (t131.toList != ([51, 46, 53] : List UInt8)) t121 t122 t123 bt126.1 bt126.2.1 bt126.2.2.1))) else (polyglotlaw02_head.j0 k true t121 t122 t123 bt126.1 bt126.2.1 bt126.2.2.1)) else (polyglotlaw02_head.j0 k true t121 t122 t123 bt126.1 bt126.2.1 bt126.2.2.1))) = some r := H
  have A1 := Aside0.mk A10
  clear A10
  replace H := Option.bind_eq_some_iff.mp H
  obtain ⟨⟨t126, t127, t128, t129⟩, A20, H⟩ := H
  replace H : (if t124 = true then (if t129 = true then (if (t121 || (!(t122.toList == ([50, 53] : List UInt8)) || (!(t123 == 1)))) = true then (polyglotlaw02_head.j0 k true t121 t122 t123 t126 t127 t128) else ((dec_Dec_String.f t126 t127 t128).bind fun t131 => (polyglotlaw02_head.j0 k (t131.toList != ([51, 46, 53] : List UInt8)) t121 t122 t123 t126 t127 t128))) else (polyglotlaw02_head.j0 k true t121 t122 t123 t126 t127 t128)) else (polyglotlaw02_head.j0 k true t121 t122 t123 t126 t127 t128)) = some r := H
  have A2 := Aside0.mk A20
  clear A20
  have HC3 := Aside0.mk H
  clear H
  go_enter Tryd.func34, Tryd.ntmps34
  go_upto_region 3 with (first | ((with_reducible refine gate_callee (f := 37) rfl ?_); refine goesL_ (some 6) rfl rfl Tryd.func37 (by kernel_rfl) rfl #[.string (⟨#[50, 46, 53]⟩ : ByteArray)] rfl (by (try simp only [List.map_toArray, List.map_cons, List.map_nil]); first | done | rfl | (simp only [List.length_drop, List.length_take]; rfl)) ?_; (with_reducible refine (dec_Parse.calls (⟨#[50, 46, 53]⟩ : ByteArray) t121 t122 t123 t124 _ A1.out).mono ?_); rintro e w4 ⟨rfl, hb⟩; refine ⟨_, rfl, ?_⟩; have n0_ := Aside0.mk (below_step (by repeat (first | (with_reducible first | exact HB.out | apply below_alloc | apply pw_below_drewN | apply below_drew1) | exact HB.out)) hb); clear HB; have HB := n0_; clear n0_; (try clear hb); (try clear hb2); (try clear hk); (try clear hi)) | ((with_reducible refine gate_dst (N := 1) rfl ?_); refine box_event ?hg (N := 1) ?hd (cs := #[.bool false, .string (⟨#[]⟩ : ByteArray), .int .i64 0]) (t := 23) ?hr ?_; (case hd => rfl); (case hg => rfl); (case hr => first | (go_simp; done) | (go_simp; rfl)); intro gb125 hg w5 hbox hb; have n0_ := Aside0.mk (below_step (by repeat (first | (with_reducible first | exact HB.out | apply below_alloc | apply pw_below_drewN | apply below_drew1) | exact HB.out)) hb); have n1_ := Aside0.mk (hbox); have n2_ := Aside0.mk ((by rw [hg]; exact (below_size (by repeat (first | (with_reducible first | exact HB.out | apply below_alloc | apply pw_below_drewN | apply below_drew1) | exact HB.out))) : w.heap.size ≤ gb125)); have n3_ := Aside0.mk ((by rw [hg]; exact (below_size (by repeat (first | (with_reducible first | exact HB.out | apply below_alloc | apply pw_below_drewN | apply below_drew1) | exact HB.out))) : w.heap.size ≤ gb125)); clear HB; have HB := n0_; have BK125 := n1_; have GW125 := n2_; have GE125 := n3_; clear n0_ n1_ n2_ n3_; clear hb hbox hg; have hcz6_0 : w5.cell? ⟨gb125, 0, none⟩ = some (.bool false) := (blk_cell BK125.out 0).trans rfl; have hcz6_1 : w5.cell? ⟨gb125, 1, none⟩ = some (.string (⟨#[]⟩ : ByteArray)) := (blk_cell BK125.out 1).trans rfl; have hcz6_2 : w5.cell? ⟨gb125, 2, none⟩ = some (.int .i64 0) := (blk_cell BK125.out 2).trans rfl; have hfz6_0 := blk_frozen BK125.out 0; have hfz6_1 := blk_frozen BK125.out 1; have hfz6_2 := blk_frozen BK125.out 2) | ((with_reducible refine gate_callee (f := 37) rfl ?_); refine goesL_ (some 10) rfl rfl Tryd.func37 (by kernel_rfl) rfl #[.string (⟨#[51, 46, 53]⟩ : ByteArray)] rfl (by (try simp only [List.map_toArray, List.map_cons, List.map_nil]); first | done | rfl | (simp only [List.length_drop, List.length_take]; rfl)) ?_; (with_reducible refine (dec_Parse.calls (⟨#[51, 46, 53]⟩ : ByteArray) t126 t127 t128 t129 _ A2.out).mono ?_); rintro e w7 ⟨rfl, hb⟩; refine ⟨_, rfl, ?_⟩; have n0_ := Aside0.mk (blk_below (g := gb125) (o := .cells #[.bool t121, .string t122, .int .i64 t123] 23 (0, 0)) (by (with_reducible repeat (first | refine blk_drewN ?_ _ | refine blk_drew ?_ | refine blk_alloc ?_ _)); refine blk_put (cs := #[.bool t121, .string t122, .int .i64 0]) ?_ 2 _ rfl; (with_reducible repeat (first | refine blk_drewN ?_ _ | refine blk_drew ?_ | refine blk_alloc ?_ _)); refine blk_put (cs := #[.bool t121, .string (⟨#[]⟩ : ByteArray), .int .i64 0]) ?_ 1 _ rfl; (with_reducible repeat (first | refine blk_drewN ?_ _ | refine blk_drew ?_ | refine blk_alloc ?_ _)); refine blk_put (cs := #[.bool false, .string (⟨#[]⟩ : ByteArray), .int .i64 0]) ?_ 0 _ rfl; (with_reducible repeat (first | refine blk_drewN ?_ _ | refine blk_drew ?_ | refine blk_alloc ?_ _)); exact BK125.out) hb); have n1_ := Aside0.mk (below_step (by repeat (first | (with_reducible first | exact HB.out | apply below_alloc | apply pw_below_drewN | apply below_drew1 | refine below_set ?_ GE125.out) | exact HB.out)) hb); clear BK125; clear HB; have BK125 := n0_; have HB := n1_; clear n0_ n1_; (try clear hb); (try clear hb2); (try clear hk); (try clear hi)) | ((with_reducible refine gate_dst (N := 3) rfl ?_); refine box_event ?hg (N := 3) ?hd (cs := #[.bool false, .string (⟨#[]⟩ : ByteArray), .int .i64 0]) (t := 23) ?hr ?_; (case hd => rfl); (case hg => rfl); (case hr => first | (go_simp; done) | (go_simp; rfl)); intro gb130 hg w8 hbox hb; have n0_ := Aside0.mk (blk_below (g := gb125) (o := .cells #[.bool t121, .string t122, .int .i64 t123] 23 (0, 0)) (by (with_reducible repeat (first | refine blk_drewN ?_ _ | refine blk_drew ?_ | refine blk_alloc ?_ _)); exact BK125.out) hb); have n1_ := Aside0.mk (below_step (by repeat (first | (with_reducible first | exact HB.out | apply below_alloc | apply pw_below_drewN | apply below_drew1 | refine below_set ?_ GE125.out) | exact HB.out)) hb); have n2_ := Aside0.mk (hbox); have n3_ := Aside0.mk ((by rw [hg]; exact (below_size (by repeat (first | (with_reducible first | exact HB.out | apply below_alloc | apply pw_below_drewN | apply below_drew1 | refine below_set ?_ GE125.out) | exact HB.out))) : w.heap.size ≤ gb130)); have n4_ := Aside0.mk ((by rw [hg]; exact (below_size (by repeat (first | (with_reducible first | exact HB.out | apply below_alloc | apply pw_below_drewN | apply below_drew1 | refine below_set ?_ GE125.out) | exact HB.out))) : w.heap.size ≤ gb130)); have n5_ := Aside0.mk ((by rw [hg]; exact Nat.ne_of_lt (blk_lt (g := gb125) (o := .cells #[.bool t121, .string t122, .int .i64 t123] 23 (0, 0)) (by (with_reducible repeat (first | refine blk_drewN ?_ _ | refine blk_drew ?_ | refine blk_alloc ?_ _)); exact BK125.out)) : gb125 ≠ gb130)); have n6_ := Aside0.mk ((by rw [hg]; exact Nat.ne_of_gt (blk_lt (g := gb125) (o := .cells #[.bool t121, .string t122, .int .i64 t123] 23 (0, 0)) (by (with_reducible repeat (first | refine blk_drewN ?_ _ | refine blk_drew ?_ | refine blk_alloc ?_ _)); exact BK125.out)) : gb130 ≠ gb125)); clear BK125; clear HB; have BK125 := n0_; have HB := n1_; have BK130 := n2_; have GW130 := n3_; have GE130 := n4_; have NB125_130 := n5_; have NB130_125 := n6_; clear n0_ n1_ n2_ n3_ n4_ n5_ n6_; clear hb hbox hg; have hnb9 := NB130_125.out; have hnc9 := NB125_130.out; have hcz10_0 : w8.cell? ⟨gb130, 0, none⟩ = some (.bool false) := (blk_cell BK130.out 0).trans rfl; have hcz10_1 : w8.cell? ⟨gb130, 1, none⟩ = some (.string (⟨#[]⟩ : ByteArray)) := (blk_cell BK130.out 1).trans rfl; have hcz10_2 : w8.cell? ⟨gb130, 2, none⟩ = some (.int .i64 0) := (blk_cell BK130.out 2).trans rfl; have hfz10_0 := blk_frozen BK130.out 0; have hfz10_1 := blk_frozen BK130.out 1; have hfz10_2 := blk_frozen BK130.out 2))
  (try simp only [Act.put, List.setIfInBounds_toArray, List.set_cons_zero, List.set_cons_succ])
  go_cut [28] (fun v28 wc => ∃ (kq : Nat) (x28_2 : Bool), v28 = .bool x28_2 ∧ Aside0 (polyglotlaw02_head.j0 kq x28_2 t121 t122 t123 t126 t127 t128 = some r) ∧ Aside0 (kq ≤ k) ∧ Aside0 (wc.heap[gb125]? = some (.cells #[.bool t121, .string t122, .int .i64 t123] 23 (0, 0))) ∧ Aside0 (wc.heap[gb130]? = some (.cells #[.bool t126, .string t127, .int .i64 t128] 23 (0, 0))) ∧ Aside0 (Below w.heap.size w wc))
  case first =>
    have H := HC3.out
    clear HC3
    by_cases c11 : t124 = true
    · subst c11
      have H1 : (if t129 = true then (if (t121 || (!(t122.toList == ([50, 53] : List UInt8)) || (!(t123 == 1)))) = true then (polyglotlaw02_head.j0 k true t121 t122 t123 t126 t127 t128) else ((dec_Dec_String.f t126 t127 t128).bind fun t131 => (polyglotlaw02_head.j0 k (t131.toList != ([51, 46, 53] : List UInt8)) t121 t122 t123 t126 t127 t128))) else (polyglotlaw02_head.j0 k true t121 t122 t123 t126 t127 t128)) = some r := by rw [if_pos rfl] at H; exact H
      clear H
      have H := H1
      clear H1
      by_cases c12 : t129 = true
      · subst c12
        have H1 : (if (t121 || (!(t122.toList == ([50, 53] : List UInt8)) || (!(t123 == 1)))) = true then (polyglotlaw02_head.j0 k true t121 t122 t123 t126 t127 t128) else ((dec_Dec_String.f t126 t127 t128).bind fun t131 => (polyglotlaw02_head.j0 k (t131.toList != ([51, 46, 53] : List UInt8)) t121 t122 t123 t126 t127 t128))) = some r := by rw [if_pos rfl] at H; exact H
        clear H
        have H := H1
        clear H1
        by_cases c13 : (t121 || (!(t122.toList == ([50, 53] : List UInt8)) || (!(t123 == 1)))) = true
        · rw [if_pos c13] at H
          have c13b0 : (t121 || (!(t122.toList == ([50, 53] : List UInt8)) || (!(t123 == 1)))) = true := c13
          clear c13
          (first | rw [c13b0] | (simp only [i64_w, i32_w]; rw [c13b0]) | skip)
          have H' := Aside0.mk H
          clear H
          have hnb14 := NB125_130.out
          have hnc14 := NB130_125.out
          have hcz15_0 : w8.cell? ⟨gb125, 0, none⟩ = some (.bool t121) := (blk_cell BK125.out 0).trans rfl
          have hcz15_1 : w8.cell? ⟨gb125, 1, none⟩ = some (.string t122) := (blk_cell BK125.out 1).trans rfl
          have hcz15_2 : w8.cell? ⟨gb125, 2, none⟩ = some (.int .i64 t123) := (blk_cell BK125.out 2).trans rfl
          have hfz15_0 := blk_frozen BK125.out 0
          have hfz15_1 := blk_frozen BK125.out 1
          have hfz15_2 := blk_frozen BK125.out 2
          go_wp2
          go_meet
          case rel => exact ⟨_, (true), (by first | rfl | (simp; done) | (simp [*]; done)), H', ⟨by first | omega | exact Nat.le_refl _⟩, ⟨by (with_reducible repeat (first | refine blk_drewN ?_ _ | refine blk_drew ?_ | refine blk_alloc ?_ _)); refine blk_far ?_ NB125_130.out _; (with_reducible repeat (first | refine blk_drewN ?_ _ | refine blk_drew ?_ | refine blk_alloc ?_ _)); refine blk_far ?_ NB125_130.out _; (with_reducible repeat (first | refine blk_drewN ?_ _ | refine blk_drew ?_ | refine blk_alloc ?_ _)); refine blk_far ?_ NB125_130.out _; (with_reducible repeat (first | refine blk_drewN ?_ _ | refine blk_drew ?_ | refine blk_alloc ?_ _)); exact BK125.out⟩, ⟨by (with_reducible repeat (first | refine blk_drewN ?_ _ | refine blk_drew ?_ | refine blk_alloc ?_ _)); refine blk_put (cs := #[.bool t126, .string t127, .int .i64 0]) ?_ 2 _ rfl; (with_reducible repeat (first | refine blk_drewN ?_ _ | refine blk_drew ?_ | refine blk_alloc ?_ _)); refine blk_put (cs := #[.bool t126, .string (⟨#[]⟩ : ByteArray), .int .i64 0]) ?_ 1 _ rfl; (with_reducible repeat (first | refine blk_drewN ?_ _ | refine blk_drew ?_ | refine blk_alloc ?_ _)); refine blk_put (cs := #[.bool false, .string (⟨#[]⟩ : ByteArray), .int .i64 0]) ?_ 0 _ rfl; (with_reducible repeat (first | refine blk_drewN ?_ _ | refine blk_drew ?_ | refine blk_alloc ?_ _)); exact BK130.out⟩, ⟨by repeat (first | (with_reducible first | exact HB.out | apply below_alloc | apply pw_below_drewN | apply below_drew1 | refine below_set ?_ GE125.out | refine below_set ?_ GE130.out) | exact HB.out)⟩⟩
        · rw [if_neg c13] at H
          have c13b0 : (t121 || (!(t122.toList == ([50, 53] : List UInt8)) || (!(t123 == 1)))) = false := by simpa using c13
          clear c13
          (first | rw [c13b0] | (simp only [i64_w, i32_w]; rw [c13b0]) | skip)
          replace H := Option.bind_eq_some_iff.mp H
          obtain ⟨t131, A160, H⟩ := H
          replace H : (polyglotlaw02_head.j0 k (t131.toList != ([51, 46, 53] : List UInt8)) t121 t122 t123 t126 t127 t128) = some r := H
          have A16 := Aside0.mk A160
          clear A160
          have H' := Aside0.mk H
          clear H
          have hnb17 := NB125_130.out
          have hnc17 := NB130_125.out
          have hcz18_0 : w8.cell? ⟨gb125, 0, none⟩ = some (.bool t121) := (blk_cell BK125.out 0).trans rfl
          have hcz18_1 : w8.cell? ⟨gb125, 1, none⟩ = some (.string t122) := (blk_cell BK125.out 1).trans rfl
          have hcz18_2 : w8.cell? ⟨gb125, 2, none⟩ = some (.int .i64 t123) := (blk_cell BK125.out 2).trans rfl
          have hfz18_0 := blk_frozen BK125.out 0
          have hfz18_1 := blk_frozen BK125.out 1
          have hfz18_2 := blk_frozen BK125.out 2
          have hcz19_0 : w8.cell? ⟨gb130, 0, none⟩ = some (.bool false) := (blk_cell BK130.out 0).trans rfl
          have hcz19_1 : w8.cell? ⟨gb130, 1, none⟩ = some (.string (⟨#[]⟩ : ByteArray)) := (blk_cell BK130.out 1).trans rfl
          have hcz19_2 : w8.cell? ⟨gb130, 2, none⟩ = some (.int .i64 0) := (blk_cell BK130.out 2).trans rfl
          have hfz19_0 := blk_frozen BK130.out 0
          have hfz19_1 := blk_frozen BK130.out 1
          have hfz19_2 := blk_frozen BK130.out 2
          go_wp2_with (first | (go_at_call 25; (with_reducible refine (dec_Dec_String.calls t126 t127 t128 t131 _ A16.out).mono ?_); rintro e w20 ⟨rfl, hb⟩; have n0_ := Aside0.mk (blk_below (g := gb125) (o := .cells #[.bool t121, .string t122, .int .i64 t123] 23 (0, 0)) (by (with_reducible repeat (first | refine blk_drewN ?_ _ | refine blk_drew ?_ | refine blk_alloc ?_ _)); refine blk_far ?_ NB125_130.out _; (with_reducible repeat (first | refine blk_drewN ?_ _ | refine blk_drew ?_ | refine blk_alloc ?_ _)); refine blk_far ?_ NB125_130.out _; (with_reducible repeat (first | refine blk_drewN ?_ _ | refine blk_drew ?_ | refine blk_alloc ?_ _)); refine blk_far ?_ NB125_130.out _; (with_reducible repeat (first | refine blk_drewN ?_ _ | refine blk_drew ?_ | refine blk_alloc ?_ _)); exact BK125.out) hb); have n1_ := Aside0.mk (blk_below (g := gb130) (o := .cells #[.bool t126, .string t127, .int .i64 t128] 23 (0, 0)) (by (with_reducible repeat (first | refine blk_drewN ?_ _ | refine blk_drew ?_ | refine blk_alloc ?_ _)); refine blk_put (cs := #[.bool t126, .string t127, .int .i64 0]) ?_ 2 _ rfl; (with_reducible repeat (first | refine blk_drewN ?_ _ | refine blk_drew ?_ | refine blk_alloc ?_ _)); refine blk_put (cs := #[.bool t126, .string (⟨#[]⟩ : ByteArray), .int .i64 0]) ?_ 1 _ rfl; (with_reducible repeat (first | refine blk_drewN ?_ _ | refine blk_drew ?_ | refine blk_alloc ?_ _)); refine blk_put (cs := #[.bool false, .string (⟨#[]⟩ : ByteArray), .int .i64 0]) ?_ 0 _ rfl; (with_reducible repeat (first | refine blk_drewN ?_ _ | refine blk_drew ?_ | refine blk_alloc ?_ _)); exact BK130.out) hb); have n2_ := Aside0.mk (below_step (by repeat (first | (with_reducible first | exact HB.out | apply below_alloc | apply pw_below_drewN | apply below_drew1 | refine below_set ?_ GE125.out | refine below_set ?_ GE130.out) | exact HB.out)) hb); clear BK125; clear BK130; clear HB; have BK125 := n0_; have BK130 := n1_; have HB := n2_; clear n0_ n1_ n2_; (try clear hb); (try clear hb2); (try clear hk); (try clear hi)))
          go_meet
          case rel => exact ⟨_, ((t131.toList != ([51, 46, 53] : List UInt8))), (by first | rfl | (simp; done) | (simp [*]; done)), H', ⟨by first | omega | exact Nat.le_refl _⟩, ⟨by (with_reducible repeat (first | refine blk_drewN ?_ _ | refine blk_drew ?_ | refine blk_alloc ?_ _)); exact BK125.out⟩, ⟨by (with_reducible repeat (first | refine blk_drewN ?_ _ | refine blk_drew ?_ | refine blk_alloc ?_ _)); exact BK130.out⟩, ⟨by repeat (first | (with_reducible first | exact HB.out | apply below_alloc | apply pw_below_drewN | apply below_drew1 | refine below_set ?_ GE125.out | refine below_set ?_ GE130.out) | exact HB.out)⟩⟩
      · replace c12 := Bool.eq_false_iff.mpr c12
        subst c12
        have H1 : (polyglotlaw02_head.j0 k true t121 t122 t123 t126 t127 t128) = some r := by rw [if_neg (show ¬ (false = true) by decide)] at H; exact H
        clear H
        have H := H1
        clear H1
        have H' := Aside0.mk H
        clear H
        go_wp2
        go_meet
        case rel => exact ⟨_, (true), (by first | rfl | (simp; done) | (simp [*]; done)), H', ⟨by first | omega | exact Nat.le_refl _⟩, ⟨by (with_reducible repeat (first | refine blk_drewN ?_ _ | refine blk_drew ?_ | refine blk_alloc ?_ _)); refine blk_far ?_ NB125_130.out _; (with_reducible repeat (first | refine blk_drewN ?_ _ | refine blk_drew ?_ | refine blk_alloc ?_ _)); refine blk_far ?_ NB125_130.out _; (with_reducible repeat (first | refine blk_drewN ?_ _ | refine blk_drew ?_ | refine blk_alloc ?_ _)); refine blk_far ?_ NB125_130.out _; (with_reducible repeat (first | refine blk_drewN ?_ _ | refine blk_drew ?_ | refine blk_alloc ?_ _)); exact BK125.out⟩, ⟨by (with_reducible repeat (first | refine blk_drewN ?_ _ | refine blk_drew ?_ | refine blk_alloc ?_ _)); refine blk_put (cs := #[.bool t126, .string t127, .int .i64 0]) ?_ 2 _ rfl; (with_reducible repeat (first | refine blk_drewN ?_ _ | refine blk_drew ?_ | refine blk_alloc ?_ _)); refine blk_put (cs := #[.bool t126, .string (⟨#[]⟩ : ByteArray), .int .i64 0]) ?_ 1 _ rfl; (with_reducible repeat (first | refine blk_drewN ?_ _ | refine blk_drew ?_ | refine blk_alloc ?_ _)); refine blk_put (cs := #[.bool false, .string (⟨#[]⟩ : ByteArray), .int .i64 0]) ?_ 0 _ rfl; (with_reducible repeat (first | refine blk_drewN ?_ _ | refine blk_drew ?_ | refine blk_alloc ?_ _)); exact BK130.out⟩, ⟨by repeat (first | (with_reducible first | exact HB.out | apply below_alloc | apply pw_below_drewN | apply below_drew1 | refine below_set ?_ GE125.out | refine below_set ?_ GE130.out) | exact HB.out)⟩⟩
    · replace c11 := Bool.eq_false_iff.mpr c11
      subst c11
      have H1 : (polyglotlaw02_head.j0 k true t121 t122 t123 t126 t127 t128) = some r := by rw [if_neg (show ¬ (false = true) by decide)] at H; exact H
      clear H
      have H := H1
      clear H1
      have H' := Aside0.mk H
      clear H
      go_wp2
      go_meet
      case rel => exact ⟨_, (true), (by first | rfl | (simp; done) | (simp [*]; done)), H', ⟨by first | omega | exact Nat.le_refl _⟩, ⟨by (with_reducible repeat (first | refine blk_drewN ?_ _ | refine blk_drew ?_ | refine blk_alloc ?_ _)); refine blk_far ?_ NB125_130.out _; (with_reducible repeat (first | refine blk_drewN ?_ _ | refine blk_drew ?_ | refine blk_alloc ?_ _)); refine blk_far ?_ NB125_130.out _; (with_reducible repeat (first | refine blk_drewN ?_ _ | refine blk_drew ?_ | refine blk_alloc ?_ _)); refine blk_far ?_ NB125_130.out _; (with_reducible repeat (first | refine blk_drewN ?_ _ | refine blk_drew ?_ | refine blk_alloc ?_ _)); exact BK125.out⟩, ⟨by (with_reducible repeat (first | refine blk_drewN ?_ _ | refine blk_drew ?_ | refine blk_alloc ?_ _)); refine blk_put (cs := #[.bool t126, .string t127, .int .i64 0]) ?_ 2 _ rfl; (with_reducible repeat (first | refine blk_drewN ?_ _ | refine blk_drew ?_ | refine blk_alloc ?_ _)); refine blk_put (cs := #[.bool t126, .string (⟨#[]⟩ : ByteArray), .int .i64 0]) ?_ 1 _ rfl; (with_reducible repeat (first | refine blk_drewN ?_ _ | refine blk_drew ?_ | refine blk_alloc ?_ _)); refine blk_put (cs := #[.bool false, .string (⟨#[]⟩ : ByteArray), .int .i64 0]) ?_ 0 _ rfl; (with_reducible repeat (first | refine blk_drewN ?_ _ | refine blk_drew ?_ | refine blk_alloc ?_ _)); exact BK130.out⟩, ⟨by repeat (first | (with_reducible first | exact HB.out | apply below_alloc | apply pw_below_drewN | apply below_drew1 | refine below_set ?_ GE125.out | refine below_set ?_ GE130.out) | exact HB.out)⟩⟩
  case rest =>
    clear HC3
    try clear c1
    try clear p2
    try clear c3
    try clear c9
    try clear c11
    try clear c12
    try clear c13
    try clear c13b0
    try clear c14
    try clear c17
    try clear hcz10_0
    try clear hcz10_1
    try clear hcz10_2
    try clear hcz15_0
    try clear hcz15_1
    try clear hcz15_2
    try clear hcz18_0
    try clear hcz18_1
    try clear hcz18_2
    try clear hcz19_0
    try clear hcz19_1
    try clear hcz19_2
    try clear hcz6_0
    try clear hcz6_1
    try clear hcz6_2
    try clear hfz10_0
    try clear hfz10_1
    try clear hfz10_2
    try clear hfz15_0
    try clear hfz15_1
    try clear hfz15_2
    try clear hfz18_0
    try clear hfz18_1
    try clear hfz18_2
    try clear hfz19_0
    try clear hfz19_1
    try clear hfz19_2
    try clear hfz6_0
    try clear hfz6_1
    try clear hfz6_2
    obtain ⟨kq, x28_2, rfl, HA, HJ2, BK125, BK130, HB⟩ := hcut
    cases kq with
    | zero => exact absurd HA.out (by simp [polyglotlaw02_head.j0])
    | succ kj2 =>
      have H := HA.out
      clear HA
      simp only [polyglotlaw02_head.j0] at H
      by_cases c21 : x28_2 = true
      · subst c21
        have H1 : (some false) = some r := by rw [if_pos rfl] at H; exact H
        clear H
        have H := H1
        clear H1
        obtain rfl := Option.some.inj H
        go_wp2
        go_ret
        exact ⟨by first | rfl | (simp [errW_none, errW_some] <;> rfl) | (simp [*, errW_none, errW_some] <;> rfl), by repeat (first | (with_reducible first | exact HB.out | apply below_alloc | apply pw_below_drewN | apply below_drew1 | refine below_set ?_ GE125.out | refine below_set ?_ GE130.out) | exact HB.out)⟩
      · replace c21 := Bool.eq_false_iff.mpr c21
        subst c21
        have H1 : ((dec_Dec_Round.f t121 t122 t123 0).bind fun bt132 => ((dec_Dec_String.f bt132.1 bt132.2.1 bt132.2.2).bind fun t135 => (if t135.toList = ([50] : List UInt8) then ((dec_Dec_Round.f t126 t127 t128 0).bind fun bt136 => ((dec_Dec_String.f bt136.1 bt136.2.1 bt136.2.2).bind fun t139 => (if t139.toList = ([52] : List UInt8) then ((dec_Group.f (⟨#[49, 50, 51, 52, 53, 54, 55]⟩ : ByteArray) (⟨#[32]⟩ : ByteArray)).bind fun t140 => (some (t140.toList == ([49, 32, 50, 51, 52, 32, 53, 54, 55] : List UInt8)))) else (some false)))) else (some false)))) = some r := by rw [if_neg (show ¬ (false = true) by decide)] at H; exact H
        clear H
        have H := H1
        clear H1
        replace H := Option.bind_eq_some_iff.mp H
        obtain ⟨⟨t132, t133, t134⟩, A220, H⟩ := H
        replace H : ((dec_Dec_String.f t132 t133 t134).bind fun t135 => (if t135.toList = ([50] : List UInt8) then ((dec_Dec_Round.f t126 t127 t128 0).bind fun bt136 => ((dec_Dec_String.f bt136.1 bt136.2.1 bt136.2.2).bind fun t139 => (if t139.toList = ([52] : List UInt8) then ((dec_Group.f (⟨#[49, 50, 51, 52, 53, 54, 55]⟩ : ByteArray) (⟨#[32]⟩ : ByteArray)).bind fun t140 => (some (t140.toList == ([49, 32, 50, 51, 52, 32, 53, 54, 55] : List UInt8)))) else (some false)))) else (some false))) = some r := H
        have A22 := Aside0.mk A220
        clear A220
        replace H := Option.bind_eq_some_iff.mp H
        obtain ⟨t135, A230, H⟩ := H
        replace H : (if t135.toList = ([50] : List UInt8) then ((dec_Dec_Round.f t126 t127 t128 0).bind fun bt136 => ((dec_Dec_String.f bt136.1 bt136.2.1 bt136.2.2).bind fun t139 => (if t139.toList = ([52] : List UInt8) then ((dec_Group.f (⟨#[49, 50, 51, 52, 53, 54, 55]⟩ : ByteArray) (⟨#[32]⟩ : ByteArray)).bind fun t140 => (some (t140.toList == ([49, 32, 50, 51, 52, 32, 53, 54, 55] : List UInt8)))) else (some false)))) else (some false)) = some r := H
        have A23 := Aside0.mk A230
        clear A230
        by_cases c24 : t135.toList = ([50] : List UInt8)
        · rw [if_pos c24] at H
          have c24b0 : (t135.toList == ([50] : List UInt8)) = true := beq_iff_eq.mpr c24
          have c24b1 : (t135.toList != ([50] : List UInt8)) = false := bne_eq_false_iff_eq.mpr c24
          clear c24
          replace H := Option.bind_eq_some_iff.mp H
          obtain ⟨⟨t136, t137, t138⟩, A250, H⟩ := H
          replace H : ((dec_Dec_String.f t136 t137 t138).bind fun t139 => (if t139.toList = ([52] : List UInt8) then ((dec_Group.f (⟨#[49, 50, 51, 52, 53, 54, 55]⟩ : ByteArray) (⟨#[32]⟩ : ByteArray)).bind fun t140 => (some (t140.toList == ([49, 32, 50, 51, 52, 32, 53, 54, 55] : List UInt8)))) else (some false))) = some r := H
          have A25 := Aside0.mk A250
          clear A250
          replace H := Option.bind_eq_some_iff.mp H
          obtain ⟨t139, A260, H⟩ := H
          replace H : (if t139.toList = ([52] : List UInt8) then ((dec_Group.f (⟨#[49, 50, 51, 52, 53, 54, 55]⟩ : ByteArray) (⟨#[32]⟩ : ByteArray)).bind fun t140 => (some (t140.toList == ([49, 32, 50, 51, 52, 32, 53, 54, 55] : List UInt8)))) else (some false)) = some r := H
          have A26 := Aside0.mk A260
          clear A260
          by_cases c27 : t139.toList = ([52] : List UInt8)
          · rw [if_pos c27] at H
            have c27b0 : (t139.toList == ([52] : List UInt8)) = true := beq_iff_eq.mpr c27
            have c27b1 : (t139.toList != ([52] : List UInt8)) = false := bne_eq_false_iff_eq.mpr c27
            clear c27
            replace H := Option.bind_eq_some_iff.mp H
            obtain ⟨t140, A280, H⟩ := H
            replace H : (some (t140.toList == ([49, 32, 50, 51, 52, 32, 53, 54, 55] : List UInt8))) = some r := H
            have A28 := Aside0.mk A280
            clear A280
            obtain rfl := Option.some.inj H
            have hnb29 := NB125_130.out
            have hnc29 := NB130_125.out
            have hcz30_0 : wc.cell? ⟨gb125, 0, none⟩ = some (.bool t121) := (blk_cell BK125.out 0).trans rfl
            have hcz30_1 : wc.cell? ⟨gb125, 1, none⟩ = some (.string t122) := (blk_cell BK125.out 1).trans rfl
            have hcz30_2 : wc.cell? ⟨gb125, 2, none⟩ = some (.int .i64 t123) := (blk_cell BK125.out 2).trans rfl
            have hfz30_0 := blk_frozen BK125.out 0
            have hfz30_1 := blk_frozen BK125.out 1
            have hfz30_2 := blk_frozen BK125.out 2
            go_wp2_with (first | ((with_reducible refine gate_callee (f := 40) rfl ?_); refine goesL_ (some 30) rfl rfl Tryd.func40 (by kernel_rfl) rfl #[.agg #[.bool t121, .string t122, .int .i64 t123], .int .i64 0] rfl (by (try simp only [List.map_toArray, List.map_cons, List.map_nil]); first | done | rfl | (simp only [List.length_drop, List.length_take]; rfl)) ?_; (with_reducible refine (dec_Dec_Round.calls t121 t122 t123 0 t132 t133 t134 _ A22.out).mono ?_); rintro e w31 ⟨rfl, hb⟩; refine ⟨_, rfl, ?_⟩; have n0_ := Aside0.mk (blk_below (g := gb125) (o := .cells #[.bool t121, .string t122, .int .i64 t123] 23 (0, 0)) (by (with_reducible repeat (first | refine blk_drewN ?_ _ | refine blk_drew ?_ | refine blk_alloc ?_ _)); exact BK125.out) hb); have n1_ := Aside0.mk (blk_below (g := gb130) (o := .cells #[.bool t126, .string t127, .int .i64 t128] 23 (0, 0)) (by (with_reducible repeat (first | refine blk_drewN ?_ _ | refine blk_drew ?_ | refine blk_alloc ?_ _)); exact BK130.out) hb); have n2_ := Aside0.mk (below_step (by repeat (first | (with_reducible first | exact HB.out | apply below_alloc | apply pw_below_drewN | apply below_drew1 | refine below_set ?_ GE125.out | refine below_set ?_ GE130.out) | exact HB.out)) hb); clear BK125; clear BK130; clear HB; have BK125 := n0_; have BK130 := n1_; have HB := n2_; clear n0_ n1_ n2_; (try clear hb); (try clear hb2); (try clear hk); (try clear hi)) | ((with_reducible refine gate_callee (f := 25) rfl ?_); refine goesL_ (some 31) rfl rfl Tryd.func25 (by kernel_rfl) rfl #[.agg #[.bool t132, .string t133, .int .i64 t134]] rfl (by (try simp only [List.map_toArray, List.map_cons, List.map_nil]); first | done | rfl | (simp only [List.length_drop, List.length_take]; rfl)) ?_; (with_reducible refine (dec_Dec_String.calls t132 t133 t134 t135 _ A23.out).mono ?_); rintro e w32 ⟨rfl, hb⟩; refine ⟨_, rfl, ?_⟩; have n0_ := Aside0.mk (blk_below (g := gb125) (o := .cells #[.bool t121, .string t122, .int .i64 t123] 23 (0, 0)) (by (with_reducible repeat (first | refine blk_drewN ?_ _ | refine blk_drew ?_ | refine blk_alloc ?_ _)); exact BK125.out) hb); have n1_ := Aside0.mk (blk_below (g := gb130) (o := .cells #[.bool t126, .string t127, .int .i64 t128] 23 (0, 0)) (by (with_reducible repeat (first | refine blk_drewN ?_ _ | refine blk_drew ?_ | refine blk_alloc ?_ _)); exact BK130.out) hb); have n2_ := Aside0.mk (below_step (by repeat (first | (with_reducible first | exact HB.out | apply below_alloc | apply pw_below_drewN | apply below_drew1 | refine below_set ?_ GE125.out | refine below_set ?_ GE130.out) | exact HB.out)) hb); clear BK125; clear BK130; clear HB; have BK125 := n0_; have BK130 := n1_; have HB := n2_; clear n0_ n1_ n2_; (try clear hb); (try clear hb2); (try clear hk); (try clear hi); have hcz33_0 : w32.cell? ⟨gb130, 0, none⟩ = some (.bool t126) := (blk_cell BK130.out 0).trans rfl; have hcz33_1 : w32.cell? ⟨gb130, 1, none⟩ = some (.string t127) := (blk_cell BK130.out 1).trans rfl; have hcz33_2 : w32.cell? ⟨gb130, 2, none⟩ = some (.int .i64 t128) := (blk_cell BK130.out 2).trans rfl; have hfz33_0 := blk_frozen BK130.out 0; have hfz33_1 := blk_frozen BK130.out 1; have hfz33_2 := blk_frozen BK130.out 2) | (go_at_call 40; (with_reducible refine (dec_Dec_Round.calls t126 t127 t128 0 t136 t137 t138 _ A25.out).mono ?_); rintro e w34 ⟨rfl, hb⟩; have n0_ := Aside0.mk (blk_below (g := gb125) (o := .cells #[.bool t121, .string t122, .int .i64 t123] 23 (0, 0)) (by (with_reducible repeat (first | refine blk_drewN ?_ _ | refine blk_drew ?_ | refine blk_alloc ?_ _)); exact BK125.out) hb); have n1_ := Aside0.mk (blk_below (g := gb130) (o := .cells #[.bool t126, .string t127, .int .i64 t128] 23 (0, 0)) (by (with_reducible repeat (first | refine blk_drewN ?_ _ | refine blk_drew ?_ | refine blk_alloc ?_ _)); exact BK130.out) hb); have n2_ := Aside0.mk (below_step (by repeat (first | (with_reducible first | exact HB.out | apply below_alloc | apply pw_below_drewN | apply below_drew1 | refine below_set ?_ GE125.out | refine below_set ?_ GE130.out) | exact HB.out)) hb); clear BK125; clear BK130; clear HB; have BK125 := n0_; have BK130 := n1_; have HB := n2_; clear n0_ n1_ n2_; (try clear hb); (try clear hb2); (try clear hk); (try clear hi)) | (go_at_call 25; (with_reducible refine (dec_Dec_String.calls t136 t137 t138 t139 _ A26.out).mono ?_); rintro e w35 ⟨rfl, hb⟩; have n0_ := Aside0.mk (blk_below (g := gb125) (o := .cells #[.bool t121, .string t122, .int .i64 t123] 23 (0, 0)) (by (with_reducible repeat (first | refine blk_drewN ?_ _ | refine blk_drew ?_ | refine blk_alloc ?_ _)); exact BK125.out) hb); have n1_ := Aside0.mk (blk_below (g := gb130) (o := .cells #[.bool t126, .string t127, .int .i64 t128] 23 (0, 0)) (by (with_reducible repeat (first | refine blk_drewN ?_ _ | refine blk_drew ?_ | refine blk_alloc ?_ _)); exact BK130.out) hb); have n2_ := Aside0.mk (below_step (by repeat (first | (with_reducible first | exact HB.out | apply below_alloc | apply pw_below_drewN | apply below_drew1 | refine below_set ?_ GE125.out | refine below_set ?_ GE130.out) | exact HB.out)) hb); clear BK125; clear BK130; clear HB; have BK125 := n0_; have BK130 := n1_; have HB := n2_; clear n0_ n1_ n2_; (try clear hb); (try clear hb2); (try clear hk); (try clear hi)) | (go_at_call 36; (with_reducible refine (dec_Group.calls (⟨#[49, 50, 51, 52, 53, 54, 55]⟩ : ByteArray) (⟨#[32]⟩ : ByteArray) t140 _ A28.out).mono ?_); rintro e w36 ⟨rfl, hb⟩; have n0_ := Aside0.mk (blk_below (g := gb125) (o := .cells #[.bool t121, .string t122, .int .i64 t123] 23 (0, 0)) (by (with_reducible repeat (first | refine blk_drewN ?_ _ | refine blk_drew ?_ | refine blk_alloc ?_ _)); exact BK125.out) hb); have n1_ := Aside0.mk (blk_below (g := gb130) (o := .cells #[.bool t126, .string t127, .int .i64 t128] 23 (0, 0)) (by (with_reducible repeat (first | refine blk_drewN ?_ _ | refine blk_drew ?_ | refine blk_alloc ?_ _)); exact BK130.out) hb); have n2_ := Aside0.mk (below_step (by repeat (first | (with_reducible first | exact HB.out | apply below_alloc | apply pw_below_drewN | apply below_drew1 | refine below_set ?_ GE125.out | refine below_set ?_ GE130.out) | exact HB.out)) hb); clear BK125; clear BK130; clear HB; have BK125 := n0_; have BK130 := n1_; have HB := n2_; clear n0_ n1_ n2_; (try clear hb); (try clear hb2); (try clear hk); (try clear hi)))
            go_ret
            exact ⟨by first | rfl | (simp [errW_none, errW_some] <;> rfl) | (simp [*, errW_none, errW_some] <;> rfl), by repeat (first | (with_reducible first | exact HB.out | apply below_alloc | apply pw_below_drewN | apply below_drew1 | refine below_set ?_ GE125.out | refine below_set ?_ GE130.out) | exact HB.out)⟩
          · rw [if_neg c27] at H
            have c27b0 : (t139.toList == ([52] : List UInt8)) = false := beq_eq_false_iff_ne.mpr c27
            have c27b1 : (t139.toList != ([52] : List UInt8)) = true := bne_iff_ne.mpr c27
            obtain rfl := Option.some.inj H
            have hnb37 := NB125_130.out
            have hnc37 := NB130_125.out
            have hcz38_0 : wc.cell? ⟨gb125, 0, none⟩ = some (.bool t121) := (blk_cell BK125.out 0).trans rfl
            have hcz38_1 : wc.cell? ⟨gb125, 1, none⟩ = some (.string t122) := (blk_cell BK125.out 1).trans rfl
            have hcz38_2 : wc.cell? ⟨gb125, 2, none⟩ = some (.int .i64 t123) := (blk_cell BK125.out 2).trans rfl
            have hfz38_0 := blk_frozen BK125.out 0
            have hfz38_1 := blk_frozen BK125.out 1
            have hfz38_2 := blk_frozen BK125.out 2
            go_wp2_with (first | ((with_reducible refine gate_callee (f := 40) rfl ?_); refine goesL_ (some 30) rfl rfl Tryd.func40 (by kernel_rfl) rfl #[.agg #[.bool t121, .string t122, .int .i64 t123], .int .i64 0] rfl (by (try simp only [List.map_toArray, List.map_cons, List.map_nil]); first | done | rfl | (simp only [List.length_drop, List.length_take]; rfl)) ?_; (with_reducible refine (dec_Dec_Round.calls t121 t122 t123 0 t132 t133 t134 _ A22.out).mono ?_); rintro e w39 ⟨rfl, hb⟩; refine ⟨_, rfl, ?_⟩; have n0_ := Aside0.mk (blk_below (g := gb125) (o := .cells #[.bool t121, .string t122, .int .i64 t123] 23 (0, 0)) (by (with_reducible repeat (first | refine blk_drewN ?_ _ | refine blk_drew ?_ | refine blk_alloc ?_ _)); exact BK125.out) hb); have n1_ := Aside0.mk (blk_below (g := gb130) (o := .cells #[.bool t126, .string t127, .int .i64 t128] 23 (0, 0)) (by (with_reducible repeat (first | refine blk_drewN ?_ _ | refine blk_drew ?_ | refine blk_alloc ?_ _)); exact BK130.out) hb); have n2_ := Aside0.mk (below_step (by repeat (first | (with_reducible first | exact HB.out | apply below_alloc | apply pw_below_drewN | apply below_drew1 | refine below_set ?_ GE125.out | refine below_set ?_ GE130.out) | exact HB.out)) hb); clear BK125; clear BK130; clear HB; have BK125 := n0_; have BK130 := n1_; have HB := n2_; clear n0_ n1_ n2_; (try clear hb); (try clear hb2); (try clear hk); (try clear hi)) | ((with_reducible refine gate_callee (f := 25) rfl ?_); refine goesL_ (some 31) rfl rfl Tryd.func25 (by kernel_rfl) rfl #[.agg #[.bool t132, .string t133, .int .i64 t134]] rfl (by (try simp only [List.map_toArray, List.map_cons, List.map_nil]); first | done | rfl | (simp only [List.length_drop, List.length_take]; rfl)) ?_; (with_reducible refine (dec_Dec_String.calls t132 t133 t134 t135 _ A23.out).mono ?_); rintro e w40 ⟨rfl, hb⟩; refine ⟨_, rfl, ?_⟩; have n0_ := Aside0.mk (blk_below (g := gb125) (o := .cells #[.bool t121, .string t122, .int .i64 t123] 23 (0, 0)) (by (with_reducible repeat (first | refine blk_drewN ?_ _ | refine blk_drew ?_ | refine blk_alloc ?_ _)); exact BK125.out) hb); have n1_ := Aside0.mk (blk_below (g := gb130) (o := .cells #[.bool t126, .string t127, .int .i64 t128] 23 (0, 0)) (by (with_reducible repeat (first | refine blk_drewN ?_ _ | refine blk_drew ?_ | refine blk_alloc ?_ _)); exact BK130.out) hb); have n2_ := Aside0.mk (below_step (by repeat (first | (with_reducible first | exact HB.out | apply below_alloc | apply pw_below_drewN | apply below_drew1 | refine below_set ?_ GE125.out | refine below_set ?_ GE130.out) | exact HB.out)) hb); clear BK125; clear BK130; clear HB; have BK125 := n0_; have BK130 := n1_; have HB := n2_; clear n0_ n1_ n2_; (try clear hb); (try clear hb2); (try clear hk); (try clear hi); have hcz41_0 : w40.cell? ⟨gb130, 0, none⟩ = some (.bool t126) := (blk_cell BK130.out 0).trans rfl; have hcz41_1 : w40.cell? ⟨gb130, 1, none⟩ = some (.string t127) := (blk_cell BK130.out 1).trans rfl; have hcz41_2 : w40.cell? ⟨gb130, 2, none⟩ = some (.int .i64 t128) := (blk_cell BK130.out 2).trans rfl; have hfz41_0 := blk_frozen BK130.out 0; have hfz41_1 := blk_frozen BK130.out 1; have hfz41_2 := blk_frozen BK130.out 2) | (go_at_call 40; (with_reducible refine (dec_Dec_Round.calls t126 t127 t128 0 t136 t137 t138 _ A25.out).mono ?_); rintro e w42 ⟨rfl, hb⟩; have n0_ := Aside0.mk (blk_below (g := gb125) (o := .cells #[.bool t121, .string t122, .int .i64 t123] 23 (0, 0)) (by (with_reducible repeat (first | refine blk_drewN ?_ _ | refine blk_drew ?_ | refine blk_alloc ?_ _)); exact BK125.out) hb); have n1_ := Aside0.mk (blk_below (g := gb130) (o := .cells #[.bool t126, .string t127, .int .i64 t128] 23 (0, 0)) (by (with_reducible repeat (first | refine blk_drewN ?_ _ | refine blk_drew ?_ | refine blk_alloc ?_ _)); exact BK130.out) hb); have n2_ := Aside0.mk (below_step (by repeat (first | (with_reducible first | exact HB.out | apply below_alloc | apply pw_below_drewN | apply below_drew1 | refine below_set ?_ GE125.out | refine below_set ?_ GE130.out) | exact HB.out)) hb); clear BK125; clear BK130; clear HB; have BK125 := n0_; have BK130 := n1_; have HB := n2_; clear n0_ n1_ n2_; (try clear hb); (try clear hb2); (try clear hk); (try clear hi)) | (go_at_call 25; (with_reducible refine (dec_Dec_String.calls t136 t137 t138 t139 _ A26.out).mono ?_); rintro e w43 ⟨rfl, hb⟩; have n0_ := Aside0.mk (blk_below (g := gb125) (o := .cells #[.bool t121, .string t122, .int .i64 t123] 23 (0, 0)) (by (with_reducible repeat (first | refine blk_drewN ?_ _ | refine blk_drew ?_ | refine blk_alloc ?_ _)); exact BK125.out) hb); have n1_ := Aside0.mk (blk_below (g := gb130) (o := .cells #[.bool t126, .string t127, .int .i64 t128] 23 (0, 0)) (by (with_reducible repeat (first | refine blk_drewN ?_ _ | refine blk_drew ?_ | refine blk_alloc ?_ _)); exact BK130.out) hb); have n2_ := Aside0.mk (below_step (by repeat (first | (with_reducible first | exact HB.out | apply below_alloc | apply pw_below_drewN | apply below_drew1 | refine below_set ?_ GE125.out | refine below_set ?_ GE130.out) | exact HB.out)) hb); clear BK125; clear BK130; clear HB; have BK125 := n0_; have BK130 := n1_; have HB := n2_; clear n0_ n1_ n2_; (try clear hb); (try clear hb2); (try clear hk); (try clear hi)))
            go_ret
            exact ⟨by first | rfl | (simp [errW_none, errW_some] <;> rfl) | (simp [*, errW_none, errW_some] <;> rfl), by repeat (first | (with_reducible first | exact HB.out | apply below_alloc | apply pw_below_drewN | apply below_drew1 | refine below_set ?_ GE125.out | refine below_set ?_ GE130.out) | exact HB.out)⟩
        · rw [if_neg c24] at H
          have c24b0 : (t135.toList == ([50] : List UInt8)) = false := beq_eq_false_iff_ne.mpr c24
          have c24b1 : (t135.toList != ([50] : List UInt8)) = true := bne_iff_ne.mpr c24
          obtain rfl := Option.some.inj H
          have hnb44 := NB125_130.out
          have hnc44 := NB130_125.out
          have hcz45_0 : wc.cell? ⟨gb125, 0, none⟩ = some (.bool t121) := (blk_cell BK125.out 0).trans rfl
          have hcz45_1 : wc.cell? ⟨gb125, 1, none⟩ = some (.string t122) := (blk_cell BK125.out 1).trans rfl
          have hcz45_2 : wc.cell? ⟨gb125, 2, none⟩ = some (.int .i64 t123) := (blk_cell BK125.out 2).trans rfl
          have hfz45_0 := blk_frozen BK125.out 0
          have hfz45_1 := blk_frozen BK125.out 1
          have hfz45_2 := blk_frozen BK125.out 2
          go_wp2_with (first | ((with_reducible refine gate_callee (f := 40) rfl ?_); refine goesL_ (some 30) rfl rfl Tryd.func40 (by kernel_rfl) rfl #[.agg #[.bool t121, .string t122, .int .i64 t123], .int .i64 0] rfl (by (try simp only [List.map_toArray, List.map_cons, List.map_nil]); first | done | rfl | (simp only [List.length_drop, List.length_take]; rfl)) ?_; (with_reducible refine (dec_Dec_Round.calls t121 t122 t123 0 t132 t133 t134 _ A22.out).mono ?_); rintro e w46 ⟨rfl, hb⟩; refine ⟨_, rfl, ?_⟩; have n0_ := Aside0.mk (blk_below (g := gb125) (o := .cells #[.bool t121, .string t122, .int .i64 t123] 23 (0, 0)) (by (with_reducible repeat (first | refine blk_drewN ?_ _ | refine blk_drew ?_ | refine blk_alloc ?_ _)); exact BK125.out) hb); have n1_ := Aside0.mk (blk_below (g := gb130) (o := .cells #[.bool t126, .string t127, .int .i64 t128] 23 (0, 0)) (by (with_reducible repeat (first | refine blk_drewN ?_ _ | refine blk_drew ?_ | refine blk_alloc ?_ _)); exact BK130.out) hb); have n2_ := Aside0.mk (below_step (by repeat (first | (with_reducible first | exact HB.out | apply below_alloc | apply pw_below_drewN | apply below_drew1 | refine below_set ?_ GE125.out | refine below_set ?_ GE130.out) | exact HB.out)) hb); clear BK125; clear BK130; clear HB; have BK125 := n0_; have BK130 := n1_; have HB := n2_; clear n0_ n1_ n2_; (try clear hb); (try clear hb2); (try clear hk); (try clear hi)) | ((with_reducible refine gate_callee (f := 25) rfl ?_); refine goesL_ (some 31) rfl rfl Tryd.func25 (by kernel_rfl) rfl #[.agg #[.bool t132, .string t133, .int .i64 t134]] rfl (by (try simp only [List.map_toArray, List.map_cons, List.map_nil]); first | done | rfl | (simp only [List.length_drop, List.length_take]; rfl)) ?_; (with_reducible refine (dec_Dec_String.calls t132 t133 t134 t135 _ A23.out).mono ?_); rintro e w47 ⟨rfl, hb⟩; refine ⟨_, rfl, ?_⟩; have n0_ := Aside0.mk (blk_below (g := gb125) (o := .cells #[.bool t121, .string t122, .int .i64 t123] 23 (0, 0)) (by (with_reducible repeat (first | refine blk_drewN ?_ _ | refine blk_drew ?_ | refine blk_alloc ?_ _)); exact BK125.out) hb); have n1_ := Aside0.mk (blk_below (g := gb130) (o := .cells #[.bool t126, .string t127, .int .i64 t128] 23 (0, 0)) (by (with_reducible repeat (first | refine blk_drewN ?_ _ | refine blk_drew ?_ | refine blk_alloc ?_ _)); exact BK130.out) hb); have n2_ := Aside0.mk (below_step (by repeat (first | (with_reducible first | exact HB.out | apply below_alloc | apply pw_below_drewN | apply below_drew1 | refine below_set ?_ GE125.out | refine below_set ?_ GE130.out) | exact HB.out)) hb); clear BK125; clear BK130; clear HB; have BK125 := n0_; have BK130 := n1_; have HB := n2_; clear n0_ n1_ n2_; (try clear hb); (try clear hb2); (try clear hk); (try clear hi)))
          go_ret
          exact ⟨by first | rfl | (simp [errW_none, errW_some] <;> rfl) | (simp [*, errW_none, errW_some] <;> rfl), by repeat (first | (with_reducible first | exact HB.out | apply below_alloc | apply pw_below_drewN | apply below_drew1 | refine below_set ?_ GE125.out | refine below_set ?_ GE130.out) | exact HB.out)⟩
def polyglotlaw02_digit.f (a0 : Int) : Option (Bool) := if a0 ≥ 48 then (some (decide (a0 ≤ 57))) else (some false)
set_option maxHeartbeats 8000000 in
set_option maxRecDepth 100000 in
theorem polyglotlaw02_digit.calls (a0 : Int) (r : Bool) (w : World) (h : polyglotlaw02_digit.f a0 = some r) :
    Calls Tryd.prog 35 #[.int .u8 a0] w fun e w' => e = .returned (.bool r) ∧ Drawn0 w w' := by
  have H : (if a0 ≥ 48 then (some (decide (a0 ≤ 57))) else (some false)) = some r := h
  clear h
  by_cases c2 : a0 ≥ 48
  · rw [if_pos c2] at H
    have c2b0 : decide (48 ≤ a0) = true := decide_eq_true c2
    clear c2
    obtain rfl := Option.some.inj H
    go_enter Tryd.func35, Tryd.ntmps35
    go_wp2
    go_ret
    exact ⟨by first | rfl | (simp; done) | (simp [*]; done), by repeat (first | exact Drawn0.refl _ | apply Drawn0.step)⟩
  · rw [if_neg c2] at H
    have c2b0 : decide (48 ≤ a0) = false := decide_eq_false c2
    clear c2
    obtain rfl := Option.some.inj H
    go_enter Tryd.func35, Tryd.ntmps35
    go_wp2
    go_ret
    exact ⟨by first | rfl | (simp; done) | (simp [*]; done), by repeat (first | exact Drawn0.refl _ | apply Drawn0.step)⟩
end Go.Proofs.YtonjkoeacedaiaaDoor.R
