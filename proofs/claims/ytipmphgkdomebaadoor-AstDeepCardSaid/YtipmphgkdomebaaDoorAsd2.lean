/- Whatever number: braces within braces may be as deep as is said, and no deeper: AstDeep answers true. (Text 3 of 5: what the law's proof rests on, joined; walks printed by the kit's print over given contracts, walks and plain laws by hand.) -/
import Derived.Test.YtipmphgkdomebaaDoorProg
import Derived.Lib.FrozenHead2
import Derived.Lib.OthersKept
import Derived.Lib.Buffer
import Derived.WalkKit
import Derived.BigCall
import Derived.BigGuard
import Derived.RowKit
import Derived.KernelRfl
import Derived.Test.YtipmphgkdomebaaDoorAsd0
import Derived.Test.YtipmphgkdomebaaDoorAsd1
namespace Go.Proofs.YtipmphgkdomebaaDoor
open Go.RowKit
set_option linter.unusedVariables false
set_option linter.unusedSimpArgs false
theorem bInfo : (Tryd.prog.info? 56).map (·.size) = some 2 := by kernel_rfl
theorem byteInfo : (Tryd.prog.info? 5).map (fun i => (i.zero, i.size, i.bytes)) = some (some (.int .u8 0), 1, 1) := by kernel_rfl
theorem bLies : liesAt Tryd.prog Tryd.prog.depth 56 (2 / Tryd.prog.cellsOf 56) 0 56 1 = true := by kernel_rfl
theorem bNe : (56 : Nat) ≠ 5 := by decide
set_option maxRecDepth 100000 in
theorem copy_used (b : Nat) (w : World) (h0 : w.cell? ⟨b, 0, none⟩ = some (.pointer (some ⟨b, 0, none⟩))) :
    Calls Tryd.prog 97 #[.pointer (some ⟨b, 0, none⟩)] w fun e w' => e = .returned (.tuple #[]) ∧ w' = w := by
  obtain ⟨j, hj, _⟩ := Option.map_eq_some_iff.1 bInfo
  go_enter Tryd.func97, Tryd.ntmps97
  go_wp2
  rw [Lib.run_neq_ptr_same w _ Tryd.underlying53 hj]
  go_wp2
  go_end0
  exact ⟨rfl, rfl⟩
set_option maxRecDepth 100000 in
theorem copy_fresh (b : Nat) (w : World) (h0 : w.cell? ⟨b, 0, none⟩ = some (.pointer none)) (hsh : w.shape? b = some (56, 2)) (hfz : w.frozen? ⟨b, 0, none⟩ = false) :
    Calls Tryd.prog 97 #[.pointer (some ⟨b, 0, none⟩)] w fun e w' => e = .returned (.tuple #[]) ∧ w' = w.setCell ⟨b, 0, none⟩ (.pointer (some ⟨b, 0, none⟩)) := by
  obtain ⟨j, hj, hjs⟩ := Option.map_eq_some_iff.1 bInfo
  go_enter Tryd.func97, Tryd.ntmps97
  go_wp2
  rw [Lib.run_to_unsafe w ⟨b, 0, none⟩ Tryd.underlying53 Tryd.underlying157 hj (by rw [hjs]; decide) hsh (Nat.zero_lt_succ 1)]
  simp only [Result.andThen]
  rw [Oper.upon_value]
  go_wp2
  rw [run_callFunc_extern Tryd.func139 (by kernel_rfl) (by kernel_rfl) (by kernel_rfl) (e := Extern.AbiNoEscape.same) (by kernel_rfl)]
  rw [Lib.run_noEscape]
  simp only [Result.andThen]
  rw [Oper.upon_value]
  go_wp2
  rw [Lib.run_from_unsafe w ⟨b, 0, none⟩ Tryd.underlying157 Tryd.underlying53 hj hsh bLies]
  simp only [Result.andThen]
  rw [Oper.upon_value]
  go_wp2
  go_end0
  exact ⟨rfl, rfl⟩
abbrev BF (B b : Nat) (bs : List Value) (w : World) : Prop := Lib.IsBuilderF 56 5 B b bs w
abbrev BU (B b : Nat) (bs : List Value) (w : World) : Prop := Lib.BuilderAtF 56 5 B b (.pointer (some ⟨b, 0, none⟩)) bs w
theorem copy_any (B b : Nat) (bs : List Value) (w : World) (h : BF B b bs w) :
    Calls Tryd.prog 97 #[.pointer (some ⟨b, 0, none⟩)] w fun e w' => e = .returned (.tuple #[]) ∧ BU B b bs w' ∧ Below B w w' ∧ Lib.OthersKept 5 (some b) w w' := by
  rcases h with h | h
  · refine (copy_fresh b w h.cell0 h.shape h.frozen0).mono ?_
    rintro e w' ⟨rfl, rfl⟩
    exact ⟨rfl, h.used _, (Below.refl B w).setCell (p := ⟨b, 0, none⟩) h.1 _, (Lib.OthersKept.refl _ _ w).setCell ⟨b, 0, none⟩ rfl _⟩
  · refine (copy_used b w h.cell0).mono ?_
    rintro e w' ⟨rfl, rfl⟩
    exact ⟨rfl, h, Below.refl B _, Lib.OthersKept.refl _ _ _⟩
set_option maxHeartbeats 2000000 in
set_option maxRecDepth 100000 in
theorem writeString_any (B b : Nat) (bs : List Value) (s : ByteArray) (w : World) (h : BF B b bs w) (hlen : bs.length + s.size ≤ 140737488355328) (hBw : B ≤ w.heap.size) :
    Calls Tryd.prog 56 #[.pointer (some ⟨b, 0, none⟩), .string s] w fun e w' => e = .returned (.tuple #[.int .i64 s.size, .nilIface]) ∧ BU B b (bs ++ Lib.strCells s) w' ∧ Below B w w' ∧ Lib.OthersKept 5 (some b) w w' := by
  obtain ⟨i0, hi, hz0, hz1, hz2⟩ := info_parts byteInfo
  go_enter Tryd.func56, Tryd.ntmps56
  go_wp2_with (go_at_call 97; refine (copy_any B b bs _ h).mono ?_)
  rintro e w1 ⟨rfl, h1, hb1, hk1⟩
  obtain ⟨hB, v, hbk, hown, hne⟩ := h1
  have c0 : w1.cell? ⟨b, 0, none⟩ = some (.pointer (some ⟨b, 0, none⟩)) := by rw [Lib.cell_of_heap hbk]; rfl
  have c1 : w1.cell? ⟨b, 1, none⟩ = some v := by rw [Lib.cell_of_heap hbk]; rfl
  go_wp2_with (at_builtin; refine Lib.wpList_append_own_stringF _ rfl _ _ 54 9 rfl B 5 i0 Tryd.underlying54 Tryd.underlying9 hi hz0 hz1 hz2 _ _ _ rfl hown s rfl ?c3 ?c4 ?c5 ?_)
  case c3 => unfold maxLen; omega
  case c4 => omega
  case c5 => have := hb1.size; omega
  intro v' w2 hown' hgrow _
  have hlt : b < w1.heap.size := by
    rcases Nat.lt_or_ge b w1.heap.size with h' | h'
    · exact h'
    · simp [Array.getElem?_eq_none h'] at hbk
  have hb2 : w2.heap[b]? = some (.cells #[.pointer (some ⟨b, 0, none⟩), v] 56 (0, 0)) := by
    rw [hgrow.block b hlt (fun e => hne e.symm)]
    exact hbk
  have d0 : w2.cell? ⟨b, 0, none⟩ = some (.pointer (some ⟨b, 0, none⟩)) := by rw [Lib.cell_of_heap hb2]; rfl
  have d1 : w2.cell? ⟨b, 1, none⟩ = some v := by rw [Lib.cell_of_heap hb2]; rfl
  have f1 : w2.frozen? ⟨b, 1, none⟩ = false := Lib.frozen_of_heap hb2 1
  obtain ⟨ao, n', cap, rfl⟩ : ∃ ao n' cap, v' = .slice ao n' cap := by
    rcases hown'.2 with ⟨hv, _⟩ | ⟨g, cap, cur, fz, hv, _⟩
    · exact ⟨_, _, _, hv⟩
    · exact ⟨_, _, _, hv⟩
  go_wp2
  go_ret2
  refine ⟨rfl, ?_, ?_, (hk1.grown hgrow (Lib.ownsRowF_kind hown)).setCell ⟨b, 1, none⟩ rfl _⟩
  · exact Lib.BuilderAtF.put (T := 56) (e := 5) hB hb2 (bs' := bs ++ Lib.strCells s) (by simpa [Lib.strCells_length] using hown') bNe
  · exact (hb1.grown hgrow (by have := hb1.size; omega) (fun k hk => (hown.lt k hk).1)).setCell (p := ⟨b, 1, none⟩) hB _
theorem BF.below {B b : Nat} {bs : List Value} {w w' : World} (h : BF B b bs w) (hb : Below w.heap.size w w') : BF B b bs w' := by
  have go : ∀ p, Lib.BuilderAtF 56 5 B b p bs w → Lib.BuilderAtF 56 5 B b p bs w' := by
    intro p h
    have hlt := h.lt
    obtain ⟨hB, v, hk, hown, hne⟩ := h
    refine ⟨hB, v, (hb.block b hlt).trans hk, hown.kept (row := none) ⟨hb.os, hb.tape, hb.output, hb.size, fun i hi _ => hb.block i hi⟩ ?_, hne⟩
    cases h0 : v.ownBlock with
    | none => exact .inl rfl
    | some _ => exact .inr (by simp)
  exact h.elim (fun x => .inl (go _ x)) (fun x => .inr (go _ x))
theorem BF.lt {B b : Nat} {bs : List Value} {w : World} (h : BF B b bs w) : b < w.heap.size := h.elim (·.lt) (·.lt)
theorem BF.new (w : World) : BF w.heap.size w.heap.size [] (w.alloc (.cells #[.pointer none, .slice none 0 0] 56)) :=
  .inl ⟨Nat.le_refl _, .slice none 0 0, Go.Proofs.YtipmphgkdomebaaDoorW.PrintWords.blk_new w _, World.ownsRowF_nil _ _ _ _, by simp [Value.ownBlock]⟩
end Go.Proofs.YtipmphgkdomebaaDoor
namespace Go.Proofs.YtipmphgkdomebaaDoor
open Go.RowKit
set_option linter.unusedVariables false
set_option linter.unusedSimpArgs false
set_option maxHeartbeats 2000000 in
set_option maxRecDepth 100000 in
theorem writeByte_any (B b : Nat) (bs : List Value) (c : Int) (w : World) (h : BF B b bs w) (hlen : bs.length + 1 ≤ 140737488355328) (hBw : B ≤ w.heap.size) :
    Calls Tryd.prog 72 #[.pointer (some ⟨b, 0, none⟩), .int .u8 c] w fun e w' => e = .returned .nilIface ∧ BU B b (bs ++ [.int .u8 c]) w' ∧ Below B w w' ∧ Lib.OthersKept 5 (some b) w w' := by
  obtain ⟨i0, hi, hz0, hz1, hz2⟩ := info_parts byteInfo
  go_enter Tryd.func72, Tryd.ntmps72
  go_wp2_with (go_at_call 97; refine (copy_any B b bs _ h).mono ?_)
  rintro e w1 ⟨rfl, h1, hb1, hk1⟩
  obtain ⟨hB, v, hbk, hown, hne⟩ := h1
  have c0 : w1.cell? ⟨b, 0, none⟩ = some (.pointer (some ⟨b, 0, none⟩)) := by rw [Lib.cell_of_heap hbk]; rfl
  have c1 : w1.cell? ⟨b, 1, none⟩ = some v := by rw [Lib.cell_of_heap hbk]; rfl
  go_wp2_with (at_builtin; refine wpList_append_ownF _ rfl _ _ 54 rfl B 5 i0 (.int .u8 0) 1 1 Tryd.underlying54 hi hz0 hz1 hz2 rfl (by decide) _ _ _ rfl (hown.alloc _) ⟨w1.heap.size, 0, none⟩ 1 1 [.int .u8 c] rfl rfl ?c1 ?c2 ?c3 ?c4 ?c5 ?_)
  case c1 =>
    intro j u hj
    match j, hj with
    | 0, hj => simp at hj; subst hj; simp [Addr.add]
  case c2 => intro u hu; simp at hu; subst hu; rfl
  case c3 => unfold maxLen; omega
  case c4 => omega
  case c5 => have := hb1.size; simp; omega
  intro v' w2 hown' hgrow _
  have hlt : b < w1.heap.size := by
    rcases Nat.lt_or_ge b w1.heap.size with h' | h'
    · exact h'
    · simp [Array.getElem?_eq_none h'] at hbk
  have hb2 : w2.heap[b]? = some (.cells #[.pointer (some ⟨b, 0, none⟩), v] 56 (0, 0)) := by
    rw [hgrow.block b (by simp; omega) (fun e => hne e.symm), Lib.alloc_old w1 _ b hlt]
    exact hbk
  have d0 : w2.cell? ⟨b, 0, none⟩ = some (.pointer (some ⟨b, 0, none⟩)) := by rw [Lib.cell_of_heap hb2]; rfl
  have d1 : w2.cell? ⟨b, 1, none⟩ = some v := by rw [Lib.cell_of_heap hb2]; rfl
  have f1 : w2.frozen? ⟨b, 1, none⟩ = false := Lib.frozen_of_heap hb2 1
  obtain ⟨g, cap, rfl⟩ : ∃ g cap, v' = .slice (some ⟨g, 0, none⟩) (bs.length + 1) cap := by
    rcases hown'.2 with ⟨_, h0⟩ | ⟨g, cap, cur, fz, hv, _⟩
    · omega
    · exact ⟨g, cap, hv⟩
  go_wp2
  go_ret
  refine ⟨rfl, ?_, ?_, ((hk1.alloc _).grown hgrow (Lib.ownsRowF_kind (hown.alloc _))).setCell ⟨b, 1, none⟩ rfl _⟩
  · exact Lib.BuilderAtF.put (T := 56) (e := 5) hB hb2 (bs' := bs ++ [.int .u8 c]) (by simpa using hown') bNe
  · exact ((hb1.alloc (by have := hb1.size; omega) _).grown hgrow (by have := hb1.size; simp; omega) (fun k hk => (hown.lt k hk).1)).setCell (p := ⟨b, 1, none⟩) hB _
end Go.Proofs.YtipmphgkdomebaaDoor
namespace Go.Proofs.YtipmphgkdomebaaDoor
open Go.RowKit
set_option linter.unusedVariables false
set_option linter.unusedSimpArgs false
def catP (et : Nat → ByteArray) (ep : Nat → EX) : Nat → List UInt8
  | 0 => []
  | n + 1 => catP et ep n ++ (if (ep n).isNo = true then (et n).data.toList else [123])
def okE (et : Nat → ByteArray) (ep : Nat → EX) (va an pl : Nat → Bool) (i : Nat) : Bool :=
  if (ep i).isNo = true then !((et i).toList == []) && (!(decide (0 < i) && (ep (i - 1)).isNo) && (va i && !(an i))) else ((et i).toList == []) && pl i
theorem catP_mono (et : Nat → ByteArray) (ep : Nat → EX) {i n : Nat} (h : i ≤ n) : (catP et ep i).length ≤ (catP et ep n).length := by
  induction n with
  | zero => rw [Nat.le_zero.1 h]; exact Nat.le_refl _
  | succ n ih =>
    by_cases e : i = n + 1
    · rw [e]; exact Nat.le_refl _
    · have := ih (by omega)
      have e2 : catP et ep (n + 1) = catP et ep n ++ (if (ep n).isNo = true then (et n).data.toList else [123]) := rfl
      rw [e2, List.length_append]
      omega
set_option maxRecDepth 100000 in
set_option maxHeartbeats 4000000 in
theorem pattern_any (A : Option Addr) (n ca : Nat) (et : Nat → ByteArray) (ep : Nat → EX) (d : Int) (va an pl : Nat → Bool) (lv : Bool) (w : World) (hn : n ≤ 281474976710656) (hA : Elems w A n et ep) (hz : (catP et ep n).length ≤ 100000000000000) (hd : -1000 ≤ d ∧ d ≤ 1000)
    (cV : ∀ i, i < n → ∀ W, Below w.heap.size w W → Calls Tryd.prog 35 #[.string (et i)] W fun e w' => e = .returned (.bool (va i)) ∧ Below W.heap.size W w')
    (cC : ∀ i, i < n → ∀ W, Below w.heap.size w W → Calls Tryd.prog 73 #[.string (et i), .string ⟨#[123, 125, 13]⟩] W fun e w' => e = .returned (.bool (an i)) ∧ Below W.heap.size W w')
    (cP : ∀ i, i < n → ∀ r, (ep i).R w r → ∀ W, Below w.heap.size w W → Calls Tryd.prog 71 #[.agg #[.int .i64 (ep i).kind, .string (ep i).text, .string (ep i).name, .string (ep i).attr, .slice r.A (ep i).na r.ca, .pointer r.P, .slice r.V (ep i).nv r.cv], .int .i64 (d + 1)] W fun e w' => e = .returned (.bool (pl i)) ∧ Below W.heap.size W w')
    (cL : 0 < n → ∀ W, Below w.heap.size w W → Calls Tryd.prog 74 #[.string ⟨(catP et ep n).toArray⟩] W fun e w' => e = .returned (.bool lv) ∧ Below W.heap.size W w') :
    Calls Tryd.prog 38 #[.slice A n ca, .int .i64 d] w fun e w' => e = .returned (.bool (allTo (okE et ep va an pl) n && (decide (n = 0) || lv))) ∧ Below w.heap.size w w' := by
  have HA := Lib.hid hA; clear hA
  have CV := Lib.hid cV; clear cV
  have CC := Lib.hid cC; clear cC
  have CP := Lib.hid cP; clear cP
  have CL := Lib.hid cL; clear cL
  have HZ := Lib.hid hz; clear hz
  have wd : wrap64 (d + 1) = d + 1 := by unfold wrap64; omega
  go_enter Tryd.func38, Tryd.ntmps38
  go_wp2
  go_loopg [10] n (fun gk v10 wx => ∃ i : Nat, v10 = .int .i64 i ∧ i + gk = n ∧ allTo (okE et ep va an pl) i = true ∧ BF w.heap.size w.heap.size (Lib.byteCells (catP et ep i)) wx ∧ Below w.heap.size w wx)
  case atStart => exact ⟨0, rfl, by omega, rfl, BF.new w, (Below.refl _ w).alloc (Nat.le_refl _) _⟩
  case round =>
    obtain ⟨i, rfl, hi, hall, hf, hb⟩ := hrel
    by_cases hp : i < n
    · obtain ⟨f, rfl⟩ : ∃ f, gk = f + 1 := ⟨gk - 1, by omega⟩
      have hs := allTo_succ (okE et ep va an pl) i
      rw [hall, Bool.true_and] at hs
      have hff := fun h : okE et ep va an pl i = false => allTo_false h hp
      have hcat : catP et ep (i + 1) = catP et ep i ++ (if (ep i).isNo = true then (et i).data.toList else [123]) := rfl
      have hle : (catP et ep (i + 1)).length ≤ 100000000000000 := Nat.le_trans (catP_mono et ep (Nat.succ_le_of_lt hp)) HZ.out
      rw [hcat, List.length_append] at hle
      have HS := Lib.hid hs; clear hs
      have HFF := Lib.hid hff; clear hff
      have HC := Lib.hid hcat; clear hcat
      obtain ⟨b1, o1, p1, rfl, c10', c11', k1⟩ := HA.out i hp
      have hk := Kept.of hb
      have c10 := hk _ _ _ c10'
      have c11 := hk _ _ _ c11'
      have hprev : 0 < i → ∃ q, wr.cell? ⟨b1, o1 + (i - 1) * 2 + 1, none⟩ = some (.pointer q) ∧ (ep (i - 1)).Ptr w q := fun h => by
        obtain ⟨b2, o2, p2, e2, _, c2, k2⟩ := HA.out (i - 1) (by omega)
        injection (Option.some.inj e2) with e3 e4
        subst e3 e4
        exact ⟨p2, hk _ _ _ c2, k2⟩
      clear c10' c11' hk
      have cV := CV.out i hp
      have cC := CC.out i hp
      have HI := Lib.hid hi; clear hi hall
      have HP := Lib.hid hprev; clear hprev
      have HF := Lib.hid hf; clear hf
      have HLE := Lib.hid hle; clear hle
      have q0 : decide ((i : Int) < (n : Int)) = true := decide_eq_true (by omega)
      have q1 : (0 : Int) ≤ (i : Int) := by omega
      have q2 : (i : Int) < (n : Int) := by omega
      have h0 := Own.of hb
      go_upto_region 5 with (fail)
      have h1 := h0.alloc (.cells #[.string (et i), .pointer p1] 42)
      have bnew := (Below.refl wr.heap.size wr).alloc (Nat.le_refl _) (.cells #[.string (et i), .pointer p1] 42)
      have HF1 := Lib.hid (BF.below HF.out bnew)
      have hk1 := Kept.of bnew
      clear c10 c11 bnew h0
      have HK1 := Lib.hid hk1; clear hk1
      have hgw : w.heap.size < wr.heap.size := BF.lt HF.out
      generalize wr.alloc _ = W1 at *
      generalize wr.heap.size = g1 at *
      have hgn : g1 ≠ w.heap.size := by omega
      have HGN := Lib.hid hgn; clear hgn hgw
      have u0 := h1.c 0 0 rfl rfl
      have u1 := h1.c 0 1 rfl rfl
      have bel1 := h1.bel
      rcases k1 with ⟨hno, rfl⟩ | ⟨b3, o3, r1, rfl, E1, R1⟩
      · have isn : (ep i).isNo = true := by rw [hno]; rfl
        have hok : okE et ep va an pl i = (!((et i).toList == []) && (!(decide (0 < i) && (ep (i - 1)).isNo) && (va i && !(an i)))) := by unfold okE; rw [if_pos isn]
        have hct : catP et ep (i + 1) = catP et ep i ++ (et i).data.toList := by rw [HC.out, if_pos isn]
        have hsz : (catP et ep i).length + (et i).data.toList.length ≤ 100000000000000 := by have := HLE.out; rw [if_pos isn] at this; exact this
        rw [hok] at HS HFF
        have HCT := Lib.hid hct
        have HSZ := Lib.hid hsz
        clear hok hct hsz isn HC HLE CP hno
        generalize hva : va i = vaI at *
        generalize han : an i = anI at *
        clear hva han
        cases q3 : ((et i).toList == []) with
        | true =>
          have HFX := Lib.hid (HFF.out (by rw [q3]; try rfl)); clear HS HFF
          clear cV cC
          go_wp2
          go_ret
          exact ⟨by rw [HFX.out]; first | rfl | exact ret_b (by simp), bel1⟩
        | false =>
          by_cases h00 : 0 < i
          · have q5 : decide ((i : Int) > 0) = true := decide_eq_true (by omega)
            have q6 : decide ((0 : Int) < (i : Int)) = true := decide_eq_true (by omega)
            have q7 : decide (0 < i) = true := decide_eq_true h00
            obtain ⟨pq, cq0, kq⟩ := HP.out h00
            have cq := HK1.out _ _ _ cq0
            clear cq0
            obtain ⟨j, rfl⟩ : ∃ j, i = j + 1 := ⟨i - 1, by omega⟩
            have wj : wrap64 (((j + 1 : Nat) : Int) - 1) = (j : Int) := by unfold wrap64; omega
            have wj2 : wrap64 ((j : Int) + 1 - 1) = (j : Int) := by unfold wrap64; omega
            have j0 : (0 : Int) ≤ (j : Int) := by omega
            have j1 : (j : Int) < (n : Int) := by omega
            simp only [Nat.add_sub_cancel] at cq kq HS HFF
            rcases kq with ⟨hno2, rfl⟩ | ⟨b4, o4, r4, rfl, E4, R4⟩
            · have isp : (ep j).isNo = true := by rw [hno2]; rfl
              have HFX := Lib.hid (HFF.out (by rw [q3, q7, isp]; try rfl)); clear HS HFF isp hno2 cV cC
              go_wp2
              go_ret
              exact ⟨by rw [HFX.out]; first | rfl | exact ret_b (by simp), bel1⟩
            · have isp : (ep j).isNo = false := EX.no_of R4
              clear E4 R4
              cases vaI with
              | false =>
                have HFX := Lib.hid (HFF.out (by rw [q3, q7, isp]; try rfl)); clear HS HFF
                clear cC
                go_wp2_with (go_at_call 35; refine (cV _ bel1).mono ?_; rintro e W2 ⟨rfl, b2⟩; have h2 := h1.step b2; have bel2 := h2.bel; have HF2 := Lib.hid (BF.below HF1.out b2); have v0 := h2.c 0 0 rfl rfl)
                go_ret
                exact ⟨by rw [HFX.out]; first | rfl | exact ret_b (by simp), bel2⟩
              | true =>
                cases anI with
                | true =>
                  have HFX := Lib.hid (HFF.out (by rw [q3, q7, isp]; try rfl)); clear HS HFF
                  go_wp2_with (first
                    | (go_at_call 35; refine (cV _ bel1).mono ?_; rintro e W2 ⟨rfl, b2⟩; have h2 := h1.step b2; have bel2 := h2.bel; have HF2 := Lib.hid (BF.below HF1.out b2); have v0 := h2.c 0 0 rfl rfl)
                    | (go_at_call 73; refine (cC _ bel2).mono ?_; rintro e W3 ⟨rfl, b3⟩; have h3 := h2.step b3; have bel3 := h3.bel; have HF3 := Lib.hid (BF.below HF2.out b3); have z0 := h3.c 0 0 rfl rfl))
                  go_ret
                  exact ⟨by rw [HFX.out]; first | rfl | exact ret_b (by simp), bel3⟩
                | false =>
                  have HT := Lib.hid (HS.out.trans (by rw [q3, q7, isp]; try rfl)); clear HS HFF
                  go_wp2_with (first
                    | (go_at_call 35; refine (cV _ bel1).mono ?_; rintro e W2 ⟨rfl, b2⟩; have h2 := h1.step b2; have bel2 := h2.bel; have HF2 := Lib.hid (BF.below HF1.out b2); have v0 := h2.c 0 0 rfl rfl)
                    | (go_at_call 73; refine (cC _ bel2).mono ?_; rintro e W3 ⟨rfl, b3⟩; have h3 := h2.step b3; have bel3 := h3.bel; have HF3 := Lib.hid (BF.below HF2.out b3); have z0 := h3.c 0 0 rfl rfl)
                    | (go_at_call 56; refine (writeString_any w.heap.size w.heap.size _ _ _ HF3.out (by have := HSZ.out; rw [Lib.byteCells_length, Lib.size_eq]; omega) bel3.size).mono ?_; rintro e W4 ⟨rfl, h4, b4, k4⟩; have HF4 := Lib.hid h4; have HB4 := Lib.hid (bel3.trans (b4.mono (Nat.le_refl _))); clear h4 b4 k4))
                  go_roundg f
                  case measure => omega
                  case rel => exact ⟨(j + 1) + 1, by go_num, by have := HI.out; omega, HT.out, by rw [HCT.out, Lib.byteCells_append, ← Lib.strCells_eq]; exact .inr HF4.out, HB4.out⟩
          · have q5 : decide ((i : Int) > 0) = false := decide_eq_false (by omega)
            have q6 : decide ((0 : Int) < (i : Int)) = false := decide_eq_false (by omega)
            have q7 : decide (0 < i) = false := decide_eq_false h00
            cases vaI with
            | false =>
              have HFX := Lib.hid (HFF.out (by rw [q3, q7]; try rfl)); clear HS HFF
              clear cC
              go_wp2_with (go_at_call 35; refine (cV _ bel1).mono ?_; rintro e W2 ⟨rfl, b2⟩; have h2 := h1.step b2; have bel2 := h2.bel; have HF2 := Lib.hid (BF.below HF1.out b2); have v0 := h2.c 0 0 rfl rfl)
              go_ret
              exact ⟨by rw [HFX.out]; first | rfl | exact ret_b (by simp), bel2⟩
            | true =>
              cases anI with
              | true =>
                have HFX := Lib.hid (HFF.out (by rw [q3, q7]; try rfl)); clear HS HFF
                go_wp2_with (first
                  | (go_at_call 35; refine (cV _ bel1).mono ?_; rintro e W2 ⟨rfl, b2⟩; have h2 := h1.step b2; have bel2 := h2.bel; have HF2 := Lib.hid (BF.below HF1.out b2); have v0 := h2.c 0 0 rfl rfl)
                  | (go_at_call 73; refine (cC _ bel2).mono ?_; rintro e W3 ⟨rfl, b3⟩; have h3 := h2.step b3; have bel3 := h3.bel; have HF3 := Lib.hid (BF.below HF2.out b3); have z0 := h3.c 0 0 rfl rfl))
                go_ret
                exact ⟨by rw [HFX.out]; first | rfl | exact ret_b (by simp), bel3⟩
              | false =>
                have HT := Lib.hid (HS.out.trans (by rw [q3, q7]; try rfl)); clear HS HFF
                go_wp2_with (first
                  | (go_at_call 35; refine (cV _ bel1).mono ?_; rintro e W2 ⟨rfl, b2⟩; have h2 := h1.step b2; have bel2 := h2.bel; have HF2 := Lib.hid (BF.below HF1.out b2); have v0 := h2.c 0 0 rfl rfl)
                  | (go_at_call 73; refine (cC _ bel2).mono ?_; rintro e W3 ⟨rfl, b3⟩; have h3 := h2.step b3; have bel3 := h3.bel; have HF3 := Lib.hid (BF.below HF2.out b3); have z0 := h3.c 0 0 rfl rfl)
                  | (go_at_call 56; refine (writeString_any w.heap.size w.heap.size _ _ _ HF3.out (by have := HSZ.out; rw [Lib.byteCells_length, Lib.size_eq]; omega) bel3.size).mono ?_; rintro e W4 ⟨rfl, h4, b4, k4⟩; have HF4 := Lib.hid h4; have HB4 := Lib.hid (bel3.trans (b4.mono (Nat.le_refl _))); clear h4 b4 k4))
                go_roundg f
                case measure => omega
                case rel => exact ⟨i + 1, by go_num, by have := HI.out; omega, HT.out, by rw [HCT.out, Lib.byteCells_append, ← Lib.strCells_eq]; exact .inr HF4.out, HB4.out⟩
      · have isn : (ep i).isNo = false := EX.no_of R1
        have hok : okE et ep va an pl i = (((et i).toList == []) && pl i) := by unfold okE; rw [isn, if_neg (by decide)]
        have hct : catP et ep (i + 1) = catP et ep i ++ [123] := by rw [HC.out, isn, if_neg (by decide)]
        have hsz : (catP et ep i).length + 1 ≤ 100000000000000 := by have := HLE.out; rw [isn, if_neg (by decide)] at this; exact this
        rw [hok] at HS HFF
        have HCT := Lib.hid hct
        have HSZ := Lib.hid hsz
        have cPl := CP.out i hp r1 R1
        have hbw := Kept.of bel1
        have x0 := hbw _ _ _ E1.c0
        have x1 := hbw _ _ _ E1.c1
        have x2 := hbw _ _ _ E1.c2
        have x3 := hbw _ _ _ E1.c3
        have x4 := hbw _ _ _ E1.c4
        have x5 := hbw _ _ _ E1.c5
        have x6 := hbw _ _ _ E1.c6
        clear hok hct hsz isn HC HLE CP cV cC hbw E1 R1
        dsimp only at x0 x1 x2 x3 x4 x5 x6
        generalize pl i = plI at *
        cases q3 : ((et i).toList == []) with
        | false =>
          have HFX := Lib.hid (HFF.out (by rw [q3]; try rfl)); clear HS HFF cPl
          go_wp2
          go_ret
          exact ⟨by rw [HFX.out]; first | rfl | exact ret_b (by simp), bel1⟩
        | true =>
          cases plI with
          | false =>
            have HFX := Lib.hid (HFF.out (by rw [q3]; try rfl)); clear HS HFF
            go_wp2_with (go_at_call 71; refine (cPl _ bel1).mono ?_; rintro e W2 ⟨rfl, b2⟩; have h2 := h1.step b2; have bel2 := h2.bel; have HF2 := Lib.hid (BF.below HF1.out b2))
            go_ret
            exact ⟨by rw [HFX.out]; first | rfl | exact ret_b (by simp), bel2⟩
          | true =>
            have HT := Lib.hid (HS.out.trans (by rw [q3]; try rfl)); clear HS HFF
            go_wp2_with (first
              | (go_at_call 71; refine (cPl _ bel1).mono ?_; rintro e W2 ⟨rfl, b2⟩; have h2 := h1.step b2; have bel2 := h2.bel; have HF2 := Lib.hid (BF.below HF1.out b2))
              | (go_at_call 72; refine (writeByte_any w.heap.size w.heap.size _ 123 _ HF2.out (by have := HSZ.out; rw [Lib.byteCells_length]; omega) bel2.size).mono ?_; rintro e W4 ⟨rfl, h4, b4, k4⟩; have HF4 := Lib.hid h4; have HB4 := Lib.hid (bel2.trans (b4.mono (Nat.le_refl _))); clear h4 b4 k4))
            go_roundg f
            case measure => omega
            case rel => exact ⟨i + 1, by go_num, by have := HI.out; omega, HT.out, by rw [HCT.out, Lib.byteCells_append]; exact .inr HF4.out, HB4.out⟩
    · obtain rfl : i = n := by omega
      have HL := Lib.hid hall; clear hall
      have q0 : decide ((i : Int) < (i : Int)) = false := decide_eq_false (by omega)
      have HF := Lib.hid hf; clear hf
      by_cases hz : i = 0
      · subst hz
        go_wp2
        go_ret
        exact ⟨by rw [HL.out]; first | rfl | exact ret_b (by simp), hb⟩
      · have q3 : ((i : Int) == 0) = false := beq_eq_false_iff_ne.2 (by omega)
        have hz2 : decide (i = 0) = false := decide_eq_false hz
        have cL2 := CL.out (by omega)
        have HZ2 := Lib.hid hz2; clear hz2
        generalize hcc : catP et ep i = cc at *
        go_wp2_with (first
          | (go_at_call 30; refine (Tryd.Builder_String_any_f w.heap.size w.heap.size _ _ HF.out hb.size).mono ?_; rintro e W5 ⟨rfl, h5, b5⟩; have h6 := hb.trans (b5.mono (Nat.le_refl _)))
          | (go_at_call 74; refine (cL2 _ h6).mono ?_; rintro e W6 ⟨rfl, b6⟩; have h7 := below_on h6 b6 h6.size))
        go_ret
        exact ⟨by rw [HL.out, HZ2.out]; first | rfl | exact ret_b (by simp), h7⟩
end Go.Proofs.YtipmphgkdomebaaDoor
namespace Go.Proofs.YtipmphgkdomebaaDoor
open Go.RowKit Go.Proofs.YtipmphgkdomebaaDoorW.PrintWords Go.Proofs.YtipmphgkdomebaaDoorW.PrintLast
set_option linter.unusedVariables false
set_option linter.unusedSimpArgs false
def ExI (w0 : World) (x1 x2 : EX) (A1 : Option Addr) (ca1 : Nat) (P1 V1 : Option Addr) (cv1 : Nat) (A2 : Option Addr) (ca2 : Nat) (P2 V2 : Option Addr) (cv2 : Nat) (W : World) : Prop :=
  Own w0 [(w0.heap.size + 1, .cells #[.int .i64 x2.kind, .string x2.text, .string x2.name, .string x2.attr, .slice A2 x2.na ca2, .pointer P2, .slice V2 x2.nv cv2] 40 (0, 0)), (w0.heap.size, .cells #[.int .i64 x1.kind, .string x1.text, .string x1.name, .string x1.attr, .slice A1 x1.na ca1, .pointer P1, .slice V1 x1.nv cv1] 40 (0, 0))] W
theorem ExI.step {w0 : World} {x1 x2 : EX} {A1 : Option Addr} {ca1 : Nat} {P1 V1 : Option Addr} {cv1 : Nat} {A2 : Option Addr} {ca2 : Nat} {P2 V2 : Option Addr} {cv2 : Nat} {W W1 : World} (h : ExI w0 x1 x2 A1 ca1 P1 V1 cv1 A2 ca2 P2 V2 cv2 W) (b : Below W.heap.size W W1) : ExI w0 x1 x2 A1 ca1 P1 V1 cv1 A2 ca2 P2 V2 cv2 W1 := Own.step h b
def as81n.T : Bool × List (List Nat × List Nat) := (true, [([], []), ([0], [0]), ([1], [1]), ([2], [2]), ([3], [3]), ([4, 3], [3, 4]), ([5, 3], [3, 5]), ([6, 3], [3, 6]), ([3], [3]), ([8, 3], [3, 8]), ([9, 3], [3, 9]), ([10, 3], [3, 10]), ([7, 11, 3, 3], [3, 7, 11]), ([12, 3], [3, 12]), ([3, 13], [3, 13])])
def as81n.B : List Nat := [0, 1, 3, 7, 15, 31, 63, 127, 15, 271, 783, 1807, 4095, 8191, 16383]
theorem as81n.tab : rtab .any (opsOf Tryd.f81 3) = as81n.T := by kernel_rfl
theorem as81n.bits : waitsOk as81n.T.2 as81n.B = true := by kernel_rfl
set_option maxRecDepth 100000 in
set_option maxHeartbeats 4000000 in
theorem as81n (w0 : World) (x1 x2 : EX) (A1 : Option Addr) (ca1 : Nat) (V1 : Option Addr) (cv1 : Nat) (A2 : Option Addr) (ca2 : Nat) (V2 : Option Addr) (cv2 : Nat) (q2 : Option Addr) (a0 : Act) (s2 : a0.tmps[2]? = some (.pointer (some ⟨w0.heap.size, 0, none⟩))) (s3 : a0.tmps[3]? = some (.pointer (some ⟨w0.heap.size + 1, 0, none⟩))) (hsz : a0.tmps.size = Tryd.f81.ntmps) (W : World) (hI : ExI w0 x1 x2 A1 ca1 none V1 cv1 A2 ca2 q2 V2 cv2 W.drew) (Q : Exit → Act → World → Prop) (hend : ∀ (a9 : Act) w', ExI w0 x1 x2 A1 ca1 none V1 cv1 A2 ca2 q2 V2 cv2 w' → a9 = putSel a0 (fun _ => true) [(0, 40, .pointer (some ⟨w0.heap.size, 5, none⟩)), (1, 41, .pointer none), (2, 42, .bool false), (3, 43, .bool false), (4, 44, undef), (5, 45, undef), (6, 46, undef), (7, 47, undef), (8, 48, undef), (9, 49, undef), (10, 50, undef), (11, 51, undef), (12, 52, undef), (13, 53, undef), (14, 54, .bool false)] → a9.defers = a0.defers → a9.tmps[54]? = some (.bool false) → Q .normal a9 w') :
    (Code.region 3 #[{ dst := some 40, op := Op.fieldAddr 40 (Operand.tmp 2) 5, type := 0, pos := "ast.go:97", after := #[], guard := none }, { dst := some 41, op := Op.load 37 (Operand.tmp 40), type := 37, pos := "ast.go:97", after := #[{ on := 0, ground := Ground.data }], guard := none }, { dst := some 42, op := Op.binOp BinOp.neq 37 (Operand.tmp 41) (Operand.const (Value.pointer none)) 37, type := 4, pos := "ast.go:97", after := #[{ on := 1, ground := Ground.data }], guard := none }, { dst := some 43, op := Op.move (Operand.tmp 42), type := 4, pos := "ast.go:97", after := #[{ on := 2, ground := Ground.data }], guard := none }, { dst := some 44, op := Op.fieldAddr 40 (Operand.tmp 2) 5, type := 0, pos := "ast.go:97", after := #[{ on := 3, ground := Ground.guard }], guard := some (3, true) }, { dst := some 45, op := Op.load 37 (Operand.tmp 44), type := 37, pos := "ast.go:97", after := #[{ on := 4, ground := Ground.data }, { on := 3, ground := Ground.guard }], guard := some (3, true) }, { dst := some 46, op := Op.nilCheck (Operand.tmp 45), type := 0, pos := "ast.go:97", after := #[{ on := 5, ground := Ground.data }, { on := 3, ground := Ground.guard }], guard := some (3, true) }, { dst := some 47, op := Op.load 40 (Operand.tmp 46), type := 40, pos := "ast.go:97", after := #[{ on := 6, ground := Ground.data }, { on := 3, ground := Ground.guard }], guard := some (3, true) }, { dst := some 48, op := Op.fieldAddr 40 (Operand.tmp 3) 5, type := 0, pos := "ast.go:97", after := #[{ on := 3, ground := Ground.guard }], guard := some (3, true) }, { dst := some 49, op := Op.load 37 (Operand.tmp 48), type := 37, pos := "ast.go:97", after := #[{ on := 8, ground := Ground.data }, { on := 3, ground := Ground.guard }], guard := some (3, true) }, { dst := some 50, op := Op.nilCheck (Operand.tmp 49), type := 0, pos := "ast.go:97", after := #[{ on := 9, ground := Ground.data }, { on := 3, ground := Ground.guard }], guard := some (3, true) }, { dst := some 51, op := Op.load 40 (Operand.tmp 50), type := 40, pos := "ast.go:97", after := #[{ on := 10, ground := Ground.data }, { on := 3, ground := Ground.guard }], guard := some (3, true) }, { dst := some 52, op := Op.call { callee := Callee.value (Operand.func 81), args := #[Operand.tmp 47, Operand.tmp 51], argTypes := #[37, 40] }, type := 4, pos := "ast.go:97", after := #[{ on := 7, ground := Ground.data }, { on := 11, ground := Ground.data }, { on := 3, ground := Ground.chain }, { on := 3, ground := Ground.guard }], guard := some (3, true) }, { dst := some 53, op := Op.unOp UnOp.not 4 (Operand.tmp 52), type := 4, pos := "ast.go:97", after := #[{ on := 12, ground := Ground.data }, { on := 3, ground := Ground.guard }], guard := some (3, true) }, { dst := some 54, op := Op.pick (Operand.tmp 43) (Operand.tmp 53) (Operand.const (Value.bool false)), type := 4, pos := "ast.go:97", after := #[{ on := 3, ground := Ground.data }, { on := 13, ground := Ground.data }], guard := none }] true).wp Tryd.prog Q a0 W := by
  refine start_ (n := 15) (S := fun w' => True) (ds := []) #[false, false, false, false, false, false, false, false, false, false, false, false, false, false, false] (by kernel_rfl) rfl rfl trivial (fun hHeld => ?_)
  refine with_tabW as81n.tab as81n.bits (fun HT_ HW_ => ?_)
  refine inv_at [0, 1, 2, 3, 4, 5, 6, 7, 8, 9, 10, 11, 12, 13, 14] (fun a0_ b a w' => a = putSel a0_ b [(0, 40, .pointer (some ⟨w0.heap.size, 5, none⟩)), (1, 41, .pointer none), (2, 42, .bool false), (3, 43, .bool false), (4, 44, undef), (5, 45, undef), (6, 46, undef), (7, 47, undef), (8, 48, undef), (9, 49, undef), (10, 50, undef), (11, 51, undef), (12, 52, undef), (13, 53, undef), (14, 54, .bool false)] ∧ (ExI w0 x1 x2 A1 ca1 none V1 cv1 A2 ca2 q2 V2 cv2 w')) HT_.out HW_.out (by kernel_rfl) (by kernel_rfl) ?_ ?_ ?_
  · exact ⟨(by simp only [putSel, Bool.false_eq_true, if_false]), hI⟩
  · clear hI hend hHeld
    refine steps_cons ?_ ?_
    · rintro b a w' ⟨ha, hI⟩ hb_ hon hoff
      refine ⟨_, rfl, fun K hK => ?_⟩
      have e2 : a.tmps[2]? = some (.pointer (some ⟨w0.heap.size, 0, none⟩)) := by rw [ha]; exact (putSel_off rfl).trans s2
      replace ha := Aside0.mk ha
      refine value_ (w1 := w') (v := .pointer (some ⟨w0.heap.size, 5, none⟩)) (by rfl) rfl ?_ ?_
      · go_simp; try rfl
        all_goals (try (simp only [IntKind.wrap_i64]; omega))
      exact hK.out _ _ ⟨(by rw [ha.out]; exact putSel_upk 0 hb_ rfl rfl rfl), hI⟩
    refine steps_cons ?_ ?_
    · rintro b a w' ⟨ha, hI⟩ hb_ hon hoff
      refine ⟨_, rfl, fun K hK => ?_⟩
      have e40 : a.tmps[40]? = some (.pointer (some ⟨w0.heap.size, 5, none⟩)) := by rw [ha]; exact putSel_on (e := (0, 40, .pointer (some ⟨w0.heap.size, 5, none⟩))) 0 rfl rfl (hon 0 (by kernel_rfl)) (by rw [hsz]; rfl)
      replace ha := Aside0.mk ha
      have m0 := Own.c hI 1 5 rfl rfl
      refine value_ (w1 := w') (v := .pointer none) (by rfl) rfl ?_ ?_
      · go_simp; try rfl
        all_goals (try (simp only [IntKind.wrap_i64]; omega))
      exact hK.out _ _ ⟨(by rw [ha.out]; exact putSel_upk 1 hb_ rfl rfl rfl), hI⟩
    refine steps_cons ?_ ?_
    · rintro b a w' ⟨ha, hI⟩ hb_ hon hoff
      refine ⟨_, rfl, fun K hK => ?_⟩
      have e41 : a.tmps[41]? = some (.pointer none) := by rw [ha]; exact putSel_on (e := (1, 41, .pointer none)) 1 rfl rfl (hon 1 (by kernel_rfl)) (by rw [hsz]; rfl)
      replace ha := Aside0.mk ha
      refine value_ (w1 := w') (v := .bool false) (by rfl) rfl ?_ ?_
      · go_simp; try rfl
        all_goals (try (simp only [IntKind.wrap_i64]; omega))
      exact hK.out _ _ ⟨(by rw [ha.out]; exact putSel_upk 2 hb_ rfl rfl rfl), hI⟩
    refine steps_cons ?_ ?_
    · rintro b a w' ⟨ha, hI⟩ hb_ hon hoff
      refine ⟨_, rfl, fun K hK => ?_⟩
      have e42 : a.tmps[42]? = some (.bool false) := by rw [ha]; exact putSel_on (e := (2, 42, .bool false)) 2 rfl rfl (hon 2 (by kernel_rfl)) (by rw [hsz]; rfl)
      replace ha := Aside0.mk ha
      refine value_ (w1 := w') (v := .bool false) (by rfl) rfl ?_ ?_
      · go_simp; try rfl
        all_goals (try (simp only [IntKind.wrap_i64]; omega))
      exact hK.out _ _ ⟨(by rw [ha.out]; exact putSel_upk 3 hb_ rfl rfl rfl), hI⟩
    refine steps_cons ?_ ?_
    · rintro b a w' ⟨ha, hI⟩ hb_ hon hoff
      refine ⟨_, rfl, fun K hK => ?_⟩
      have e43 : a.tmps[43]? = some (.bool false) := by rw [ha]; exact putSel_on (e := (3, 43, .bool false)) 3 rfl rfl (hon 3 (by kernel_rfl)) (by rw [hsz]; rfl)
      exact off_ (wanted_off rfl rfl rfl e43) (hK.out _ _ ⟨(by rw [ha]; exact putSel_upk 4 hb_ rfl rfl rfl), hI⟩)
    refine steps_cons ?_ ?_
    · rintro b a w' ⟨ha, hI⟩ hb_ hon hoff
      refine ⟨_, rfl, fun K hK => ?_⟩
      have e43 : a.tmps[43]? = some (.bool false) := by rw [ha]; exact putSel_on (e := (3, 43, .bool false)) 3 rfl rfl (hon 3 (by kernel_rfl)) (by rw [hsz]; rfl)
      exact off_ (wanted_off rfl rfl rfl e43) (hK.out _ _ ⟨(by rw [ha]; exact putSel_upk 5 hb_ rfl rfl rfl), hI⟩)
    refine steps_cons ?_ ?_
    · rintro b a w' ⟨ha, hI⟩ hb_ hon hoff
      refine ⟨_, rfl, fun K hK => ?_⟩
      have e43 : a.tmps[43]? = some (.bool false) := by rw [ha]; exact putSel_on (e := (3, 43, .bool false)) 3 rfl rfl (hon 3 (by kernel_rfl)) (by rw [hsz]; rfl)
      exact off_ (wanted_off rfl rfl rfl e43) (hK.out _ _ ⟨(by rw [ha]; exact putSel_upk 6 hb_ rfl rfl rfl), hI⟩)
    refine steps_cons ?_ ?_
    · rintro b a w' ⟨ha, hI⟩ hb_ hon hoff
      refine ⟨_, rfl, fun K hK => ?_⟩
      have e43 : a.tmps[43]? = some (.bool false) := by rw [ha]; exact putSel_on (e := (3, 43, .bool false)) 3 rfl rfl (hon 3 (by kernel_rfl)) (by rw [hsz]; rfl)
      exact off_ (wanted_off rfl rfl rfl e43) (hK.out _ _ ⟨(by rw [ha]; exact putSel_upk 7 hb_ rfl rfl rfl), hI⟩)
    refine steps_cons ?_ ?_
    · rintro b a w' ⟨ha, hI⟩ hb_ hon hoff
      refine ⟨_, rfl, fun K hK => ?_⟩
      have e43 : a.tmps[43]? = some (.bool false) := by rw [ha]; exact putSel_on (e := (3, 43, .bool false)) 3 rfl rfl (hon 3 (by kernel_rfl)) (by rw [hsz]; rfl)
      exact off_ (wanted_off rfl rfl rfl e43) (hK.out _ _ ⟨(by rw [ha]; exact putSel_upk 8 hb_ rfl rfl rfl), hI⟩)
    refine steps_cons ?_ ?_
    · rintro b a w' ⟨ha, hI⟩ hb_ hon hoff
      refine ⟨_, rfl, fun K hK => ?_⟩
      have e43 : a.tmps[43]? = some (.bool false) := by rw [ha]; exact putSel_on (e := (3, 43, .bool false)) 3 rfl rfl (hon 3 (by kernel_rfl)) (by rw [hsz]; rfl)
      exact off_ (wanted_off rfl rfl rfl e43) (hK.out _ _ ⟨(by rw [ha]; exact putSel_upk 9 hb_ rfl rfl rfl), hI⟩)
    refine steps_cons ?_ ?_
    · rintro b a w' ⟨ha, hI⟩ hb_ hon hoff
      refine ⟨_, rfl, fun K hK => ?_⟩
      have e43 : a.tmps[43]? = some (.bool false) := by rw [ha]; exact putSel_on (e := (3, 43, .bool false)) 3 rfl rfl (hon 3 (by kernel_rfl)) (by rw [hsz]; rfl)
      exact off_ (wanted_off rfl rfl rfl e43) (hK.out _ _ ⟨(by rw [ha]; exact putSel_upk 10 hb_ rfl rfl rfl), hI⟩)
    refine steps_cons ?_ ?_
    · rintro b a w' ⟨ha, hI⟩ hb_ hon hoff
      refine ⟨_, rfl, fun K hK => ?_⟩
      have e43 : a.tmps[43]? = some (.bool false) := by rw [ha]; exact putSel_on (e := (3, 43, .bool false)) 3 rfl rfl (hon 3 (by kernel_rfl)) (by rw [hsz]; rfl)
      exact off_ (wanted_off rfl rfl rfl e43) (hK.out _ _ ⟨(by rw [ha]; exact putSel_upk 11 hb_ rfl rfl rfl), hI⟩)
    refine steps_cons ?_ ?_
    · rintro b a w' ⟨ha, hI⟩ hb_ hon hoff
      refine ⟨_, rfl, fun K hK => ?_⟩
      have e43 : a.tmps[43]? = some (.bool false) := by rw [ha]; exact putSel_on (e := (3, 43, .bool false)) 3 rfl rfl (hon 3 (by kernel_rfl)) (by rw [hsz]; rfl)
      exact off_ (wanted_off rfl rfl rfl e43) (hK.out _ _ ⟨(by rw [ha]; exact putSel_upk 12 hb_ rfl rfl rfl), hI⟩)
    refine steps_cons ?_ ?_
    · rintro b a w' ⟨ha, hI⟩ hb_ hon hoff
      refine ⟨_, rfl, fun K hK => ?_⟩
      have e43 : a.tmps[43]? = some (.bool false) := by rw [ha]; exact putSel_on (e := (3, 43, .bool false)) 3 rfl rfl (hon 3 (by kernel_rfl)) (by rw [hsz]; rfl)
      exact off_ (wanted_off rfl rfl rfl e43) (hK.out _ _ ⟨(by rw [ha]; exact putSel_upk 13 hb_ rfl rfl rfl), hI⟩)
    refine steps_cons ?_ ?_
    · rintro b a w' ⟨ha, hI⟩ hb_ hon hoff
      refine ⟨_, rfl, fun K hK => ?_⟩
      have e43 : a.tmps[43]? = some (.bool false) := by rw [ha]; exact putSel_on (e := (3, 43, .bool false)) 3 rfl rfl (hon 3 (by kernel_rfl)) (by rw [hsz]; rfl)
      have e53 : a.tmps[53]? = some (undef) := by rw [ha]; exact putSel_on (e := (13, 53, undef)) 13 rfl rfl (hon 13 (by kernel_rfl)) (by rw [hsz]; rfl)
      replace ha := Aside0.mk ha
      refine value_ (w1 := w') (v := .bool false) (by rfl) rfl ?_ ?_
      · go_simp; try rfl
        all_goals (try (simp only [IntKind.wrap_i64]; omega))
      exact hK.out _ _ ⟨(by rw [ha.out]; exact putSel_upk 14 hb_ rfl rfl rfl), hI⟩
    exact steps_nil
  rintro b a w1 hall ⟨ha, hI1⟩
  exact hend a w1 hI1 (by rw [ha]; simp only [putSel, if_true, hall 0 (by kernel_rfl), hall 1 (by kernel_rfl), hall 2 (by kernel_rfl), hall 3 (by kernel_rfl), hall 4 (by kernel_rfl), hall 5 (by kernel_rfl), hall 6 (by kernel_rfl), hall 7 (by kernel_rfl), hall 8 (by kernel_rfl), hall 9 (by kernel_rfl), hall 10 (by kernel_rfl), hall 11 (by kernel_rfl), hall 12 (by kernel_rfl), hall 13 (by kernel_rfl), hall 14 (by kernel_rfl)]) (by rw [ha]; exact (putSel_size b _ a0).2) (by rw [ha]; exact putSel_on (e := (14, 54, .bool false)) 14 rfl rfl (hall 14 (by kernel_rfl)) (by rw [hsz]; rfl))
end Go.Proofs.YtipmphgkdomebaaDoor
namespace Go.Proofs.YtipmphgkdomebaaDoor
open Go.RowKit Go.Proofs.YtipmphgkdomebaaDoorW.PrintWords Go.Proofs.YtipmphgkdomebaaDoorW.PrintLast
set_option linter.unusedVariables false
set_option linter.unusedSimpArgs false
def as47a.T : Bool × List (List Nat × List Nat) := (true, [([], []), ([], []), ([0, 1], [0, 1]), ([2], [2]), ([3], [3]), ([], []), ([], []), ([5, 6], [5, 6]), ([7], [7]), ([8], [8]), ([4, 9], [4, 9]), ([10], [10]), ([11], [11]), ([12, 11], [11, 12]), ([11], [11]), ([14, 11], [11, 14]), ([13, 15, 11], [11, 13, 15]), ([11, 16], [11, 16]), ([17, 11], [17]), ([18], [18]), ([19, 18], [18, 19]), ([20, 18, 18], [18, 20]), ([21], [21]), ([22, 21], [21, 22]), ([23, 21], [21, 23]), ([21], [21]), ([25, 21], [21, 25]), ([26, 21], [21, 26]), ([24, 27, 21, 21], [21, 24, 27]), ([28, 21], [21, 28]), ([21, 29, 18], [18, 21, 29]), ([18, 30], [18, 30])])
def as47a.B : List Nat := [0, 0, 3, 7, 15, 0, 0, 96, 224, 480, 1023, 2047, 4095, 8191, 4095, 20479, 65535, 131071, 262143, 524287, 1048575, 2097151, 4194303, 8388607, 16777215, 4194303, 37748735, 104857599, 268435455, 536870911, 1073741823, 2147483647]
theorem as47a.tab : rtab .any (opsOf Tryd.f47 8) = as47a.T := by kernel_rfl
theorem as47a.bits : waitsOk as47a.T.2 as47a.B = true := by kernel_rfl
set_option maxRecDepth 100000 in
set_option maxHeartbeats 4000000 in
theorem as47a (w0 : World) (t1 t2 : ByteArray) (hq : (t1.toList == t2.toList) = false) (n ca cb i b1 o1 b2 o2 : Nat) (q1 : (0 : Int) ≤ (i : Int)) (q2 : (i : Int) < (n : Int)) (p1 p2 : Option Addr) (d10 : w0.cell? ⟨b1, o1 + i * 2, none⟩ = some (.string t1)) (d20 : w0.cell? ⟨b2, o2 + i * 2, none⟩ = some (.string t2)) (a0 : Act) (s0 : a0.tmps[0]? = some (.slice (some ⟨b1, o1, none⟩) n ca)) (s1 : a0.tmps[1]? = some (.slice (some ⟨b2, o2, none⟩) n cb)) (s5 : a0.tmps[5]? = some (.int .i64 (i : Int))) (s6 : a0.tmps[6]? = some (.pointer p1)) (s7 : a0.tmps[7]? = some (.pointer p2)) (hsz : a0.tmps.size = Tryd.f47.ntmps) (W : World) (hI : Below w0.heap.size w0 W.drew) (Q : Exit → Act → World → Prop) (hend : ∀ (a9 : Act) w', Below w0.heap.size w0 w' → a9 = putSel a0 (fun _ => true) [(0, 28, .slice (some ⟨b1, o1, none⟩) n ca), (1, 29, .int .i64 (i : Int)), (2, 30, .pointer (some ⟨b1, o1 + i * 2, none⟩)), (3, 31, .pointer (some ⟨b1, o1 + i * 2, none⟩)), (4, 32, .string t1), (5, 33, .slice (some ⟨b2, o2, none⟩) n cb), (6, 34, .int .i64 (i : Int)), (7, 35, .pointer (some ⟨b2, o2 + i * 2, none⟩)), (8, 36, .pointer (some ⟨b2, o2 + i * 2, none⟩)), (9, 37, .string t2), (10, 38, .bool true), (11, 39, .bool true), (12, 40, undef), (13, 41, undef), (14, 42, undef), (15, 43, undef), (16, 44, undef), (17, 45, .bool true), (18, 46, .bool true), (19, 47, undef), (20, 48, undef), (21, 49, undef), (22, 50, undef), (23, 51, undef), (24, 52, undef), (25, 53, undef), (26, 54, undef), (27, 55, undef), (28, 56, undef), (29, 57, undef), (30, 58, undef), (31, 59, .bool true)] → a9.defers = a0.defers → a9.tmps[59]? = some (.bool true) → Q .normal a9 w') :
    (Code.region 8 #[{ dst := some 28, op := Op.move (Operand.tmp 0), type := 26, pos := "law.go:246", after := #[], guard := none }, { dst := some 29, op := Op.move (Operand.tmp 5), type := 3, pos := "law.go:246", after := #[], guard := none }, { dst := some 30, op := Op.indexAddr 26 (Operand.tmp 28) (Operand.tmp 29), type := 0, pos := "law.go:246", after := #[{ on := 0, ground := Ground.data }, { on := 1, ground := Ground.data }], guard := none }, { dst := some 31, op := Op.fieldAddr 42 (Operand.tmp 30) 0, type := 0, pos := "law.go:246", after := #[{ on := 2, ground := Ground.data }], guard := none }, { dst := some 32, op := Op.load 9 (Operand.tmp 31), type := 9, pos := "law.go:246", after := #[{ on := 3, ground := Ground.data }], guard := none }, { dst := some 33, op := Op.move (Operand.tmp 1), type := 26, pos := "law.go:246", after := #[], guard := none }, { dst := some 34, op := Op.move (Operand.tmp 5), type := 3, pos := "law.go:246", after := #[], guard := none }, { dst := some 35, op := Op.indexAddr 26 (Operand.tmp 33) (Operand.tmp 34), type := 0, pos := "law.go:246", after := #[{ on := 5, ground := Ground.data }, { on := 6, ground := Ground.data }], guard := none }, { dst := some 36, op := Op.fieldAddr 42 (Operand.tmp 35) 0, type := 0, pos := "law.go:246", after := #[{ on := 7, ground := Ground.data }], guard := none }, { dst := some 37, op := Op.load 9 (Operand.tmp 36), type := 9, pos := "law.go:246", after := #[{ on := 8, ground := Ground.data }], guard := none }, { dst := some 38, op := Op.binOp BinOp.neq 9 (Operand.tmp 32) (Operand.tmp 37) 9, type := 4, pos := "law.go:246", after := #[{ on := 4, ground := Ground.data }, { on := 9, ground := Ground.data }], guard := none }, { dst := some 39, op := Op.move (Operand.tmp 38), type := 4, pos := "law.go:246", after := #[{ on := 10, ground := Ground.data }], guard := none }, { dst := some 40, op := Op.move (Operand.tmp 6), type := 37, pos := "law.go:246", after := #[{ on := 11, ground := Ground.guard }], guard := some (11, false) }, { dst := some 41, op := Op.binOp BinOp.eql 37 (Operand.tmp 40) (Operand.const (Value.pointer none)) 37, type := 4, pos := "law.go:246", after := #[{ on := 12, ground := Ground.data }, { on := 11, ground := Ground.guard }], guard := some (11, false) }, { dst := some 42, op := Op.move (Operand.tmp 7), type := 37, pos := "law.go:246", after := #[{ on := 11, ground := Ground.guard }], guard := some (11, false) }, { dst := some 43, op := Op.binOp BinOp.eql 37 (Operand.tmp 42) (Operand.const (Value.pointer none)) 37, type := 4, pos := "law.go:246", after := #[{ on := 14, ground := Ground.data }, { on := 11, ground := Ground.guard }], guard := some (11, false) }, { dst := some 44, op := Op.binOp BinOp.neq 4 (Operand.tmp 41) (Operand.tmp 43) 4, type := 4, pos := "law.go:246", after := #[{ on := 13, ground := Ground.data }, { on := 15, ground := Ground.data }, { on := 11, ground := Ground.guard }], guard := some (11, false) }, { dst := some 45, op := Op.pick (Operand.tmp 39) (Operand.const (Value.bool true)) (Operand.tmp 44), type := 4, pos := "law.go:246", after := #[{ on := 11, ground := Ground.data }, { on := 16, ground := Ground.data }], guard := none }, { dst := some 46, op := Op.move (Operand.tmp 45), type := 4, pos := "law.go:246", after := #[{ on := 17, ground := Ground.data }, { on := 11, ground := Ground.chain }], guard := none }, { dst := some 47, op := Op.move (Operand.tmp 6), type := 37, pos := "law.go:246", after := #[{ on := 18, ground := Ground.guard }], guard := some (18, false) }, { dst := some 48, op := Op.binOp BinOp.neq 37 (Operand.tmp 47) (Operand.const (Value.pointer none)) 37, type := 4, pos := "law.go:246", after := #[{ on := 19, ground := Ground.data }, { on := 18, ground := Ground.guard }], guard := some (18, false) }, { dst := some 49, op := Op.move (Operand.tmp 48), type := 4, pos := "law.go:246", after := #[{ on := 20, ground := Ground.data }, { on := 18, ground := Ground.chain }, { on := 18, ground := Ground.guard }], guard := some (18, false) }, { dst := some 50, op := Op.move (Operand.tmp 6), type := 37, pos := "law.go:246", after := #[{ on := 21, ground := Ground.guard }], guard := some (21, true) }, { dst := some 51, op := Op.nilCheck (Operand.tmp 50), type := 0, pos := "law.go:246", after := #[{ on := 22, ground := Ground.data }, { on := 21, ground := Ground.guard }], guard := some (21, true) }, { dst := some 52, op := Op.load 40 (Operand.tmp 51), type := 40, pos := "law.go:246", after := #[{ on := 23, ground := Ground.data }, { on := 21, ground := Ground.guard }], guard := some (21, true) }, { dst := some 53, op := Op.move (Operand.tmp 7), type := 37, pos := "law.go:246", after := #[{ on := 21, ground := Ground.guard }], guard := some (21, true) }, { dst := some 54, op := Op.nilCheck (Operand.tmp 53), type := 0, pos := "law.go:246", after := #[{ on := 25, ground := Ground.data }, { on := 21, ground := Ground.guard }], guard := some (21, true) }, { dst := some 55, op := Op.load 40 (Operand.tmp 54), type := 40, pos := "law.go:246", after := #[{ on := 26, ground := Ground.data }, { on := 21, ground := Ground.guard }], guard := some (21, true) }, { dst := some 56, op := Op.call { callee := Callee.value (Operand.func 82), args := #[Operand.tmp 52, Operand.tmp 55], argTypes := #[40, 40] }, type := 4, pos := "law.go:246", after := #[{ on := 24, ground := Ground.data }, { on := 27, ground := Ground.data }, { on := 21, ground := Ground.chain }, { on := 21, ground := Ground.guard }], guard := some (21, true) }, { dst := some 57, op := Op.unOp UnOp.not 4 (Operand.tmp 56), type := 4, pos := "law.go:246", after := #[{ on := 28, ground := Ground.data }, { on := 21, ground := Ground.guard }], guard := some (21, true) }, { dst := some 58, op := Op.pick (Operand.tmp 49) (Operand.tmp 57) (Operand.const (Value.bool false)), type := 4, pos := "law.go:246", after := #[{ on := 21, ground := Ground.data }, { on := 29, ground := Ground.data }, { on := 18, ground := Ground.guard }], guard := some (18, false) }, { dst := some 59, op := Op.pick (Operand.tmp 46) (Operand.const (Value.bool true)) (Operand.tmp 58), type := 4, pos := "law.go:246", after := #[{ on := 18, ground := Ground.data }, { on := 30, ground := Ground.data }], guard := none }] true).wp Tryd.prog Q a0 W := by
  refine start_ (n := 32) (S := fun w' => True) (ds := []) #[false, false, false, false, false, false, false, false, false, false, false, false, false, false, false, false, false, false, false, false, false, false, false, false, false, false, false, false, false, false, false, false] (by kernel_rfl) rfl rfl trivial (fun hHeld => ?_)
  refine with_tabW as47a.tab as47a.bits (fun HT_ HW_ => ?_)
  refine inv_at [0, 1, 2, 3, 4, 5, 6, 7, 8, 9, 10, 11, 12, 13, 14, 15, 16, 17, 18, 19, 20, 21, 22, 23, 24, 25, 26, 27, 28, 29, 30, 31] (fun a0_ b a w' => a = putSel a0_ b [(0, 28, .slice (some ⟨b1, o1, none⟩) n ca), (1, 29, .int .i64 (i : Int)), (2, 30, .pointer (some ⟨b1, o1 + i * 2, none⟩)), (3, 31, .pointer (some ⟨b1, o1 + i * 2, none⟩)), (4, 32, .string t1), (5, 33, .slice (some ⟨b2, o2, none⟩) n cb), (6, 34, .int .i64 (i : Int)), (7, 35, .pointer (some ⟨b2, o2 + i * 2, none⟩)), (8, 36, .pointer (some ⟨b2, o2 + i * 2, none⟩)), (9, 37, .string t2), (10, 38, .bool true), (11, 39, .bool true), (12, 40, undef), (13, 41, undef), (14, 42, undef), (15, 43, undef), (16, 44, undef), (17, 45, .bool true), (18, 46, .bool true), (19, 47, undef), (20, 48, undef), (21, 49, undef), (22, 50, undef), (23, 51, undef), (24, 52, undef), (25, 53, undef), (26, 54, undef), (27, 55, undef), (28, 56, undef), (29, 57, undef), (30, 58, undef), (31, 59, .bool true)] ∧ (Below w0.heap.size w0 w')) HT_.out HW_.out (by kernel_rfl) (by kernel_rfl) ?_ ?_ ?_
  · exact ⟨(by simp only [putSel, Bool.false_eq_true, if_false]), hI⟩
  · clear hI hend hHeld
    refine steps_cons ?_ ?_
    · rintro b a w' ⟨ha, hI⟩ hb_ hon hoff
      refine ⟨_, rfl, fun K hK => ?_⟩
      have e0 : a.tmps[0]? = some (.slice (some ⟨b1, o1, none⟩) n ca) := by rw [ha]; exact (putSel_off rfl).trans s0
      replace ha := Aside0.mk ha
      refine value_ (w1 := w') (v := .slice (some ⟨b1, o1, none⟩) n ca) (by rfl) rfl ?_ ?_
      · go_simp; try rfl
        all_goals (try (simp only [IntKind.wrap_i64]; omega))
      exact hK.out _ _ ⟨(by rw [ha.out]; exact putSel_upk 0 hb_ rfl rfl rfl), hI⟩
    refine steps_cons ?_ ?_
    · rintro b a w' ⟨ha, hI⟩ hb_ hon hoff
      refine ⟨_, rfl, fun K hK => ?_⟩
      have e5 : a.tmps[5]? = some (.int .i64 (i : Int)) := by rw [ha]; exact (putSel_off rfl).trans s5
      replace ha := Aside0.mk ha
      refine value_ (w1 := w') (v := .int .i64 (i : Int)) (by rfl) rfl ?_ ?_
      · go_simp; try rfl
        all_goals (try (simp only [IntKind.wrap_i64]; omega))
      exact hK.out _ _ ⟨(by rw [ha.out]; exact putSel_upk 1 hb_ rfl rfl rfl), hI⟩
    refine steps_cons ?_ ?_
    · rintro b a w' ⟨ha, hI⟩ hb_ hon hoff
      refine ⟨_, rfl, fun K hK => ?_⟩
      have e28 : a.tmps[28]? = some (.slice (some ⟨b1, o1, none⟩) n ca) := by rw [ha]; exact putSel_on (e := (0, 28, .slice (some ⟨b1, o1, none⟩) n ca)) 0 rfl rfl (hon 0 (by kernel_rfl)) (by rw [hsz]; rfl)
      have e29 : a.tmps[29]? = some (.int .i64 (i : Int)) := by rw [ha]; exact putSel_on (e := (1, 29, .int .i64 (i : Int))) 1 rfl rfl (hon 1 (by kernel_rfl)) (by rw [hsz]; rfl)
      replace ha := Aside0.mk ha
      refine value_ (w1 := w') (v := .pointer (some ⟨b1, o1 + i * 2, none⟩)) (by rfl) rfl ?_ ?_
      · go_simp; try rfl
        all_goals (try (simp only [IntKind.wrap_i64]; omega))
      exact hK.out _ _ ⟨(by rw [ha.out]; exact putSel_upk 2 hb_ rfl rfl rfl), hI⟩
    refine steps_cons ?_ ?_
    · rintro b a w' ⟨ha, hI⟩ hb_ hon hoff
      refine ⟨_, rfl, fun K hK => ?_⟩
      have e30 : a.tmps[30]? = some (.pointer (some ⟨b1, o1 + i * 2, none⟩)) := by rw [ha]; exact putSel_on (e := (2, 30, .pointer (some ⟨b1, o1 + i * 2, none⟩))) 2 rfl rfl (hon 2 (by kernel_rfl)) (by rw [hsz]; rfl)
      replace ha := Aside0.mk ha
      refine value_ (w1 := w') (v := .pointer (some ⟨b1, o1 + i * 2, none⟩)) (by rfl) rfl ?_ ?_
      · go_simp; try rfl
        all_goals (try (simp only [IntKind.wrap_i64]; omega))
      exact hK.out _ _ ⟨(by rw [ha.out]; exact putSel_upk 3 hb_ rfl rfl rfl), hI⟩
    refine steps_cons ?_ ?_
    · rintro b a w' ⟨ha, hI⟩ hb_ hon hoff
      refine ⟨_, rfl, fun K hK => ?_⟩
      have e31 : a.tmps[31]? = some (.pointer (some ⟨b1, o1 + i * 2, none⟩)) := by rw [ha]; exact putSel_on (e := (3, 31, .pointer (some ⟨b1, o1 + i * 2, none⟩))) 3 rfl rfl (hon 3 (by kernel_rfl)) (by rw [hsz]; rfl)
      replace ha := Aside0.mk ha
      have m0 := Kept.of hI _ _ _ d10
      refine value_ (w1 := w') (v := .string t1) (by rfl) rfl ?_ ?_
      · go_simp; try rfl
        all_goals (try (simp only [IntKind.wrap_i64]; omega))
      exact hK.out _ _ ⟨(by rw [ha.out]; exact putSel_upk 4 hb_ rfl rfl rfl), hI⟩
    refine steps_cons ?_ ?_
    · rintro b a w' ⟨ha, hI⟩ hb_ hon hoff
      refine ⟨_, rfl, fun K hK => ?_⟩
      have e1 : a.tmps[1]? = some (.slice (some ⟨b2, o2, none⟩) n cb) := by rw [ha]; exact (putSel_off rfl).trans s1
      replace ha := Aside0.mk ha
      refine value_ (w1 := w') (v := .slice (some ⟨b2, o2, none⟩) n cb) (by rfl) rfl ?_ ?_
      · go_simp; try rfl
        all_goals (try (simp only [IntKind.wrap_i64]; omega))
      exact hK.out _ _ ⟨(by rw [ha.out]; exact putSel_upk 5 hb_ rfl rfl rfl), hI⟩
    refine steps_cons ?_ ?_
    · rintro b a w' ⟨ha, hI⟩ hb_ hon hoff
      refine ⟨_, rfl, fun K hK => ?_⟩
      have e5 : a.tmps[5]? = some (.int .i64 (i : Int)) := by rw [ha]; exact (putSel_off rfl).trans s5
      replace ha := Aside0.mk ha
      refine value_ (w1 := w') (v := .int .i64 (i : Int)) (by rfl) rfl ?_ ?_
      · go_simp; try rfl
        all_goals (try (simp only [IntKind.wrap_i64]; omega))
      exact hK.out _ _ ⟨(by rw [ha.out]; exact putSel_upk 6 hb_ rfl rfl rfl), hI⟩
    refine steps_cons ?_ ?_
    · rintro b a w' ⟨ha, hI⟩ hb_ hon hoff
      refine ⟨_, rfl, fun K hK => ?_⟩
      have e33 : a.tmps[33]? = some (.slice (some ⟨b2, o2, none⟩) n cb) := by rw [ha]; exact putSel_on (e := (5, 33, .slice (some ⟨b2, o2, none⟩) n cb)) 5 rfl rfl (hon 5 (by kernel_rfl)) (by rw [hsz]; rfl)
      have e34 : a.tmps[34]? = some (.int .i64 (i : Int)) := by rw [ha]; exact putSel_on (e := (6, 34, .int .i64 (i : Int))) 6 rfl rfl (hon 6 (by kernel_rfl)) (by rw [hsz]; rfl)
      replace ha := Aside0.mk ha
      refine value_ (w1 := w') (v := .pointer (some ⟨b2, o2 + i * 2, none⟩)) (by rfl) rfl ?_ ?_
      · go_simp; try rfl
        all_goals (try (simp only [IntKind.wrap_i64]; omega))
      exact hK.out _ _ ⟨(by rw [ha.out]; exact putSel_upk 7 hb_ rfl rfl rfl), hI⟩
    refine steps_cons ?_ ?_
    · rintro b a w' ⟨ha, hI⟩ hb_ hon hoff
      refine ⟨_, rfl, fun K hK => ?_⟩
      have e35 : a.tmps[35]? = some (.pointer (some ⟨b2, o2 + i * 2, none⟩)) := by rw [ha]; exact putSel_on (e := (7, 35, .pointer (some ⟨b2, o2 + i * 2, none⟩))) 7 rfl rfl (hon 7 (by kernel_rfl)) (by rw [hsz]; rfl)
      replace ha := Aside0.mk ha
      refine value_ (w1 := w') (v := .pointer (some ⟨b2, o2 + i * 2, none⟩)) (by rfl) rfl ?_ ?_
      · go_simp; try rfl
        all_goals (try (simp only [IntKind.wrap_i64]; omega))
      exact hK.out _ _ ⟨(by rw [ha.out]; exact putSel_upk 8 hb_ rfl rfl rfl), hI⟩
    refine steps_cons ?_ ?_
    · rintro b a w' ⟨ha, hI⟩ hb_ hon hoff
      refine ⟨_, rfl, fun K hK => ?_⟩
      have e36 : a.tmps[36]? = some (.pointer (some ⟨b2, o2 + i * 2, none⟩)) := by rw [ha]; exact putSel_on (e := (8, 36, .pointer (some ⟨b2, o2 + i * 2, none⟩))) 8 rfl rfl (hon 8 (by kernel_rfl)) (by rw [hsz]; rfl)
      replace ha := Aside0.mk ha
      have m0 := Kept.of hI _ _ _ d20
      refine value_ (w1 := w') (v := .string t2) (by rfl) rfl ?_ ?_
      · go_simp; try rfl
        all_goals (try (simp only [IntKind.wrap_i64]; omega))
      exact hK.out _ _ ⟨(by rw [ha.out]; exact putSel_upk 9 hb_ rfl rfl rfl), hI⟩
    refine steps_cons ?_ ?_
    · rintro b a w' ⟨ha, hI⟩ hb_ hon hoff
      refine ⟨_, rfl, fun K hK => ?_⟩
      have e32 : a.tmps[32]? = some (.string t1) := by rw [ha]; exact putSel_on (e := (4, 32, .string t1)) 4 rfl rfl (hon 4 (by kernel_rfl)) (by rw [hsz]; rfl)
      have e37 : a.tmps[37]? = some (.string t2) := by rw [ha]; exact putSel_on (e := (9, 37, .string t2)) 9 rfl rfl (hon 9 (by kernel_rfl)) (by rw [hsz]; rfl)
      replace ha := Aside0.mk ha
      refine value_ (w1 := w') (v := .bool true) (by rfl) rfl ?_ ?_
      · go_simp; try rfl
        all_goals (try (simp only [IntKind.wrap_i64]; omega))
      exact hK.out _ _ ⟨(by rw [ha.out]; exact putSel_upk 10 hb_ rfl rfl rfl), hI⟩
    refine steps_cons ?_ ?_
    · rintro b a w' ⟨ha, hI⟩ hb_ hon hoff
      refine ⟨_, rfl, fun K hK => ?_⟩
      have e38 : a.tmps[38]? = some (.bool true) := by rw [ha]; exact putSel_on (e := (10, 38, .bool true)) 10 rfl rfl (hon 10 (by kernel_rfl)) (by rw [hsz]; rfl)
      replace ha := Aside0.mk ha
      refine value_ (w1 := w') (v := .bool true) (by rfl) rfl ?_ ?_
      · go_simp; try rfl
        all_goals (try (simp only [IntKind.wrap_i64]; omega))
      exact hK.out _ _ ⟨(by rw [ha.out]; exact putSel_upk 11 hb_ rfl rfl rfl), hI⟩
    refine steps_cons ?_ ?_
    · rintro b a w' ⟨ha, hI⟩ hb_ hon hoff
      refine ⟨_, rfl, fun K hK => ?_⟩
      have e39 : a.tmps[39]? = some (.bool true) := by rw [ha]; exact putSel_on (e := (11, 39, .bool true)) 11 rfl rfl (hon 11 (by kernel_rfl)) (by rw [hsz]; rfl)
      exact off_ (wanted_off rfl rfl rfl e39) (hK.out _ _ ⟨(by rw [ha]; exact putSel_upk 12 hb_ rfl rfl rfl), hI⟩)
    refine steps_cons ?_ ?_
    · rintro b a w' ⟨ha, hI⟩ hb_ hon hoff
      refine ⟨_, rfl, fun K hK => ?_⟩
      have e39 : a.tmps[39]? = some (.bool true) := by rw [ha]; exact putSel_on (e := (11, 39, .bool true)) 11 rfl rfl (hon 11 (by kernel_rfl)) (by rw [hsz]; rfl)
      exact off_ (wanted_off rfl rfl rfl e39) (hK.out _ _ ⟨(by rw [ha]; exact putSel_upk 13 hb_ rfl rfl rfl), hI⟩)
    refine steps_cons ?_ ?_
    · rintro b a w' ⟨ha, hI⟩ hb_ hon hoff
      refine ⟨_, rfl, fun K hK => ?_⟩
      have e39 : a.tmps[39]? = some (.bool true) := by rw [ha]; exact putSel_on (e := (11, 39, .bool true)) 11 rfl rfl (hon 11 (by kernel_rfl)) (by rw [hsz]; rfl)
      exact off_ (wanted_off rfl rfl rfl e39) (hK.out _ _ ⟨(by rw [ha]; exact putSel_upk 14 hb_ rfl rfl rfl), hI⟩)
    refine steps_cons ?_ ?_
    · rintro b a w' ⟨ha, hI⟩ hb_ hon hoff
      refine ⟨_, rfl, fun K hK => ?_⟩
      have e39 : a.tmps[39]? = some (.bool true) := by rw [ha]; exact putSel_on (e := (11, 39, .bool true)) 11 rfl rfl (hon 11 (by kernel_rfl)) (by rw [hsz]; rfl)
      exact off_ (wanted_off rfl rfl rfl e39) (hK.out _ _ ⟨(by rw [ha]; exact putSel_upk 15 hb_ rfl rfl rfl), hI⟩)
    refine steps_cons ?_ ?_
    · rintro b a w' ⟨ha, hI⟩ hb_ hon hoff
      refine ⟨_, rfl, fun K hK => ?_⟩
      have e39 : a.tmps[39]? = some (.bool true) := by rw [ha]; exact putSel_on (e := (11, 39, .bool true)) 11 rfl rfl (hon 11 (by kernel_rfl)) (by rw [hsz]; rfl)
      exact off_ (wanted_off rfl rfl rfl e39) (hK.out _ _ ⟨(by rw [ha]; exact putSel_upk 16 hb_ rfl rfl rfl), hI⟩)
    refine steps_cons ?_ ?_
    · rintro b a w' ⟨ha, hI⟩ hb_ hon hoff
      refine ⟨_, rfl, fun K hK => ?_⟩
      have e39 : a.tmps[39]? = some (.bool true) := by rw [ha]; exact putSel_on (e := (11, 39, .bool true)) 11 rfl rfl (hon 11 (by kernel_rfl)) (by rw [hsz]; rfl)
      have e44 : a.tmps[44]? = some (undef) := by rw [ha]; exact putSel_on (e := (16, 44, undef)) 16 rfl rfl (hon 16 (by kernel_rfl)) (by rw [hsz]; rfl)
      replace ha := Aside0.mk ha
      refine value_ (w1 := w') (v := .bool true) (by rfl) rfl ?_ ?_
      · go_simp; try rfl
        all_goals (try (simp only [IntKind.wrap_i64]; omega))
      exact hK.out _ _ ⟨(by rw [ha.out]; exact putSel_upk 17 hb_ rfl rfl rfl), hI⟩
    refine steps_cons ?_ ?_
    · rintro b a w' ⟨ha, hI⟩ hb_ hon hoff
      refine ⟨_, rfl, fun K hK => ?_⟩
      have e45 : a.tmps[45]? = some (.bool true) := by rw [ha]; exact putSel_on (e := (17, 45, .bool true)) 17 rfl rfl (hon 17 (by kernel_rfl)) (by rw [hsz]; rfl)
      replace ha := Aside0.mk ha
      refine value_ (w1 := w') (v := .bool true) (by rfl) rfl ?_ ?_
      · go_simp; try rfl
        all_goals (try (simp only [IntKind.wrap_i64]; omega))
      exact hK.out _ _ ⟨(by rw [ha.out]; exact putSel_upk 18 hb_ rfl rfl rfl), hI⟩
    refine steps_cons ?_ ?_
    · rintro b a w' ⟨ha, hI⟩ hb_ hon hoff
      refine ⟨_, rfl, fun K hK => ?_⟩
      have e46 : a.tmps[46]? = some (.bool true) := by rw [ha]; exact putSel_on (e := (18, 46, .bool true)) 18 rfl rfl (hon 18 (by kernel_rfl)) (by rw [hsz]; rfl)
      exact off_ (wanted_off rfl rfl rfl e46) (hK.out _ _ ⟨(by rw [ha]; exact putSel_upk 19 hb_ rfl rfl rfl), hI⟩)
    refine steps_cons ?_ ?_
    · rintro b a w' ⟨ha, hI⟩ hb_ hon hoff
      refine ⟨_, rfl, fun K hK => ?_⟩
      have e46 : a.tmps[46]? = some (.bool true) := by rw [ha]; exact putSel_on (e := (18, 46, .bool true)) 18 rfl rfl (hon 18 (by kernel_rfl)) (by rw [hsz]; rfl)
      exact off_ (wanted_off rfl rfl rfl e46) (hK.out _ _ ⟨(by rw [ha]; exact putSel_upk 20 hb_ rfl rfl rfl), hI⟩)
    refine steps_cons ?_ ?_
    · rintro b a w' ⟨ha, hI⟩ hb_ hon hoff
      refine ⟨_, rfl, fun K hK => ?_⟩
      have e46 : a.tmps[46]? = some (.bool true) := by rw [ha]; exact putSel_on (e := (18, 46, .bool true)) 18 rfl rfl (hon 18 (by kernel_rfl)) (by rw [hsz]; rfl)
      exact off_ (wanted_off rfl rfl rfl e46) (hK.out _ _ ⟨(by rw [ha]; exact putSel_upk 21 hb_ rfl rfl rfl), hI⟩)
    refine steps_cons ?_ ?_
    · rintro b a w' ⟨ha, hI⟩ hb_ hon hoff
      refine ⟨_, rfl, fun K hK => ?_⟩
      have e49 : a.tmps[49]? = some (undef) := by rw [ha]; exact putSel_on (e := (21, 49, undef)) 21 rfl rfl (hon 21 (by kernel_rfl)) (by rw [hsz]; rfl)
      exact off_ (wanted_und rfl rfl rfl e49) (hK.out _ _ ⟨(by rw [ha]; exact putSel_upk 22 hb_ rfl rfl rfl), hI⟩)
    refine steps_cons ?_ ?_
    · rintro b a w' ⟨ha, hI⟩ hb_ hon hoff
      refine ⟨_, rfl, fun K hK => ?_⟩
      have e49 : a.tmps[49]? = some (undef) := by rw [ha]; exact putSel_on (e := (21, 49, undef)) 21 rfl rfl (hon 21 (by kernel_rfl)) (by rw [hsz]; rfl)
      exact off_ (wanted_und rfl rfl rfl e49) (hK.out _ _ ⟨(by rw [ha]; exact putSel_upk 23 hb_ rfl rfl rfl), hI⟩)
    refine steps_cons ?_ ?_
    · rintro b a w' ⟨ha, hI⟩ hb_ hon hoff
      refine ⟨_, rfl, fun K hK => ?_⟩
      have e49 : a.tmps[49]? = some (undef) := by rw [ha]; exact putSel_on (e := (21, 49, undef)) 21 rfl rfl (hon 21 (by kernel_rfl)) (by rw [hsz]; rfl)
      exact off_ (wanted_und rfl rfl rfl e49) (hK.out _ _ ⟨(by rw [ha]; exact putSel_upk 24 hb_ rfl rfl rfl), hI⟩)
    refine steps_cons ?_ ?_
    · rintro b a w' ⟨ha, hI⟩ hb_ hon hoff
      refine ⟨_, rfl, fun K hK => ?_⟩
      have e49 : a.tmps[49]? = some (undef) := by rw [ha]; exact putSel_on (e := (21, 49, undef)) 21 rfl rfl (hon 21 (by kernel_rfl)) (by rw [hsz]; rfl)
      exact off_ (wanted_und rfl rfl rfl e49) (hK.out _ _ ⟨(by rw [ha]; exact putSel_upk 25 hb_ rfl rfl rfl), hI⟩)
    refine steps_cons ?_ ?_
    · rintro b a w' ⟨ha, hI⟩ hb_ hon hoff
      refine ⟨_, rfl, fun K hK => ?_⟩
      have e49 : a.tmps[49]? = some (undef) := by rw [ha]; exact putSel_on (e := (21, 49, undef)) 21 rfl rfl (hon 21 (by kernel_rfl)) (by rw [hsz]; rfl)
      exact off_ (wanted_und rfl rfl rfl e49) (hK.out _ _ ⟨(by rw [ha]; exact putSel_upk 26 hb_ rfl rfl rfl), hI⟩)
    refine steps_cons ?_ ?_
    · rintro b a w' ⟨ha, hI⟩ hb_ hon hoff
      refine ⟨_, rfl, fun K hK => ?_⟩
      have e49 : a.tmps[49]? = some (undef) := by rw [ha]; exact putSel_on (e := (21, 49, undef)) 21 rfl rfl (hon 21 (by kernel_rfl)) (by rw [hsz]; rfl)
      exact off_ (wanted_und rfl rfl rfl e49) (hK.out _ _ ⟨(by rw [ha]; exact putSel_upk 27 hb_ rfl rfl rfl), hI⟩)
    refine steps_cons ?_ ?_
    · rintro b a w' ⟨ha, hI⟩ hb_ hon hoff
      refine ⟨_, rfl, fun K hK => ?_⟩
      have e49 : a.tmps[49]? = some (undef) := by rw [ha]; exact putSel_on (e := (21, 49, undef)) 21 rfl rfl (hon 21 (by kernel_rfl)) (by rw [hsz]; rfl)
      exact off_ (wanted_und rfl rfl rfl e49) (hK.out _ _ ⟨(by rw [ha]; exact putSel_upk 28 hb_ rfl rfl rfl), hI⟩)
    refine steps_cons ?_ ?_
    · rintro b a w' ⟨ha, hI⟩ hb_ hon hoff
      refine ⟨_, rfl, fun K hK => ?_⟩
      have e49 : a.tmps[49]? = some (undef) := by rw [ha]; exact putSel_on (e := (21, 49, undef)) 21 rfl rfl (hon 21 (by kernel_rfl)) (by rw [hsz]; rfl)
      exact off_ (wanted_und rfl rfl rfl e49) (hK.out _ _ ⟨(by rw [ha]; exact putSel_upk 29 hb_ rfl rfl rfl), hI⟩)
    refine steps_cons ?_ ?_
    · rintro b a w' ⟨ha, hI⟩ hb_ hon hoff
      refine ⟨_, rfl, fun K hK => ?_⟩
      have e46 : a.tmps[46]? = some (.bool true) := by rw [ha]; exact putSel_on (e := (18, 46, .bool true)) 18 rfl rfl (hon 18 (by kernel_rfl)) (by rw [hsz]; rfl)
      exact off_ (wanted_off rfl rfl rfl e46) (hK.out _ _ ⟨(by rw [ha]; exact putSel_upk 30 hb_ rfl rfl rfl), hI⟩)
    refine steps_cons ?_ ?_
    · rintro b a w' ⟨ha, hI⟩ hb_ hon hoff
      refine ⟨_, rfl, fun K hK => ?_⟩
      have e46 : a.tmps[46]? = some (.bool true) := by rw [ha]; exact putSel_on (e := (18, 46, .bool true)) 18 rfl rfl (hon 18 (by kernel_rfl)) (by rw [hsz]; rfl)
      have e58 : a.tmps[58]? = some (undef) := by rw [ha]; exact putSel_on (e := (30, 58, undef)) 30 rfl rfl (hon 30 (by kernel_rfl)) (by rw [hsz]; rfl)
      replace ha := Aside0.mk ha
      refine value_ (w1 := w') (v := .bool true) (by rfl) rfl ?_ ?_
      · go_simp; try rfl
        all_goals (try (simp only [IntKind.wrap_i64]; omega))
      exact hK.out _ _ ⟨(by rw [ha.out]; exact putSel_upk 31 hb_ rfl rfl rfl), hI⟩
    exact steps_nil
  rintro b a w1 hall ⟨ha, hI1⟩
  exact hend a w1 hI1 (by rw [ha]; simp only [putSel, if_true, hall 0 (by kernel_rfl), hall 1 (by kernel_rfl), hall 2 (by kernel_rfl), hall 3 (by kernel_rfl), hall 4 (by kernel_rfl), hall 5 (by kernel_rfl), hall 6 (by kernel_rfl), hall 7 (by kernel_rfl), hall 8 (by kernel_rfl), hall 9 (by kernel_rfl), hall 10 (by kernel_rfl), hall 11 (by kernel_rfl), hall 12 (by kernel_rfl), hall 13 (by kernel_rfl), hall 14 (by kernel_rfl), hall 15 (by kernel_rfl), hall 16 (by kernel_rfl), hall 17 (by kernel_rfl), hall 18 (by kernel_rfl), hall 19 (by kernel_rfl), hall 20 (by kernel_rfl), hall 21 (by kernel_rfl), hall 22 (by kernel_rfl), hall 23 (by kernel_rfl), hall 24 (by kernel_rfl), hall 25 (by kernel_rfl), hall 26 (by kernel_rfl), hall 27 (by kernel_rfl), hall 28 (by kernel_rfl), hall 29 (by kernel_rfl), hall 30 (by kernel_rfl), hall 31 (by kernel_rfl)]) (by rw [ha]; exact (putSel_size b _ a0).2) (by rw [ha]; exact putSel_on (e := (31, 59, .bool true)) 31 rfl rfl (hall 31 (by kernel_rfl)) (by rw [hsz]; rfl))
end Go.Proofs.YtipmphgkdomebaaDoor
namespace Go.Proofs.YtipmphgkdomebaaDoor
open Go.RowKit Go.Proofs.YtipmphgkdomebaaDoorW.PrintWords Go.Proofs.YtipmphgkdomebaaDoorW.PrintLast
set_option linter.unusedVariables false
set_option linter.unusedSimpArgs false
def as47bn.T : Bool × List (List Nat × List Nat) := (true, [([], []), ([], []), ([0, 1], [0, 1]), ([2], [2]), ([3], [3]), ([], []), ([], []), ([5, 6], [5, 6]), ([7], [7]), ([8], [8]), ([4, 9], [4, 9]), ([10], [10]), ([11], [11]), ([12, 11], [11, 12]), ([11], [11]), ([14, 11], [11, 14]), ([13, 15, 11], [11, 13, 15]), ([11, 16], [11, 16]), ([17, 11], [17]), ([18], [18]), ([19, 18], [18, 19]), ([20, 18, 18], [18, 20]), ([21], [21]), ([22, 21], [21, 22]), ([23, 21], [21, 23]), ([21], [21]), ([25, 21], [21, 25]), ([26, 21], [21, 26]), ([24, 27, 21, 21], [21, 24, 27]), ([28, 21], [21, 28]), ([21, 29, 18], [18, 21, 29]), ([18, 30], [18, 30])])
def as47bn.B : List Nat := [0, 0, 3, 7, 15, 0, 0, 96, 224, 480, 1023, 2047, 4095, 8191, 4095, 20479, 65535, 131071, 262143, 524287, 1048575, 2097151, 4194303, 8388607, 16777215, 4194303, 37748735, 104857599, 268435455, 536870911, 1073741823, 2147483647]
theorem as47bn.tab : rtab .any (opsOf Tryd.f47 8) = as47bn.T := by kernel_rfl
theorem as47bn.bits : waitsOk as47bn.T.2 as47bn.B = true := by kernel_rfl
set_option maxRecDepth 100000 in
set_option maxHeartbeats 4000000 in
theorem as47bn (w0 : World) (t1 t2 : ByteArray) (hq : (t1.toList == t2.toList) = true) (n ca cb i b1 o1 b2 o2 : Nat) (q1 : (0 : Int) ≤ (i : Int)) (q2 : (i : Int) < (n : Int)) (b4 o4 : Nat) (d10 : w0.cell? ⟨b1, o1 + i * 2, none⟩ = some (.string t1)) (d20 : w0.cell? ⟨b2, o2 + i * 2, none⟩ = some (.string t2)) (a0 : Act) (s0 : a0.tmps[0]? = some (.slice (some ⟨b1, o1, none⟩) n ca)) (s1 : a0.tmps[1]? = some (.slice (some ⟨b2, o2, none⟩) n cb)) (s5 : a0.tmps[5]? = some (.int .i64 (i : Int))) (s6 : a0.tmps[6]? = some (.pointer none)) (s7 : a0.tmps[7]? = some (.pointer (some ⟨b4, o4, none⟩))) (hsz : a0.tmps.size = Tryd.f47.ntmps) (W : World) (hI : Below w0.heap.size w0 W.drew) (Q : Exit → Act → World → Prop) (hend : ∀ (a9 : Act) w', Below w0.heap.size w0 w' → a9 = putSel a0 (fun _ => true) [(0, 28, .slice (some ⟨b1, o1, none⟩) n ca), (1, 29, .int .i64 (i : Int)), (2, 30, .pointer (some ⟨b1, o1 + i * 2, none⟩)), (3, 31, .pointer (some ⟨b1, o1 + i * 2, none⟩)), (4, 32, .string t1), (5, 33, .slice (some ⟨b2, o2, none⟩) n cb), (6, 34, .int .i64 (i : Int)), (7, 35, .pointer (some ⟨b2, o2 + i * 2, none⟩)), (8, 36, .pointer (some ⟨b2, o2 + i * 2, none⟩)), (9, 37, .string t2), (10, 38, .bool false), (11, 39, .bool false), (12, 40, .pointer none), (13, 41, .bool true), (14, 42, .pointer (some ⟨b4, o4, none⟩)), (15, 43, .bool false), (16, 44, .bool true), (17, 45, .bool true), (18, 46, .bool true), (19, 47, undef), (20, 48, undef), (21, 49, undef), (22, 50, undef), (23, 51, undef), (24, 52, undef), (25, 53, undef), (26, 54, undef), (27, 55, undef), (28, 56, undef), (29, 57, undef), (30, 58, undef), (31, 59, .bool true)] → a9.defers = a0.defers → a9.tmps[59]? = some (.bool true) → Q .normal a9 w') :
    (Code.region 8 #[{ dst := some 28, op := Op.move (Operand.tmp 0), type := 26, pos := "law.go:246", after := #[], guard := none }, { dst := some 29, op := Op.move (Operand.tmp 5), type := 3, pos := "law.go:246", after := #[], guard := none }, { dst := some 30, op := Op.indexAddr 26 (Operand.tmp 28) (Operand.tmp 29), type := 0, pos := "law.go:246", after := #[{ on := 0, ground := Ground.data }, { on := 1, ground := Ground.data }], guard := none }, { dst := some 31, op := Op.fieldAddr 42 (Operand.tmp 30) 0, type := 0, pos := "law.go:246", after := #[{ on := 2, ground := Ground.data }], guard := none }, { dst := some 32, op := Op.load 9 (Operand.tmp 31), type := 9, pos := "law.go:246", after := #[{ on := 3, ground := Ground.data }], guard := none }, { dst := some 33, op := Op.move (Operand.tmp 1), type := 26, pos := "law.go:246", after := #[], guard := none }, { dst := some 34, op := Op.move (Operand.tmp 5), type := 3, pos := "law.go:246", after := #[], guard := none }, { dst := some 35, op := Op.indexAddr 26 (Operand.tmp 33) (Operand.tmp 34), type := 0, pos := "law.go:246", after := #[{ on := 5, ground := Ground.data }, { on := 6, ground := Ground.data }], guard := none }, { dst := some 36, op := Op.fieldAddr 42 (Operand.tmp 35) 0, type := 0, pos := "law.go:246", after := #[{ on := 7, ground := Ground.data }], guard := none }, { dst := some 37, op := Op.load 9 (Operand.tmp 36), type := 9, pos := "law.go:246", after := #[{ on := 8, ground := Ground.data }], guard := none }, { dst := some 38, op := Op.binOp BinOp.neq 9 (Operand.tmp 32) (Operand.tmp 37) 9, type := 4, pos := "law.go:246", after := #[{ on := 4, ground := Ground.data }, { on := 9, ground := Ground.data }], guard := none }, { dst := some 39, op := Op.move (Operand.tmp 38), type := 4, pos := "law.go:246", after := #[{ on := 10, ground := Ground.data }], guard := none }, { dst := some 40, op := Op.move (Operand.tmp 6), type := 37, pos := "law.go:246", after := #[{ on := 11, ground := Ground.guard }], guard := some (11, false) }, { dst := some 41, op := Op.binOp BinOp.eql 37 (Operand.tmp 40) (Operand.const (Value.pointer none)) 37, type := 4, pos := "law.go:246", after := #[{ on := 12, ground := Ground.data }, { on := 11, ground := Ground.guard }], guard := some (11, false) }, { dst := some 42, op := Op.move (Operand.tmp 7), type := 37, pos := "law.go:246", after := #[{ on := 11, ground := Ground.guard }], guard := some (11, false) }, { dst := some 43, op := Op.binOp BinOp.eql 37 (Operand.tmp 42) (Operand.const (Value.pointer none)) 37, type := 4, pos := "law.go:246", after := #[{ on := 14, ground := Ground.data }, { on := 11, ground := Ground.guard }], guard := some (11, false) }, { dst := some 44, op := Op.binOp BinOp.neq 4 (Operand.tmp 41) (Operand.tmp 43) 4, type := 4, pos := "law.go:246", after := #[{ on := 13, ground := Ground.data }, { on := 15, ground := Ground.data }, { on := 11, ground := Ground.guard }], guard := some (11, false) }, { dst := some 45, op := Op.pick (Operand.tmp 39) (Operand.const (Value.bool true)) (Operand.tmp 44), type := 4, pos := "law.go:246", after := #[{ on := 11, ground := Ground.data }, { on := 16, ground := Ground.data }], guard := none }, { dst := some 46, op := Op.move (Operand.tmp 45), type := 4, pos := "law.go:246", after := #[{ on := 17, ground := Ground.data }, { on := 11, ground := Ground.chain }], guard := none }, { dst := some 47, op := Op.move (Operand.tmp 6), type := 37, pos := "law.go:246", after := #[{ on := 18, ground := Ground.guard }], guard := some (18, false) }, { dst := some 48, op := Op.binOp BinOp.neq 37 (Operand.tmp 47) (Operand.const (Value.pointer none)) 37, type := 4, pos := "law.go:246", after := #[{ on := 19, ground := Ground.data }, { on := 18, ground := Ground.guard }], guard := some (18, false) }, { dst := some 49, op := Op.move (Operand.tmp 48), type := 4, pos := "law.go:246", after := #[{ on := 20, ground := Ground.data }, { on := 18, ground := Ground.chain }, { on := 18, ground := Ground.guard }], guard := some (18, false) }, { dst := some 50, op := Op.move (Operand.tmp 6), type := 37, pos := "law.go:246", after := #[{ on := 21, ground := Ground.guard }], guard := some (21, true) }, { dst := some 51, op := Op.nilCheck (Operand.tmp 50), type := 0, pos := "law.go:246", after := #[{ on := 22, ground := Ground.data }, { on := 21, ground := Ground.guard }], guard := some (21, true) }, { dst := some 52, op := Op.load 40 (Operand.tmp 51), type := 40, pos := "law.go:246", after := #[{ on := 23, ground := Ground.data }, { on := 21, ground := Ground.guard }], guard := some (21, true) }, { dst := some 53, op := Op.move (Operand.tmp 7), type := 37, pos := "law.go:246", after := #[{ on := 21, ground := Ground.guard }], guard := some (21, true) }, { dst := some 54, op := Op.nilCheck (Operand.tmp 53), type := 0, pos := "law.go:246", after := #[{ on := 25, ground := Ground.data }, { on := 21, ground := Ground.guard }], guard := some (21, true) }, { dst := some 55, op := Op.load 40 (Operand.tmp 54), type := 40, pos := "law.go:246", after := #[{ on := 26, ground := Ground.data }, { on := 21, ground := Ground.guard }], guard := some (21, true) }, { dst := some 56, op := Op.call { callee := Callee.value (Operand.func 82), args := #[Operand.tmp 52, Operand.tmp 55], argTypes := #[40, 40] }, type := 4, pos := "law.go:246", after := #[{ on := 24, ground := Ground.data }, { on := 27, ground := Ground.data }, { on := 21, ground := Ground.chain }, { on := 21, ground := Ground.guard }], guard := some (21, true) }, { dst := some 57, op := Op.unOp UnOp.not 4 (Operand.tmp 56), type := 4, pos := "law.go:246", after := #[{ on := 28, ground := Ground.data }, { on := 21, ground := Ground.guard }], guard := some (21, true) }, { dst := some 58, op := Op.pick (Operand.tmp 49) (Operand.tmp 57) (Operand.const (Value.bool false)), type := 4, pos := "law.go:246", after := #[{ on := 21, ground := Ground.data }, { on := 29, ground := Ground.data }, { on := 18, ground := Ground.guard }], guard := some (18, false) }, { dst := some 59, op := Op.pick (Operand.tmp 46) (Operand.const (Value.bool true)) (Operand.tmp 58), type := 4, pos := "law.go:246", after := #[{ on := 18, ground := Ground.data }, { on := 30, ground := Ground.data }], guard := none }] true).wp Tryd.prog Q a0 W := by
  refine start_ (n := 32) (S := fun w' => True) (ds := []) #[false, false, false, false, false, false, false, false, false, false, false, false, false, false, false, false, false, false, false, false, false, false, false, false, false, false, false, false, false, false, false, false] (by kernel_rfl) rfl rfl trivial (fun hHeld => ?_)
  refine with_tabW as47bn.tab as47bn.bits (fun HT_ HW_ => ?_)
  refine inv_at [0, 1, 2, 3, 4, 5, 6, 7, 8, 9, 10, 11, 12, 13, 14, 15, 16, 17, 18, 19, 20, 21, 22, 23, 24, 25, 26, 27, 28, 29, 30, 31] (fun a0_ b a w' => a = putSel a0_ b [(0, 28, .slice (some ⟨b1, o1, none⟩) n ca), (1, 29, .int .i64 (i : Int)), (2, 30, .pointer (some ⟨b1, o1 + i * 2, none⟩)), (3, 31, .pointer (some ⟨b1, o1 + i * 2, none⟩)), (4, 32, .string t1), (5, 33, .slice (some ⟨b2, o2, none⟩) n cb), (6, 34, .int .i64 (i : Int)), (7, 35, .pointer (some ⟨b2, o2 + i * 2, none⟩)), (8, 36, .pointer (some ⟨b2, o2 + i * 2, none⟩)), (9, 37, .string t2), (10, 38, .bool false), (11, 39, .bool false), (12, 40, .pointer none), (13, 41, .bool true), (14, 42, .pointer (some ⟨b4, o4, none⟩)), (15, 43, .bool false), (16, 44, .bool true), (17, 45, .bool true), (18, 46, .bool true), (19, 47, undef), (20, 48, undef), (21, 49, undef), (22, 50, undef), (23, 51, undef), (24, 52, undef), (25, 53, undef), (26, 54, undef), (27, 55, undef), (28, 56, undef), (29, 57, undef), (30, 58, undef), (31, 59, .bool true)] ∧ (Below w0.heap.size w0 w')) HT_.out HW_.out (by kernel_rfl) (by kernel_rfl) ?_ ?_ ?_
  · exact ⟨(by simp only [putSel, Bool.false_eq_true, if_false]), hI⟩
  · clear hI hend hHeld
    refine steps_cons ?_ ?_
    · rintro b a w' ⟨ha, hI⟩ hb_ hon hoff
      refine ⟨_, rfl, fun K hK => ?_⟩
      have e0 : a.tmps[0]? = some (.slice (some ⟨b1, o1, none⟩) n ca) := by rw [ha]; exact (putSel_off rfl).trans s0
      replace ha := Aside0.mk ha
      refine value_ (w1 := w') (v := .slice (some ⟨b1, o1, none⟩) n ca) (by rfl) rfl ?_ ?_
      · go_simp; try rfl
        all_goals (try (simp only [IntKind.wrap_i64]; omega))
      exact hK.out _ _ ⟨(by rw [ha.out]; exact putSel_upk 0 hb_ rfl rfl rfl), hI⟩
    refine steps_cons ?_ ?_
    · rintro b a w' ⟨ha, hI⟩ hb_ hon hoff
      refine ⟨_, rfl, fun K hK => ?_⟩
      have e5 : a.tmps[5]? = some (.int .i64 (i : Int)) := by rw [ha]; exact (putSel_off rfl).trans s5
      replace ha := Aside0.mk ha
      refine value_ (w1 := w') (v := .int .i64 (i : Int)) (by rfl) rfl ?_ ?_
      · go_simp; try rfl
        all_goals (try (simp only [IntKind.wrap_i64]; omega))
      exact hK.out _ _ ⟨(by rw [ha.out]; exact putSel_upk 1 hb_ rfl rfl rfl), hI⟩
    refine steps_cons ?_ ?_
    · rintro b a w' ⟨ha, hI⟩ hb_ hon hoff
      refine ⟨_, rfl, fun K hK => ?_⟩
      have e28 : a.tmps[28]? = some (.slice (some ⟨b1, o1, none⟩) n ca) := by rw [ha]; exact putSel_on (e := (0, 28, .slice (some ⟨b1, o1, none⟩) n ca)) 0 rfl rfl (hon 0 (by kernel_rfl)) (by rw [hsz]; rfl)
      have e29 : a.tmps[29]? = some (.int .i64 (i : Int)) := by rw [ha]; exact putSel_on (e := (1, 29, .int .i64 (i : Int))) 1 rfl rfl (hon 1 (by kernel_rfl)) (by rw [hsz]; rfl)
      replace ha := Aside0.mk ha
      refine value_ (w1 := w') (v := .pointer (some ⟨b1, o1 + i * 2, none⟩)) (by rfl) rfl ?_ ?_
      · go_simp; try rfl
        all_goals (try (simp only [IntKind.wrap_i64]; omega))
      exact hK.out _ _ ⟨(by rw [ha.out]; exact putSel_upk 2 hb_ rfl rfl rfl), hI⟩
    refine steps_cons ?_ ?_
    · rintro b a w' ⟨ha, hI⟩ hb_ hon hoff
      refine ⟨_, rfl, fun K hK => ?_⟩
      have e30 : a.tmps[30]? = some (.pointer (some ⟨b1, o1 + i * 2, none⟩)) := by rw [ha]; exact putSel_on (e := (2, 30, .pointer (some ⟨b1, o1 + i * 2, none⟩))) 2 rfl rfl (hon 2 (by kernel_rfl)) (by rw [hsz]; rfl)
      replace ha := Aside0.mk ha
      refine value_ (w1 := w') (v := .pointer (some ⟨b1, o1 + i * 2, none⟩)) (by rfl) rfl ?_ ?_
      · go_simp; try rfl
        all_goals (try (simp only [IntKind.wrap_i64]; omega))
      exact hK.out _ _ ⟨(by rw [ha.out]; exact putSel_upk 3 hb_ rfl rfl rfl), hI⟩
    refine steps_cons ?_ ?_
    · rintro b a w' ⟨ha, hI⟩ hb_ hon hoff
      refine ⟨_, rfl, fun K hK => ?_⟩
      have e31 : a.tmps[31]? = some (.pointer (some ⟨b1, o1 + i * 2, none⟩)) := by rw [ha]; exact putSel_on (e := (3, 31, .pointer (some ⟨b1, o1 + i * 2, none⟩))) 3 rfl rfl (hon 3 (by kernel_rfl)) (by rw [hsz]; rfl)
      replace ha := Aside0.mk ha
      have m0 := Kept.of hI _ _ _ d10
      refine value_ (w1 := w') (v := .string t1) (by rfl) rfl ?_ ?_
      · go_simp; try rfl
        all_goals (try (simp only [IntKind.wrap_i64]; omega))
      exact hK.out _ _ ⟨(by rw [ha.out]; exact putSel_upk 4 hb_ rfl rfl rfl), hI⟩
    refine steps_cons ?_ ?_
    · rintro b a w' ⟨ha, hI⟩ hb_ hon hoff
      refine ⟨_, rfl, fun K hK => ?_⟩
      have e1 : a.tmps[1]? = some (.slice (some ⟨b2, o2, none⟩) n cb) := by rw [ha]; exact (putSel_off rfl).trans s1
      replace ha := Aside0.mk ha
      refine value_ (w1 := w') (v := .slice (some ⟨b2, o2, none⟩) n cb) (by rfl) rfl ?_ ?_
      · go_simp; try rfl
        all_goals (try (simp only [IntKind.wrap_i64]; omega))
      exact hK.out _ _ ⟨(by rw [ha.out]; exact putSel_upk 5 hb_ rfl rfl rfl), hI⟩
    refine steps_cons ?_ ?_
    · rintro b a w' ⟨ha, hI⟩ hb_ hon hoff
      refine ⟨_, rfl, fun K hK => ?_⟩
      have e5 : a.tmps[5]? = some (.int .i64 (i : Int)) := by rw [ha]; exact (putSel_off rfl).trans s5
      replace ha := Aside0.mk ha
      refine value_ (w1 := w') (v := .int .i64 (i : Int)) (by rfl) rfl ?_ ?_
      · go_simp; try rfl
        all_goals (try (simp only [IntKind.wrap_i64]; omega))
      exact hK.out _ _ ⟨(by rw [ha.out]; exact putSel_upk 6 hb_ rfl rfl rfl), hI⟩
    refine steps_cons ?_ ?_
    · rintro b a w' ⟨ha, hI⟩ hb_ hon hoff
      refine ⟨_, rfl, fun K hK => ?_⟩
      have e33 : a.tmps[33]? = some (.slice (some ⟨b2, o2, none⟩) n cb) := by rw [ha]; exact putSel_on (e := (5, 33, .slice (some ⟨b2, o2, none⟩) n cb)) 5 rfl rfl (hon 5 (by kernel_rfl)) (by rw [hsz]; rfl)
      have e34 : a.tmps[34]? = some (.int .i64 (i : Int)) := by rw [ha]; exact putSel_on (e := (6, 34, .int .i64 (i : Int))) 6 rfl rfl (hon 6 (by kernel_rfl)) (by rw [hsz]; rfl)
      replace ha := Aside0.mk ha
      refine value_ (w1 := w') (v := .pointer (some ⟨b2, o2 + i * 2, none⟩)) (by rfl) rfl ?_ ?_
      · go_simp; try rfl
        all_goals (try (simp only [IntKind.wrap_i64]; omega))
      exact hK.out _ _ ⟨(by rw [ha.out]; exact putSel_upk 7 hb_ rfl rfl rfl), hI⟩
    refine steps_cons ?_ ?_
    · rintro b a w' ⟨ha, hI⟩ hb_ hon hoff
      refine ⟨_, rfl, fun K hK => ?_⟩
      have e35 : a.tmps[35]? = some (.pointer (some ⟨b2, o2 + i * 2, none⟩)) := by rw [ha]; exact putSel_on (e := (7, 35, .pointer (some ⟨b2, o2 + i * 2, none⟩))) 7 rfl rfl (hon 7 (by kernel_rfl)) (by rw [hsz]; rfl)
      replace ha := Aside0.mk ha
      refine value_ (w1 := w') (v := .pointer (some ⟨b2, o2 + i * 2, none⟩)) (by rfl) rfl ?_ ?_
      · go_simp; try rfl
        all_goals (try (simp only [IntKind.wrap_i64]; omega))
      exact hK.out _ _ ⟨(by rw [ha.out]; exact putSel_upk 8 hb_ rfl rfl rfl), hI⟩
    refine steps_cons ?_ ?_
    · rintro b a w' ⟨ha, hI⟩ hb_ hon hoff
      refine ⟨_, rfl, fun K hK => ?_⟩
      have e36 : a.tmps[36]? = some (.pointer (some ⟨b2, o2 + i * 2, none⟩)) := by rw [ha]; exact putSel_on (e := (8, 36, .pointer (some ⟨b2, o2 + i * 2, none⟩))) 8 rfl rfl (hon 8 (by kernel_rfl)) (by rw [hsz]; rfl)
      replace ha := Aside0.mk ha
      have m0 := Kept.of hI _ _ _ d20
      refine value_ (w1 := w') (v := .string t2) (by rfl) rfl ?_ ?_
      · go_simp; try rfl
        all_goals (try (simp only [IntKind.wrap_i64]; omega))
      exact hK.out _ _ ⟨(by rw [ha.out]; exact putSel_upk 9 hb_ rfl rfl rfl), hI⟩
    refine steps_cons ?_ ?_
    · rintro b a w' ⟨ha, hI⟩ hb_ hon hoff
      refine ⟨_, rfl, fun K hK => ?_⟩
      have e32 : a.tmps[32]? = some (.string t1) := by rw [ha]; exact putSel_on (e := (4, 32, .string t1)) 4 rfl rfl (hon 4 (by kernel_rfl)) (by rw [hsz]; rfl)
      have e37 : a.tmps[37]? = some (.string t2) := by rw [ha]; exact putSel_on (e := (9, 37, .string t2)) 9 rfl rfl (hon 9 (by kernel_rfl)) (by rw [hsz]; rfl)
      replace ha := Aside0.mk ha
      refine value_ (w1 := w') (v := .bool false) (by rfl) rfl ?_ ?_
      · go_simp; try rfl
        all_goals (try (simp only [IntKind.wrap_i64]; omega))
      exact hK.out _ _ ⟨(by rw [ha.out]; exact putSel_upk 10 hb_ rfl rfl rfl), hI⟩
    refine steps_cons ?_ ?_
    · rintro b a w' ⟨ha, hI⟩ hb_ hon hoff
      refine ⟨_, rfl, fun K hK => ?_⟩
      have e38 : a.tmps[38]? = some (.bool false) := by rw [ha]; exact putSel_on (e := (10, 38, .bool false)) 10 rfl rfl (hon 10 (by kernel_rfl)) (by rw [hsz]; rfl)
      replace ha := Aside0.mk ha
      refine value_ (w1 := w') (v := .bool false) (by rfl) rfl ?_ ?_
      · go_simp; try rfl
        all_goals (try (simp only [IntKind.wrap_i64]; omega))
      exact hK.out _ _ ⟨(by rw [ha.out]; exact putSel_upk 11 hb_ rfl rfl rfl), hI⟩
    refine steps_cons ?_ ?_
    · rintro b a w' ⟨ha, hI⟩ hb_ hon hoff
      refine ⟨_, rfl, fun K hK => ?_⟩
      have e6 : a.tmps[6]? = some (.pointer none) := by rw [ha]; exact (putSel_off rfl).trans s6
      have e39 : a.tmps[39]? = some (.bool false) := by rw [ha]; exact putSel_on (e := (11, 39, .bool false)) 11 rfl rfl (hon 11 (by kernel_rfl)) (by rw [hsz]; rfl)
      replace ha := Aside0.mk ha
      refine value_ (w1 := w') (v := .pointer none) (wanted_on rfl rfl rfl e39) rfl ?_ ?_
      · go_simp; try rfl
        all_goals (try (simp only [IntKind.wrap_i64]; omega))
      exact hK.out _ _ ⟨(by rw [ha.out]; exact putSel_upk 12 hb_ rfl rfl rfl), hI⟩
    refine steps_cons ?_ ?_
    · rintro b a w' ⟨ha, hI⟩ hb_ hon hoff
      refine ⟨_, rfl, fun K hK => ?_⟩
      have e40 : a.tmps[40]? = some (.pointer none) := by rw [ha]; exact putSel_on (e := (12, 40, .pointer none)) 12 rfl rfl (hon 12 (by kernel_rfl)) (by rw [hsz]; rfl)
      have e39 : a.tmps[39]? = some (.bool false) := by rw [ha]; exact putSel_on (e := (11, 39, .bool false)) 11 rfl rfl (hon 11 (by kernel_rfl)) (by rw [hsz]; rfl)
      replace ha := Aside0.mk ha
      refine value_ (w1 := w') (v := .bool true) (wanted_on rfl rfl rfl e39) rfl ?_ ?_
      · go_simp; try rfl
        all_goals (try (simp only [IntKind.wrap_i64]; omega))
      exact hK.out _ _ ⟨(by rw [ha.out]; exact putSel_upk 13 hb_ rfl rfl rfl), hI⟩
    refine steps_cons ?_ ?_
    · rintro b a w' ⟨ha, hI⟩ hb_ hon hoff
      refine ⟨_, rfl, fun K hK => ?_⟩
      have e7 : a.tmps[7]? = some (.pointer (some ⟨b4, o4, none⟩)) := by rw [ha]; exact (putSel_off rfl).trans s7
      have e39 : a.tmps[39]? = some (.bool false) := by rw [ha]; exact putSel_on (e := (11, 39, .bool false)) 11 rfl rfl (hon 11 (by kernel_rfl)) (by rw [hsz]; rfl)
      replace ha := Aside0.mk ha
      refine value_ (w1 := w') (v := .pointer (some ⟨b4, o4, none⟩)) (wanted_on rfl rfl rfl e39) rfl ?_ ?_
      · go_simp; try rfl
        all_goals (try (simp only [IntKind.wrap_i64]; omega))
      exact hK.out _ _ ⟨(by rw [ha.out]; exact putSel_upk 14 hb_ rfl rfl rfl), hI⟩
    refine steps_cons ?_ ?_
    · rintro b a w' ⟨ha, hI⟩ hb_ hon hoff
      refine ⟨_, rfl, fun K hK => ?_⟩
      have e42 : a.tmps[42]? = some (.pointer (some ⟨b4, o4, none⟩)) := by rw [ha]; exact putSel_on (e := (14, 42, .pointer (some ⟨b4, o4, none⟩))) 14 rfl rfl (hon 14 (by kernel_rfl)) (by rw [hsz]; rfl)
      have e39 : a.tmps[39]? = some (.bool false) := by rw [ha]; exact putSel_on (e := (11, 39, .bool false)) 11 rfl rfl (hon 11 (by kernel_rfl)) (by rw [hsz]; rfl)
      replace ha := Aside0.mk ha
      refine value_ (w1 := w') (v := .bool false) (wanted_on rfl rfl rfl e39) rfl ?_ ?_
      · go_simp; try rfl
        all_goals (try (simp only [IntKind.wrap_i64]; omega))
      exact hK.out _ _ ⟨(by rw [ha.out]; exact putSel_upk 15 hb_ rfl rfl rfl), hI⟩
    refine steps_cons ?_ ?_
    · rintro b a w' ⟨ha, hI⟩ hb_ hon hoff
      refine ⟨_, rfl, fun K hK => ?_⟩
      have e41 : a.tmps[41]? = some (.bool true) := by rw [ha]; exact putSel_on (e := (13, 41, .bool true)) 13 rfl rfl (hon 13 (by kernel_rfl)) (by rw [hsz]; rfl)
      have e43 : a.tmps[43]? = some (.bool false) := by rw [ha]; exact putSel_on (e := (15, 43, .bool false)) 15 rfl rfl (hon 15 (by kernel_rfl)) (by rw [hsz]; rfl)
      have e39 : a.tmps[39]? = some (.bool false) := by rw [ha]; exact putSel_on (e := (11, 39, .bool false)) 11 rfl rfl (hon 11 (by kernel_rfl)) (by rw [hsz]; rfl)
      replace ha := Aside0.mk ha
      refine value_ (w1 := w') (v := .bool true) (wanted_on rfl rfl rfl e39) rfl ?_ ?_
      · go_simp; try rfl
        all_goals (try (simp only [IntKind.wrap_i64]; omega))
      exact hK.out _ _ ⟨(by rw [ha.out]; exact putSel_upk 16 hb_ rfl rfl rfl), hI⟩
    refine steps_cons ?_ ?_
    · rintro b a w' ⟨ha, hI⟩ hb_ hon hoff
      refine ⟨_, rfl, fun K hK => ?_⟩
      have e39 : a.tmps[39]? = some (.bool false) := by rw [ha]; exact putSel_on (e := (11, 39, .bool false)) 11 rfl rfl (hon 11 (by kernel_rfl)) (by rw [hsz]; rfl)
      have e44 : a.tmps[44]? = some (.bool true) := by rw [ha]; exact putSel_on (e := (16, 44, .bool true)) 16 rfl rfl (hon 16 (by kernel_rfl)) (by rw [hsz]; rfl)
      replace ha := Aside0.mk ha
      refine value_ (w1 := w') (v := .bool true) (by rfl) rfl ?_ ?_
      · go_simp; try rfl
        all_goals (try (simp only [IntKind.wrap_i64]; omega))
      exact hK.out _ _ ⟨(by rw [ha.out]; exact putSel_upk 17 hb_ rfl rfl rfl), hI⟩
    refine steps_cons ?_ ?_
    · rintro b a w' ⟨ha, hI⟩ hb_ hon hoff
      refine ⟨_, rfl, fun K hK => ?_⟩
      have e45 : a.tmps[45]? = some (.bool true) := by rw [ha]; exact putSel_on (e := (17, 45, .bool true)) 17 rfl rfl (hon 17 (by kernel_rfl)) (by rw [hsz]; rfl)
      replace ha := Aside0.mk ha
      refine value_ (w1 := w') (v := .bool true) (by rfl) rfl ?_ ?_
      · go_simp; try rfl
        all_goals (try (simp only [IntKind.wrap_i64]; omega))
      exact hK.out _ _ ⟨(by rw [ha.out]; exact putSel_upk 18 hb_ rfl rfl rfl), hI⟩
    refine steps_cons ?_ ?_
    · rintro b a w' ⟨ha, hI⟩ hb_ hon hoff
      refine ⟨_, rfl, fun K hK => ?_⟩
      have e46 : a.tmps[46]? = some (.bool true) := by rw [ha]; exact putSel_on (e := (18, 46, .bool true)) 18 rfl rfl (hon 18 (by kernel_rfl)) (by rw [hsz]; rfl)
      exact off_ (wanted_off rfl rfl rfl e46) (hK.out _ _ ⟨(by rw [ha]; exact putSel_upk 19 hb_ rfl rfl rfl), hI⟩)
    refine steps_cons ?_ ?_
    · rintro b a w' ⟨ha, hI⟩ hb_ hon hoff
      refine ⟨_, rfl, fun K hK => ?_⟩
      have e46 : a.tmps[46]? = some (.bool true) := by rw [ha]; exact putSel_on (e := (18, 46, .bool true)) 18 rfl rfl (hon 18 (by kernel_rfl)) (by rw [hsz]; rfl)
      exact off_ (wanted_off rfl rfl rfl e46) (hK.out _ _ ⟨(by rw [ha]; exact putSel_upk 20 hb_ rfl rfl rfl), hI⟩)
    refine steps_cons ?_ ?_
    · rintro b a w' ⟨ha, hI⟩ hb_ hon hoff
      refine ⟨_, rfl, fun K hK => ?_⟩
      have e46 : a.tmps[46]? = some (.bool true) := by rw [ha]; exact putSel_on (e := (18, 46, .bool true)) 18 rfl rfl (hon 18 (by kernel_rfl)) (by rw [hsz]; rfl)
      exact off_ (wanted_off rfl rfl rfl e46) (hK.out _ _ ⟨(by rw [ha]; exact putSel_upk 21 hb_ rfl rfl rfl), hI⟩)
    refine steps_cons ?_ ?_
    · rintro b a w' ⟨ha, hI⟩ hb_ hon hoff
      refine ⟨_, rfl, fun K hK => ?_⟩
      have e49 : a.tmps[49]? = some (undef) := by rw [ha]; exact putSel_on (e := (21, 49, undef)) 21 rfl rfl (hon 21 (by kernel_rfl)) (by rw [hsz]; rfl)
      exact off_ (wanted_und rfl rfl rfl e49) (hK.out _ _ ⟨(by rw [ha]; exact putSel_upk 22 hb_ rfl rfl rfl), hI⟩)
    refine steps_cons ?_ ?_
    · rintro b a w' ⟨ha, hI⟩ hb_ hon hoff
      refine ⟨_, rfl, fun K hK => ?_⟩
      have e49 : a.tmps[49]? = some (undef) := by rw [ha]; exact putSel_on (e := (21, 49, undef)) 21 rfl rfl (hon 21 (by kernel_rfl)) (by rw [hsz]; rfl)
      exact off_ (wanted_und rfl rfl rfl e49) (hK.out _ _ ⟨(by rw [ha]; exact putSel_upk 23 hb_ rfl rfl rfl), hI⟩)
    refine steps_cons ?_ ?_
    · rintro b a w' ⟨ha, hI⟩ hb_ hon hoff
      refine ⟨_, rfl, fun K hK => ?_⟩
      have e49 : a.tmps[49]? = some (undef) := by rw [ha]; exact putSel_on (e := (21, 49, undef)) 21 rfl rfl (hon 21 (by kernel_rfl)) (by rw [hsz]; rfl)
      exact off_ (wanted_und rfl rfl rfl e49) (hK.out _ _ ⟨(by rw [ha]; exact putSel_upk 24 hb_ rfl rfl rfl), hI⟩)
    refine steps_cons ?_ ?_
    · rintro b a w' ⟨ha, hI⟩ hb_ hon hoff
      refine ⟨_, rfl, fun K hK => ?_⟩
      have e49 : a.tmps[49]? = some (undef) := by rw [ha]; exact putSel_on (e := (21, 49, undef)) 21 rfl rfl (hon 21 (by kernel_rfl)) (by rw [hsz]; rfl)
      exact off_ (wanted_und rfl rfl rfl e49) (hK.out _ _ ⟨(by rw [ha]; exact putSel_upk 25 hb_ rfl rfl rfl), hI⟩)
    refine steps_cons ?_ ?_
    · rintro b a w' ⟨ha, hI⟩ hb_ hon hoff
      refine ⟨_, rfl, fun K hK => ?_⟩
      have e49 : a.tmps[49]? = some (undef) := by rw [ha]; exact putSel_on (e := (21, 49, undef)) 21 rfl rfl (hon 21 (by kernel_rfl)) (by rw [hsz]; rfl)
      exact off_ (wanted_und rfl rfl rfl e49) (hK.out _ _ ⟨(by rw [ha]; exact putSel_upk 26 hb_ rfl rfl rfl), hI⟩)
    refine steps_cons ?_ ?_
    · rintro b a w' ⟨ha, hI⟩ hb_ hon hoff
      refine ⟨_, rfl, fun K hK => ?_⟩
      have e49 : a.tmps[49]? = some (undef) := by rw [ha]; exact putSel_on (e := (21, 49, undef)) 21 rfl rfl (hon 21 (by kernel_rfl)) (by rw [hsz]; rfl)
      exact off_ (wanted_und rfl rfl rfl e49) (hK.out _ _ ⟨(by rw [ha]; exact putSel_upk 27 hb_ rfl rfl rfl), hI⟩)
    refine steps_cons ?_ ?_
    · rintro b a w' ⟨ha, hI⟩ hb_ hon hoff
      refine ⟨_, rfl, fun K hK => ?_⟩
      have e49 : a.tmps[49]? = some (undef) := by rw [ha]; exact putSel_on (e := (21, 49, undef)) 21 rfl rfl (hon 21 (by kernel_rfl)) (by rw [hsz]; rfl)
      exact off_ (wanted_und rfl rfl rfl e49) (hK.out _ _ ⟨(by rw [ha]; exact putSel_upk 28 hb_ rfl rfl rfl), hI⟩)
    refine steps_cons ?_ ?_
    · rintro b a w' ⟨ha, hI⟩ hb_ hon hoff
      refine ⟨_, rfl, fun K hK => ?_⟩
      have e49 : a.tmps[49]? = some (undef) := by rw [ha]; exact putSel_on (e := (21, 49, undef)) 21 rfl rfl (hon 21 (by kernel_rfl)) (by rw [hsz]; rfl)
      exact off_ (wanted_und rfl rfl rfl e49) (hK.out _ _ ⟨(by rw [ha]; exact putSel_upk 29 hb_ rfl rfl rfl), hI⟩)
    refine steps_cons ?_ ?_
    · rintro b a w' ⟨ha, hI⟩ hb_ hon hoff
      refine ⟨_, rfl, fun K hK => ?_⟩
      have e46 : a.tmps[46]? = some (.bool true) := by rw [ha]; exact putSel_on (e := (18, 46, .bool true)) 18 rfl rfl (hon 18 (by kernel_rfl)) (by rw [hsz]; rfl)
      exact off_ (wanted_off rfl rfl rfl e46) (hK.out _ _ ⟨(by rw [ha]; exact putSel_upk 30 hb_ rfl rfl rfl), hI⟩)
    refine steps_cons ?_ ?_
    · rintro b a w' ⟨ha, hI⟩ hb_ hon hoff
      refine ⟨_, rfl, fun K hK => ?_⟩
      have e46 : a.tmps[46]? = some (.bool true) := by rw [ha]; exact putSel_on (e := (18, 46, .bool true)) 18 rfl rfl (hon 18 (by kernel_rfl)) (by rw [hsz]; rfl)
      have e58 : a.tmps[58]? = some (undef) := by rw [ha]; exact putSel_on (e := (30, 58, undef)) 30 rfl rfl (hon 30 (by kernel_rfl)) (by rw [hsz]; rfl)
      replace ha := Aside0.mk ha
      refine value_ (w1 := w') (v := .bool true) (by rfl) rfl ?_ ?_
      · go_simp; try rfl
        all_goals (try (simp only [IntKind.wrap_i64]; omega))
      exact hK.out _ _ ⟨(by rw [ha.out]; exact putSel_upk 31 hb_ rfl rfl rfl), hI⟩
    exact steps_nil
  rintro b a w1 hall ⟨ha, hI1⟩
  exact hend a w1 hI1 (by rw [ha]; simp only [putSel, if_true, hall 0 (by kernel_rfl), hall 1 (by kernel_rfl), hall 2 (by kernel_rfl), hall 3 (by kernel_rfl), hall 4 (by kernel_rfl), hall 5 (by kernel_rfl), hall 6 (by kernel_rfl), hall 7 (by kernel_rfl), hall 8 (by kernel_rfl), hall 9 (by kernel_rfl), hall 10 (by kernel_rfl), hall 11 (by kernel_rfl), hall 12 (by kernel_rfl), hall 13 (by kernel_rfl), hall 14 (by kernel_rfl), hall 15 (by kernel_rfl), hall 16 (by kernel_rfl), hall 17 (by kernel_rfl), hall 18 (by kernel_rfl), hall 19 (by kernel_rfl), hall 20 (by kernel_rfl), hall 21 (by kernel_rfl), hall 22 (by kernel_rfl), hall 23 (by kernel_rfl), hall 24 (by kernel_rfl), hall 25 (by kernel_rfl), hall 26 (by kernel_rfl), hall 27 (by kernel_rfl), hall 28 (by kernel_rfl), hall 29 (by kernel_rfl), hall 30 (by kernel_rfl), hall 31 (by kernel_rfl)]) (by rw [ha]; exact (putSel_size b _ a0).2) (by rw [ha]; exact putSel_on (e := (31, 59, .bool true)) 31 rfl rfl (hall 31 (by kernel_rfl)) (by rw [hsz]; rfl))
end Go.Proofs.YtipmphgkdomebaaDoor
namespace Go.Proofs.YtipmphgkdomebaaDoor
open Go.RowKit Go.Proofs.YtipmphgkdomebaaDoorW.PrintWords Go.Proofs.YtipmphgkdomebaaDoorW.PrintLast
set_option linter.unusedVariables false
set_option linter.unusedSimpArgs false
def as47bs.T : Bool × List (List Nat × List Nat) := (true, [([], []), ([], []), ([0, 1], [0, 1]), ([2], [2]), ([3], [3]), ([], []), ([], []), ([5, 6], [5, 6]), ([7], [7]), ([8], [8]), ([4, 9], [4, 9]), ([10], [10]), ([11], [11]), ([12, 11], [11, 12]), ([11], [11]), ([14, 11], [11, 14]), ([13, 15, 11], [11, 13, 15]), ([11, 16], [11, 16]), ([17, 11], [17]), ([18], [18]), ([19, 18], [18, 19]), ([20, 18, 18], [18, 20]), ([21], [21]), ([22, 21], [21, 22]), ([23, 21], [21, 23]), ([21], [21]), ([25, 21], [21, 25]), ([26, 21], [21, 26]), ([24, 27, 21, 21], [21, 24, 27]), ([28, 21], [21, 28]), ([21, 29, 18], [18, 21, 29]), ([18, 30], [18, 30])])
def as47bs.B : List Nat := [0, 0, 3, 7, 15, 0, 0, 96, 224, 480, 1023, 2047, 4095, 8191, 4095, 20479, 65535, 131071, 262143, 524287, 1048575, 2097151, 4194303, 8388607, 16777215, 4194303, 37748735, 104857599, 268435455, 536870911, 1073741823, 2147483647]
theorem as47bs.tab : rtab .any (opsOf Tryd.f47 8) = as47bs.T := by kernel_rfl
theorem as47bs.bits : waitsOk as47bs.T.2 as47bs.B = true := by kernel_rfl
set_option maxRecDepth 100000 in
set_option maxHeartbeats 4000000 in
theorem as47bs (w0 : World) (t1 t2 : ByteArray) (hq : (t1.toList == t2.toList) = true) (n ca cb i b1 o1 b2 o2 : Nat) (q1 : (0 : Int) ≤ (i : Int)) (q2 : (i : Int) < (n : Int)) (b3 o3 : Nat) (d10 : w0.cell? ⟨b1, o1 + i * 2, none⟩ = some (.string t1)) (d20 : w0.cell? ⟨b2, o2 + i * 2, none⟩ = some (.string t2)) (a0 : Act) (s0 : a0.tmps[0]? = some (.slice (some ⟨b1, o1, none⟩) n ca)) (s1 : a0.tmps[1]? = some (.slice (some ⟨b2, o2, none⟩) n cb)) (s5 : a0.tmps[5]? = some (.int .i64 (i : Int))) (s6 : a0.tmps[6]? = some (.pointer (some ⟨b3, o3, none⟩))) (s7 : a0.tmps[7]? = some (.pointer none)) (hsz : a0.tmps.size = Tryd.f47.ntmps) (W : World) (hI : Below w0.heap.size w0 W.drew) (Q : Exit → Act → World → Prop) (hend : ∀ (a9 : Act) w', Below w0.heap.size w0 w' → a9 = putSel a0 (fun _ => true) [(0, 28, .slice (some ⟨b1, o1, none⟩) n ca), (1, 29, .int .i64 (i : Int)), (2, 30, .pointer (some ⟨b1, o1 + i * 2, none⟩)), (3, 31, .pointer (some ⟨b1, o1 + i * 2, none⟩)), (4, 32, .string t1), (5, 33, .slice (some ⟨b2, o2, none⟩) n cb), (6, 34, .int .i64 (i : Int)), (7, 35, .pointer (some ⟨b2, o2 + i * 2, none⟩)), (8, 36, .pointer (some ⟨b2, o2 + i * 2, none⟩)), (9, 37, .string t2), (10, 38, .bool false), (11, 39, .bool false), (12, 40, .pointer (some ⟨b3, o3, none⟩)), (13, 41, .bool false), (14, 42, .pointer none), (15, 43, .bool true), (16, 44, .bool true), (17, 45, .bool true), (18, 46, .bool true), (19, 47, undef), (20, 48, undef), (21, 49, undef), (22, 50, undef), (23, 51, undef), (24, 52, undef), (25, 53, undef), (26, 54, undef), (27, 55, undef), (28, 56, undef), (29, 57, undef), (30, 58, undef), (31, 59, .bool true)] → a9.defers = a0.defers → a9.tmps[59]? = some (.bool true) → Q .normal a9 w') :
    (Code.region 8 #[{ dst := some 28, op := Op.move (Operand.tmp 0), type := 26, pos := "law.go:246", after := #[], guard := none }, { dst := some 29, op := Op.move (Operand.tmp 5), type := 3, pos := "law.go:246", after := #[], guard := none }, { dst := some 30, op := Op.indexAddr 26 (Operand.tmp 28) (Operand.tmp 29), type := 0, pos := "law.go:246", after := #[{ on := 0, ground := Ground.data }, { on := 1, ground := Ground.data }], guard := none }, { dst := some 31, op := Op.fieldAddr 42 (Operand.tmp 30) 0, type := 0, pos := "law.go:246", after := #[{ on := 2, ground := Ground.data }], guard := none }, { dst := some 32, op := Op.load 9 (Operand.tmp 31), type := 9, pos := "law.go:246", after := #[{ on := 3, ground := Ground.data }], guard := none }, { dst := some 33, op := Op.move (Operand.tmp 1), type := 26, pos := "law.go:246", after := #[], guard := none }, { dst := some 34, op := Op.move (Operand.tmp 5), type := 3, pos := "law.go:246", after := #[], guard := none }, { dst := some 35, op := Op.indexAddr 26 (Operand.tmp 33) (Operand.tmp 34), type := 0, pos := "law.go:246", after := #[{ on := 5, ground := Ground.data }, { on := 6, ground := Ground.data }], guard := none }, { dst := some 36, op := Op.fieldAddr 42 (Operand.tmp 35) 0, type := 0, pos := "law.go:246", after := #[{ on := 7, ground := Ground.data }], guard := none }, { dst := some 37, op := Op.load 9 (Operand.tmp 36), type := 9, pos := "law.go:246", after := #[{ on := 8, ground := Ground.data }], guard := none }, { dst := some 38, op := Op.binOp BinOp.neq 9 (Operand.tmp 32) (Operand.tmp 37) 9, type := 4, pos := "law.go:246", after := #[{ on := 4, ground := Ground.data }, { on := 9, ground := Ground.data }], guard := none }, { dst := some 39, op := Op.move (Operand.tmp 38), type := 4, pos := "law.go:246", after := #[{ on := 10, ground := Ground.data }], guard := none }, { dst := some 40, op := Op.move (Operand.tmp 6), type := 37, pos := "law.go:246", after := #[{ on := 11, ground := Ground.guard }], guard := some (11, false) }, { dst := some 41, op := Op.binOp BinOp.eql 37 (Operand.tmp 40) (Operand.const (Value.pointer none)) 37, type := 4, pos := "law.go:246", after := #[{ on := 12, ground := Ground.data }, { on := 11, ground := Ground.guard }], guard := some (11, false) }, { dst := some 42, op := Op.move (Operand.tmp 7), type := 37, pos := "law.go:246", after := #[{ on := 11, ground := Ground.guard }], guard := some (11, false) }, { dst := some 43, op := Op.binOp BinOp.eql 37 (Operand.tmp 42) (Operand.const (Value.pointer none)) 37, type := 4, pos := "law.go:246", after := #[{ on := 14, ground := Ground.data }, { on := 11, ground := Ground.guard }], guard := some (11, false) }, { dst := some 44, op := Op.binOp BinOp.neq 4 (Operand.tmp 41) (Operand.tmp 43) 4, type := 4, pos := "law.go:246", after := #[{ on := 13, ground := Ground.data }, { on := 15, ground := Ground.data }, { on := 11, ground := Ground.guard }], guard := some (11, false) }, { dst := some 45, op := Op.pick (Operand.tmp 39) (Operand.const (Value.bool true)) (Operand.tmp 44), type := 4, pos := "law.go:246", after := #[{ on := 11, ground := Ground.data }, { on := 16, ground := Ground.data }], guard := none }, { dst := some 46, op := Op.move (Operand.tmp 45), type := 4, pos := "law.go:246", after := #[{ on := 17, ground := Ground.data }, { on := 11, ground := Ground.chain }], guard := none }, { dst := some 47, op := Op.move (Operand.tmp 6), type := 37, pos := "law.go:246", after := #[{ on := 18, ground := Ground.guard }], guard := some (18, false) }, { dst := some 48, op := Op.binOp BinOp.neq 37 (Operand.tmp 47) (Operand.const (Value.pointer none)) 37, type := 4, pos := "law.go:246", after := #[{ on := 19, ground := Ground.data }, { on := 18, ground := Ground.guard }], guard := some (18, false) }, { dst := some 49, op := Op.move (Operand.tmp 48), type := 4, pos := "law.go:246", after := #[{ on := 20, ground := Ground.data }, { on := 18, ground := Ground.chain }, { on := 18, ground := Ground.guard }], guard := some (18, false) }, { dst := some 50, op := Op.move (Operand.tmp 6), type := 37, pos := "law.go:246", after := #[{ on := 21, ground := Ground.guard }], guard := some (21, true) }, { dst := some 51, op := Op.nilCheck (Operand.tmp 50), type := 0, pos := "law.go:246", after := #[{ on := 22, ground := Ground.data }, { on := 21, ground := Ground.guard }], guard := some (21, true) }, { dst := some 52, op := Op.load 40 (Operand.tmp 51), type := 40, pos := "law.go:246", after := #[{ on := 23, ground := Ground.data }, { on := 21, ground := Ground.guard }], guard := some (21, true) }, { dst := some 53, op := Op.move (Operand.tmp 7), type := 37, pos := "law.go:246", after := #[{ on := 21, ground := Ground.guard }], guard := some (21, true) }, { dst := some 54, op := Op.nilCheck (Operand.tmp 53), type := 0, pos := "law.go:246", after := #[{ on := 25, ground := Ground.data }, { on := 21, ground := Ground.guard }], guard := some (21, true) }, { dst := some 55, op := Op.load 40 (Operand.tmp 54), type := 40, pos := "law.go:246", after := #[{ on := 26, ground := Ground.data }, { on := 21, ground := Ground.guard }], guard := some (21, true) }, { dst := some 56, op := Op.call { callee := Callee.value (Operand.func 82), args := #[Operand.tmp 52, Operand.tmp 55], argTypes := #[40, 40] }, type := 4, pos := "law.go:246", after := #[{ on := 24, ground := Ground.data }, { on := 27, ground := Ground.data }, { on := 21, ground := Ground.chain }, { on := 21, ground := Ground.guard }], guard := some (21, true) }, { dst := some 57, op := Op.unOp UnOp.not 4 (Operand.tmp 56), type := 4, pos := "law.go:246", after := #[{ on := 28, ground := Ground.data }, { on := 21, ground := Ground.guard }], guard := some (21, true) }, { dst := some 58, op := Op.pick (Operand.tmp 49) (Operand.tmp 57) (Operand.const (Value.bool false)), type := 4, pos := "law.go:246", after := #[{ on := 21, ground := Ground.data }, { on := 29, ground := Ground.data }, { on := 18, ground := Ground.guard }], guard := some (18, false) }, { dst := some 59, op := Op.pick (Operand.tmp 46) (Operand.const (Value.bool true)) (Operand.tmp 58), type := 4, pos := "law.go:246", after := #[{ on := 18, ground := Ground.data }, { on := 30, ground := Ground.data }], guard := none }] true).wp Tryd.prog Q a0 W := by
  refine start_ (n := 32) (S := fun w' => True) (ds := []) #[false, false, false, false, false, false, false, false, false, false, false, false, false, false, false, false, false, false, false, false, false, false, false, false, false, false, false, false, false, false, false, false] (by kernel_rfl) rfl rfl trivial (fun hHeld => ?_)
  refine with_tabW as47bs.tab as47bs.bits (fun HT_ HW_ => ?_)
  refine inv_at [0, 1, 2, 3, 4, 5, 6, 7, 8, 9, 10, 11, 12, 13, 14, 15, 16, 17, 18, 19, 20, 21, 22, 23, 24, 25, 26, 27, 28, 29, 30, 31] (fun a0_ b a w' => a = putSel a0_ b [(0, 28, .slice (some ⟨b1, o1, none⟩) n ca), (1, 29, .int .i64 (i : Int)), (2, 30, .pointer (some ⟨b1, o1 + i * 2, none⟩)), (3, 31, .pointer (some ⟨b1, o1 + i * 2, none⟩)), (4, 32, .string t1), (5, 33, .slice (some ⟨b2, o2, none⟩) n cb), (6, 34, .int .i64 (i : Int)), (7, 35, .pointer (some ⟨b2, o2 + i * 2, none⟩)), (8, 36, .pointer (some ⟨b2, o2 + i * 2, none⟩)), (9, 37, .string t2), (10, 38, .bool false), (11, 39, .bool false), (12, 40, .pointer (some ⟨b3, o3, none⟩)), (13, 41, .bool false), (14, 42, .pointer none), (15, 43, .bool true), (16, 44, .bool true), (17, 45, .bool true), (18, 46, .bool true), (19, 47, undef), (20, 48, undef), (21, 49, undef), (22, 50, undef), (23, 51, undef), (24, 52, undef), (25, 53, undef), (26, 54, undef), (27, 55, undef), (28, 56, undef), (29, 57, undef), (30, 58, undef), (31, 59, .bool true)] ∧ (Below w0.heap.size w0 w')) HT_.out HW_.out (by kernel_rfl) (by kernel_rfl) ?_ ?_ ?_
  · exact ⟨(by simp only [putSel, Bool.false_eq_true, if_false]), hI⟩
  · clear hI hend hHeld
    refine steps_cons ?_ ?_
    · rintro b a w' ⟨ha, hI⟩ hb_ hon hoff
      refine ⟨_, rfl, fun K hK => ?_⟩
      have e0 : a.tmps[0]? = some (.slice (some ⟨b1, o1, none⟩) n ca) := by rw [ha]; exact (putSel_off rfl).trans s0
      replace ha := Aside0.mk ha
      refine value_ (w1 := w') (v := .slice (some ⟨b1, o1, none⟩) n ca) (by rfl) rfl ?_ ?_
      · go_simp; try rfl
        all_goals (try (simp only [IntKind.wrap_i64]; omega))
      exact hK.out _ _ ⟨(by rw [ha.out]; exact putSel_upk 0 hb_ rfl rfl rfl), hI⟩
    refine steps_cons ?_ ?_
    · rintro b a w' ⟨ha, hI⟩ hb_ hon hoff
      refine ⟨_, rfl, fun K hK => ?_⟩
      have e5 : a.tmps[5]? = some (.int .i64 (i : Int)) := by rw [ha]; exact (putSel_off rfl).trans s5
      replace ha := Aside0.mk ha
      refine value_ (w1 := w') (v := .int .i64 (i : Int)) (by rfl) rfl ?_ ?_
      · go_simp; try rfl
        all_goals (try (simp only [IntKind.wrap_i64]; omega))
      exact hK.out _ _ ⟨(by rw [ha.out]; exact putSel_upk 1 hb_ rfl rfl rfl), hI⟩
    refine steps_cons ?_ ?_
    · rintro b a w' ⟨ha, hI⟩ hb_ hon hoff
      refine ⟨_, rfl, fun K hK => ?_⟩
      have e28 : a.tmps[28]? = some (.slice (some ⟨b1, o1, none⟩) n ca) := by rw [ha]; exact putSel_on (e := (0, 28, .slice (some ⟨b1, o1, none⟩) n ca)) 0 rfl rfl (hon 0 (by kernel_rfl)) (by rw [hsz]; rfl)
      have e29 : a.tmps[29]? = some (.int .i64 (i : Int)) := by rw [ha]; exact putSel_on (e := (1, 29, .int .i64 (i : Int))) 1 rfl rfl (hon 1 (by kernel_rfl)) (by rw [hsz]; rfl)
      replace ha := Aside0.mk ha
      refine value_ (w1 := w') (v := .pointer (some ⟨b1, o1 + i * 2, none⟩)) (by rfl) rfl ?_ ?_
      · go_simp; try rfl
        all_goals (try (simp only [IntKind.wrap_i64]; omega))
      exact hK.out _ _ ⟨(by rw [ha.out]; exact putSel_upk 2 hb_ rfl rfl rfl), hI⟩
    refine steps_cons ?_ ?_
    · rintro b a w' ⟨ha, hI⟩ hb_ hon hoff
      refine ⟨_, rfl, fun K hK => ?_⟩
      have e30 : a.tmps[30]? = some (.pointer (some ⟨b1, o1 + i * 2, none⟩)) := by rw [ha]; exact putSel_on (e := (2, 30, .pointer (some ⟨b1, o1 + i * 2, none⟩))) 2 rfl rfl (hon 2 (by kernel_rfl)) (by rw [hsz]; rfl)
      replace ha := Aside0.mk ha
      refine value_ (w1 := w') (v := .pointer (some ⟨b1, o1 + i * 2, none⟩)) (by rfl) rfl ?_ ?_
      · go_simp; try rfl
        all_goals (try (simp only [IntKind.wrap_i64]; omega))
      exact hK.out _ _ ⟨(by rw [ha.out]; exact putSel_upk 3 hb_ rfl rfl rfl), hI⟩
    refine steps_cons ?_ ?_
    · rintro b a w' ⟨ha, hI⟩ hb_ hon hoff
      refine ⟨_, rfl, fun K hK => ?_⟩
      have e31 : a.tmps[31]? = some (.pointer (some ⟨b1, o1 + i * 2, none⟩)) := by rw [ha]; exact putSel_on (e := (3, 31, .pointer (some ⟨b1, o1 + i * 2, none⟩))) 3 rfl rfl (hon 3 (by kernel_rfl)) (by rw [hsz]; rfl)
      replace ha := Aside0.mk ha
      have m0 := Kept.of hI _ _ _ d10
      refine value_ (w1 := w') (v := .string t1) (by rfl) rfl ?_ ?_
      · go_simp; try rfl
        all_goals (try (simp only [IntKind.wrap_i64]; omega))
      exact hK.out _ _ ⟨(by rw [ha.out]; exact putSel_upk 4 hb_ rfl rfl rfl), hI⟩
    refine steps_cons ?_ ?_
    · rintro b a w' ⟨ha, hI⟩ hb_ hon hoff
      refine ⟨_, rfl, fun K hK => ?_⟩
      have e1 : a.tmps[1]? = some (.slice (some ⟨b2, o2, none⟩) n cb) := by rw [ha]; exact (putSel_off rfl).trans s1
      replace ha := Aside0.mk ha
      refine value_ (w1 := w') (v := .slice (some ⟨b2, o2, none⟩) n cb) (by rfl) rfl ?_ ?_
      · go_simp; try rfl
        all_goals (try (simp only [IntKind.wrap_i64]; omega))
      exact hK.out _ _ ⟨(by rw [ha.out]; exact putSel_upk 5 hb_ rfl rfl rfl), hI⟩
    refine steps_cons ?_ ?_
    · rintro b a w' ⟨ha, hI⟩ hb_ hon hoff
      refine ⟨_, rfl, fun K hK => ?_⟩
      have e5 : a.tmps[5]? = some (.int .i64 (i : Int)) := by rw [ha]; exact (putSel_off rfl).trans s5
      replace ha := Aside0.mk ha
      refine value_ (w1 := w') (v := .int .i64 (i : Int)) (by rfl) rfl ?_ ?_
      · go_simp; try rfl
        all_goals (try (simp only [IntKind.wrap_i64]; omega))
      exact hK.out _ _ ⟨(by rw [ha.out]; exact putSel_upk 6 hb_ rfl rfl rfl), hI⟩
    refine steps_cons ?_ ?_
    · rintro b a w' ⟨ha, hI⟩ hb_ hon hoff
      refine ⟨_, rfl, fun K hK => ?_⟩
      have e33 : a.tmps[33]? = some (.slice (some ⟨b2, o2, none⟩) n cb) := by rw [ha]; exact putSel_on (e := (5, 33, .slice (some ⟨b2, o2, none⟩) n cb)) 5 rfl rfl (hon 5 (by kernel_rfl)) (by rw [hsz]; rfl)
      have e34 : a.tmps[34]? = some (.int .i64 (i : Int)) := by rw [ha]; exact putSel_on (e := (6, 34, .int .i64 (i : Int))) 6 rfl rfl (hon 6 (by kernel_rfl)) (by rw [hsz]; rfl)
      replace ha := Aside0.mk ha
      refine value_ (w1 := w') (v := .pointer (some ⟨b2, o2 + i * 2, none⟩)) (by rfl) rfl ?_ ?_
      · go_simp; try rfl
        all_goals (try (simp only [IntKind.wrap_i64]; omega))
      exact hK.out _ _ ⟨(by rw [ha.out]; exact putSel_upk 7 hb_ rfl rfl rfl), hI⟩
    refine steps_cons ?_ ?_
    · rintro b a w' ⟨ha, hI⟩ hb_ hon hoff
      refine ⟨_, rfl, fun K hK => ?_⟩
      have e35 : a.tmps[35]? = some (.pointer (some ⟨b2, o2 + i * 2, none⟩)) := by rw [ha]; exact putSel_on (e := (7, 35, .pointer (some ⟨b2, o2 + i * 2, none⟩))) 7 rfl rfl (hon 7 (by kernel_rfl)) (by rw [hsz]; rfl)
      replace ha := Aside0.mk ha
      refine value_ (w1 := w') (v := .pointer (some ⟨b2, o2 + i * 2, none⟩)) (by rfl) rfl ?_ ?_
      · go_simp; try rfl
        all_goals (try (simp only [IntKind.wrap_i64]; omega))
      exact hK.out _ _ ⟨(by rw [ha.out]; exact putSel_upk 8 hb_ rfl rfl rfl), hI⟩
    refine steps_cons ?_ ?_
    · rintro b a w' ⟨ha, hI⟩ hb_ hon hoff
      refine ⟨_, rfl, fun K hK => ?_⟩
      have e36 : a.tmps[36]? = some (.pointer (some ⟨b2, o2 + i * 2, none⟩)) := by rw [ha]; exact putSel_on (e := (8, 36, .pointer (some ⟨b2, o2 + i * 2, none⟩))) 8 rfl rfl (hon 8 (by kernel_rfl)) (by rw [hsz]; rfl)
      replace ha := Aside0.mk ha
      have m0 := Kept.of hI _ _ _ d20
      refine value_ (w1 := w') (v := .string t2) (by rfl) rfl ?_ ?_
      · go_simp; try rfl
        all_goals (try (simp only [IntKind.wrap_i64]; omega))
      exact hK.out _ _ ⟨(by rw [ha.out]; exact putSel_upk 9 hb_ rfl rfl rfl), hI⟩
    refine steps_cons ?_ ?_
    · rintro b a w' ⟨ha, hI⟩ hb_ hon hoff
      refine ⟨_, rfl, fun K hK => ?_⟩
      have e32 : a.tmps[32]? = some (.string t1) := by rw [ha]; exact putSel_on (e := (4, 32, .string t1)) 4 rfl rfl (hon 4 (by kernel_rfl)) (by rw [hsz]; rfl)
      have e37 : a.tmps[37]? = some (.string t2) := by rw [ha]; exact putSel_on (e := (9, 37, .string t2)) 9 rfl rfl (hon 9 (by kernel_rfl)) (by rw [hsz]; rfl)
      replace ha := Aside0.mk ha
      refine value_ (w1 := w') (v := .bool false) (by rfl) rfl ?_ ?_
      · go_simp; try rfl
        all_goals (try (simp only [IntKind.wrap_i64]; omega))
      exact hK.out _ _ ⟨(by rw [ha.out]; exact putSel_upk 10 hb_ rfl rfl rfl), hI⟩
    refine steps_cons ?_ ?_
    · rintro b a w' ⟨ha, hI⟩ hb_ hon hoff
      refine ⟨_, rfl, fun K hK => ?_⟩
      have e38 : a.tmps[38]? = some (.bool false) := by rw [ha]; exact putSel_on (e := (10, 38, .bool false)) 10 rfl rfl (hon 10 (by kernel_rfl)) (by rw [hsz]; rfl)
      replace ha := Aside0.mk ha
      refine value_ (w1 := w') (v := .bool false) (by rfl) rfl ?_ ?_
      · go_simp; try rfl
        all_goals (try (simp only [IntKind.wrap_i64]; omega))
      exact hK.out _ _ ⟨(by rw [ha.out]; exact putSel_upk 11 hb_ rfl rfl rfl), hI⟩
    refine steps_cons ?_ ?_
    · rintro b a w' ⟨ha, hI⟩ hb_ hon hoff
      refine ⟨_, rfl, fun K hK => ?_⟩
      have e6 : a.tmps[6]? = some (.pointer (some ⟨b3, o3, none⟩)) := by rw [ha]; exact (putSel_off rfl).trans s6
      have e39 : a.tmps[39]? = some (.bool false) := by rw [ha]; exact putSel_on (e := (11, 39, .bool false)) 11 rfl rfl (hon 11 (by kernel_rfl)) (by rw [hsz]; rfl)
      replace ha := Aside0.mk ha
      refine value_ (w1 := w') (v := .pointer (some ⟨b3, o3, none⟩)) (wanted_on rfl rfl rfl e39) rfl ?_ ?_
      · go_simp; try rfl
        all_goals (try (simp only [IntKind.wrap_i64]; omega))
      exact hK.out _ _ ⟨(by rw [ha.out]; exact putSel_upk 12 hb_ rfl rfl rfl), hI⟩
    refine steps_cons ?_ ?_
    · rintro b a w' ⟨ha, hI⟩ hb_ hon hoff
      refine ⟨_, rfl, fun K hK => ?_⟩
      have e40 : a.tmps[40]? = some (.pointer (some ⟨b3, o3, none⟩)) := by rw [ha]; exact putSel_on (e := (12, 40, .pointer (some ⟨b3, o3, none⟩))) 12 rfl rfl (hon 12 (by kernel_rfl)) (by rw [hsz]; rfl)
      have e39 : a.tmps[39]? = some (.bool false) := by rw [ha]; exact putSel_on (e := (11, 39, .bool false)) 11 rfl rfl (hon 11 (by kernel_rfl)) (by rw [hsz]; rfl)
      replace ha := Aside0.mk ha
      refine value_ (w1 := w') (v := .bool false) (wanted_on rfl rfl rfl e39) rfl ?_ ?_
      · go_simp; try rfl
        all_goals (try (simp only [IntKind.wrap_i64]; omega))
      exact hK.out _ _ ⟨(by rw [ha.out]; exact putSel_upk 13 hb_ rfl rfl rfl), hI⟩
    refine steps_cons ?_ ?_
    · rintro b a w' ⟨ha, hI⟩ hb_ hon hoff
      refine ⟨_, rfl, fun K hK => ?_⟩
      have e7 : a.tmps[7]? = some (.pointer none) := by rw [ha]; exact (putSel_off rfl).trans s7
      have e39 : a.tmps[39]? = some (.bool false) := by rw [ha]; exact putSel_on (e := (11, 39, .bool false)) 11 rfl rfl (hon 11 (by kernel_rfl)) (by rw [hsz]; rfl)
      replace ha := Aside0.mk ha
      refine value_ (w1 := w') (v := .pointer none) (wanted_on rfl rfl rfl e39) rfl ?_ ?_
      · go_simp; try rfl
        all_goals (try (simp only [IntKind.wrap_i64]; omega))
      exact hK.out _ _ ⟨(by rw [ha.out]; exact putSel_upk 14 hb_ rfl rfl rfl), hI⟩
    refine steps_cons ?_ ?_
    · rintro b a w' ⟨ha, hI⟩ hb_ hon hoff
      refine ⟨_, rfl, fun K hK => ?_⟩
      have e42 : a.tmps[42]? = some (.pointer none) := by rw [ha]; exact putSel_on (e := (14, 42, .pointer none)) 14 rfl rfl (hon 14 (by kernel_rfl)) (by rw [hsz]; rfl)
      have e39 : a.tmps[39]? = some (.bool false) := by rw [ha]; exact putSel_on (e := (11, 39, .bool false)) 11 rfl rfl (hon 11 (by kernel_rfl)) (by rw [hsz]; rfl)
      replace ha := Aside0.mk ha
      refine value_ (w1 := w') (v := .bool true) (wanted_on rfl rfl rfl e39) rfl ?_ ?_
      · go_simp; try rfl
        all_goals (try (simp only [IntKind.wrap_i64]; omega))
      exact hK.out _ _ ⟨(by rw [ha.out]; exact putSel_upk 15 hb_ rfl rfl rfl), hI⟩
    refine steps_cons ?_ ?_
    · rintro b a w' ⟨ha, hI⟩ hb_ hon hoff
      refine ⟨_, rfl, fun K hK => ?_⟩
      have e41 : a.tmps[41]? = some (.bool false) := by rw [ha]; exact putSel_on (e := (13, 41, .bool false)) 13 rfl rfl (hon 13 (by kernel_rfl)) (by rw [hsz]; rfl)
      have e43 : a.tmps[43]? = some (.bool true) := by rw [ha]; exact putSel_on (e := (15, 43, .bool true)) 15 rfl rfl (hon 15 (by kernel_rfl)) (by rw [hsz]; rfl)
      have e39 : a.tmps[39]? = some (.bool false) := by rw [ha]; exact putSel_on (e := (11, 39, .bool false)) 11 rfl rfl (hon 11 (by kernel_rfl)) (by rw [hsz]; rfl)
      replace ha := Aside0.mk ha
      refine value_ (w1 := w') (v := .bool true) (wanted_on rfl rfl rfl e39) rfl ?_ ?_
      · go_simp; try rfl
        all_goals (try (simp only [IntKind.wrap_i64]; omega))
      exact hK.out _ _ ⟨(by rw [ha.out]; exact putSel_upk 16 hb_ rfl rfl rfl), hI⟩
    refine steps_cons ?_ ?_
    · rintro b a w' ⟨ha, hI⟩ hb_ hon hoff
      refine ⟨_, rfl, fun K hK => ?_⟩
      have e39 : a.tmps[39]? = some (.bool false) := by rw [ha]; exact putSel_on (e := (11, 39, .bool false)) 11 rfl rfl (hon 11 (by kernel_rfl)) (by rw [hsz]; rfl)
      have e44 : a.tmps[44]? = some (.bool true) := by rw [ha]; exact putSel_on (e := (16, 44, .bool true)) 16 rfl rfl (hon 16 (by kernel_rfl)) (by rw [hsz]; rfl)
      replace ha := Aside0.mk ha
      refine value_ (w1 := w') (v := .bool true) (by rfl) rfl ?_ ?_
      · go_simp; try rfl
        all_goals (try (simp only [IntKind.wrap_i64]; omega))
      exact hK.out _ _ ⟨(by rw [ha.out]; exact putSel_upk 17 hb_ rfl rfl rfl), hI⟩
    refine steps_cons ?_ ?_
    · rintro b a w' ⟨ha, hI⟩ hb_ hon hoff
      refine ⟨_, rfl, fun K hK => ?_⟩
      have e45 : a.tmps[45]? = some (.bool true) := by rw [ha]; exact putSel_on (e := (17, 45, .bool true)) 17 rfl rfl (hon 17 (by kernel_rfl)) (by rw [hsz]; rfl)
      replace ha := Aside0.mk ha
      refine value_ (w1 := w') (v := .bool true) (by rfl) rfl ?_ ?_
      · go_simp; try rfl
        all_goals (try (simp only [IntKind.wrap_i64]; omega))
      exact hK.out _ _ ⟨(by rw [ha.out]; exact putSel_upk 18 hb_ rfl rfl rfl), hI⟩
    refine steps_cons ?_ ?_
    · rintro b a w' ⟨ha, hI⟩ hb_ hon hoff
      refine ⟨_, rfl, fun K hK => ?_⟩
      have e46 : a.tmps[46]? = some (.bool true) := by rw [ha]; exact putSel_on (e := (18, 46, .bool true)) 18 rfl rfl (hon 18 (by kernel_rfl)) (by rw [hsz]; rfl)
      exact off_ (wanted_off rfl rfl rfl e46) (hK.out _ _ ⟨(by rw [ha]; exact putSel_upk 19 hb_ rfl rfl rfl), hI⟩)
    refine steps_cons ?_ ?_
    · rintro b a w' ⟨ha, hI⟩ hb_ hon hoff
      refine ⟨_, rfl, fun K hK => ?_⟩
      have e46 : a.tmps[46]? = some (.bool true) := by rw [ha]; exact putSel_on (e := (18, 46, .bool true)) 18 rfl rfl (hon 18 (by kernel_rfl)) (by rw [hsz]; rfl)
      exact off_ (wanted_off rfl rfl rfl e46) (hK.out _ _ ⟨(by rw [ha]; exact putSel_upk 20 hb_ rfl rfl rfl), hI⟩)
    refine steps_cons ?_ ?_
    · rintro b a w' ⟨ha, hI⟩ hb_ hon hoff
      refine ⟨_, rfl, fun K hK => ?_⟩
      have e46 : a.tmps[46]? = some (.bool true) := by rw [ha]; exact putSel_on (e := (18, 46, .bool true)) 18 rfl rfl (hon 18 (by kernel_rfl)) (by rw [hsz]; rfl)
      exact off_ (wanted_off rfl rfl rfl e46) (hK.out _ _ ⟨(by rw [ha]; exact putSel_upk 21 hb_ rfl rfl rfl), hI⟩)
    refine steps_cons ?_ ?_
    · rintro b a w' ⟨ha, hI⟩ hb_ hon hoff
      refine ⟨_, rfl, fun K hK => ?_⟩
      have e49 : a.tmps[49]? = some (undef) := by rw [ha]; exact putSel_on (e := (21, 49, undef)) 21 rfl rfl (hon 21 (by kernel_rfl)) (by rw [hsz]; rfl)
      exact off_ (wanted_und rfl rfl rfl e49) (hK.out _ _ ⟨(by rw [ha]; exact putSel_upk 22 hb_ rfl rfl rfl), hI⟩)
    refine steps_cons ?_ ?_
    · rintro b a w' ⟨ha, hI⟩ hb_ hon hoff
      refine ⟨_, rfl, fun K hK => ?_⟩
      have e49 : a.tmps[49]? = some (undef) := by rw [ha]; exact putSel_on (e := (21, 49, undef)) 21 rfl rfl (hon 21 (by kernel_rfl)) (by rw [hsz]; rfl)
      exact off_ (wanted_und rfl rfl rfl e49) (hK.out _ _ ⟨(by rw [ha]; exact putSel_upk 23 hb_ rfl rfl rfl), hI⟩)
    refine steps_cons ?_ ?_
    · rintro b a w' ⟨ha, hI⟩ hb_ hon hoff
      refine ⟨_, rfl, fun K hK => ?_⟩
      have e49 : a.tmps[49]? = some (undef) := by rw [ha]; exact putSel_on (e := (21, 49, undef)) 21 rfl rfl (hon 21 (by kernel_rfl)) (by rw [hsz]; rfl)
      exact off_ (wanted_und rfl rfl rfl e49) (hK.out _ _ ⟨(by rw [ha]; exact putSel_upk 24 hb_ rfl rfl rfl), hI⟩)
    refine steps_cons ?_ ?_
    · rintro b a w' ⟨ha, hI⟩ hb_ hon hoff
      refine ⟨_, rfl, fun K hK => ?_⟩
      have e49 : a.tmps[49]? = some (undef) := by rw [ha]; exact putSel_on (e := (21, 49, undef)) 21 rfl rfl (hon 21 (by kernel_rfl)) (by rw [hsz]; rfl)
      exact off_ (wanted_und rfl rfl rfl e49) (hK.out _ _ ⟨(by rw [ha]; exact putSel_upk 25 hb_ rfl rfl rfl), hI⟩)
    refine steps_cons ?_ ?_
    · rintro b a w' ⟨ha, hI⟩ hb_ hon hoff
      refine ⟨_, rfl, fun K hK => ?_⟩
      have e49 : a.tmps[49]? = some (undef) := by rw [ha]; exact putSel_on (e := (21, 49, undef)) 21 rfl rfl (hon 21 (by kernel_rfl)) (by rw [hsz]; rfl)
      exact off_ (wanted_und rfl rfl rfl e49) (hK.out _ _ ⟨(by rw [ha]; exact putSel_upk 26 hb_ rfl rfl rfl), hI⟩)
    refine steps_cons ?_ ?_
    · rintro b a w' ⟨ha, hI⟩ hb_ hon hoff
      refine ⟨_, rfl, fun K hK => ?_⟩
      have e49 : a.tmps[49]? = some (undef) := by rw [ha]; exact putSel_on (e := (21, 49, undef)) 21 rfl rfl (hon 21 (by kernel_rfl)) (by rw [hsz]; rfl)
      exact off_ (wanted_und rfl rfl rfl e49) (hK.out _ _ ⟨(by rw [ha]; exact putSel_upk 27 hb_ rfl rfl rfl), hI⟩)
    refine steps_cons ?_ ?_
    · rintro b a w' ⟨ha, hI⟩ hb_ hon hoff
      refine ⟨_, rfl, fun K hK => ?_⟩
      have e49 : a.tmps[49]? = some (undef) := by rw [ha]; exact putSel_on (e := (21, 49, undef)) 21 rfl rfl (hon 21 (by kernel_rfl)) (by rw [hsz]; rfl)
      exact off_ (wanted_und rfl rfl rfl e49) (hK.out _ _ ⟨(by rw [ha]; exact putSel_upk 28 hb_ rfl rfl rfl), hI⟩)
    refine steps_cons ?_ ?_
    · rintro b a w' ⟨ha, hI⟩ hb_ hon hoff
      refine ⟨_, rfl, fun K hK => ?_⟩
      have e49 : a.tmps[49]? = some (undef) := by rw [ha]; exact putSel_on (e := (21, 49, undef)) 21 rfl rfl (hon 21 (by kernel_rfl)) (by rw [hsz]; rfl)
      exact off_ (wanted_und rfl rfl rfl e49) (hK.out _ _ ⟨(by rw [ha]; exact putSel_upk 29 hb_ rfl rfl rfl), hI⟩)
    refine steps_cons ?_ ?_
    · rintro b a w' ⟨ha, hI⟩ hb_ hon hoff
      refine ⟨_, rfl, fun K hK => ?_⟩
      have e46 : a.tmps[46]? = some (.bool true) := by rw [ha]; exact putSel_on (e := (18, 46, .bool true)) 18 rfl rfl (hon 18 (by kernel_rfl)) (by rw [hsz]; rfl)
      exact off_ (wanted_off rfl rfl rfl e46) (hK.out _ _ ⟨(by rw [ha]; exact putSel_upk 30 hb_ rfl rfl rfl), hI⟩)
    refine steps_cons ?_ ?_
    · rintro b a w' ⟨ha, hI⟩ hb_ hon hoff
      refine ⟨_, rfl, fun K hK => ?_⟩
      have e46 : a.tmps[46]? = some (.bool true) := by rw [ha]; exact putSel_on (e := (18, 46, .bool true)) 18 rfl rfl (hon 18 (by kernel_rfl)) (by rw [hsz]; rfl)
      have e58 : a.tmps[58]? = some (undef) := by rw [ha]; exact putSel_on (e := (30, 58, undef)) 30 rfl rfl (hon 30 (by kernel_rfl)) (by rw [hsz]; rfl)
      replace ha := Aside0.mk ha
      refine value_ (w1 := w') (v := .bool true) (by rfl) rfl ?_ ?_
      · go_simp; try rfl
        all_goals (try (simp only [IntKind.wrap_i64]; omega))
      exact hK.out _ _ ⟨(by rw [ha.out]; exact putSel_upk 31 hb_ rfl rfl rfl), hI⟩
    exact steps_nil
  rintro b a w1 hall ⟨ha, hI1⟩
  exact hend a w1 hI1 (by rw [ha]; simp only [putSel, if_true, hall 0 (by kernel_rfl), hall 1 (by kernel_rfl), hall 2 (by kernel_rfl), hall 3 (by kernel_rfl), hall 4 (by kernel_rfl), hall 5 (by kernel_rfl), hall 6 (by kernel_rfl), hall 7 (by kernel_rfl), hall 8 (by kernel_rfl), hall 9 (by kernel_rfl), hall 10 (by kernel_rfl), hall 11 (by kernel_rfl), hall 12 (by kernel_rfl), hall 13 (by kernel_rfl), hall 14 (by kernel_rfl), hall 15 (by kernel_rfl), hall 16 (by kernel_rfl), hall 17 (by kernel_rfl), hall 18 (by kernel_rfl), hall 19 (by kernel_rfl), hall 20 (by kernel_rfl), hall 21 (by kernel_rfl), hall 22 (by kernel_rfl), hall 23 (by kernel_rfl), hall 24 (by kernel_rfl), hall 25 (by kernel_rfl), hall 26 (by kernel_rfl), hall 27 (by kernel_rfl), hall 28 (by kernel_rfl), hall 29 (by kernel_rfl), hall 30 (by kernel_rfl), hall 31 (by kernel_rfl)]) (by rw [ha]; exact (putSel_size b _ a0).2) (by rw [ha]; exact putSel_on (e := (31, 59, .bool true)) 31 rfl rfl (hall 31 (by kernel_rfl)) (by rw [hsz]; rfl))
end Go.Proofs.YtipmphgkdomebaaDoor
namespace Go.Proofs.YtipmphgkdomebaaDoor
open Go.RowKit Go.Proofs.YtipmphgkdomebaaDoorW.PrintWords Go.Proofs.YtipmphgkdomebaaDoorW.PrintLast
set_option linter.unusedVariables false
set_option linter.unusedSimpArgs false
def as47c.T : Bool × List (List Nat × List Nat) := (true, [([], []), ([], []), ([0, 1], [0, 1]), ([2], [2]), ([3], [3]), ([], []), ([], []), ([5, 6], [5, 6]), ([7], [7]), ([8], [8]), ([4, 9], [4, 9]), ([10], [10]), ([11], [11]), ([12, 11], [11, 12]), ([11], [11]), ([14, 11], [11, 14]), ([13, 15, 11], [11, 13, 15]), ([11, 16], [11, 16]), ([17, 11], [17]), ([18], [18]), ([19, 18], [18, 19]), ([20, 18, 18], [18, 20]), ([21], [21]), ([22, 21], [21, 22]), ([23, 21], [21, 23]), ([21], [21]), ([25, 21], [21, 25]), ([26, 21], [21, 26]), ([24, 27, 21, 21], [21, 24, 27]), ([28, 21], [21, 28]), ([21, 29, 18], [18, 21, 29]), ([18, 30], [18, 30])])
def as47c.B : List Nat := [0, 0, 3, 7, 15, 0, 0, 96, 224, 480, 1023, 2047, 4095, 8191, 4095, 20479, 65535, 131071, 262143, 524287, 1048575, 2097151, 4194303, 8388607, 16777215, 4194303, 37748735, 104857599, 268435455, 536870911, 1073741823, 2147483647]
theorem as47c.tab : rtab .any (opsOf Tryd.f47 8) = as47c.T := by kernel_rfl
theorem as47c.bits : waitsOk as47c.T.2 as47c.B = true := by kernel_rfl
set_option maxRecDepth 100000 in
set_option maxHeartbeats 4000000 in
theorem as47c (w0 : World) (t1 t2 : ByteArray) (hq : (t1.toList == t2.toList) = true) (n ca cb i b1 o1 b2 o2 : Nat) (q1 : (0 : Int) ≤ (i : Int)) (q2 : (i : Int) < (n : Int)) (d10 : w0.cell? ⟨b1, o1 + i * 2, none⟩ = some (.string t1)) (d20 : w0.cell? ⟨b2, o2 + i * 2, none⟩ = some (.string t2)) (a0 : Act) (s0 : a0.tmps[0]? = some (.slice (some ⟨b1, o1, none⟩) n ca)) (s1 : a0.tmps[1]? = some (.slice (some ⟨b2, o2, none⟩) n cb)) (s5 : a0.tmps[5]? = some (.int .i64 (i : Int))) (s6 : a0.tmps[6]? = some (.pointer none)) (s7 : a0.tmps[7]? = some (.pointer none)) (hsz : a0.tmps.size = Tryd.f47.ntmps) (W : World) (hI : Below w0.heap.size w0 W.drew) (Q : Exit → Act → World → Prop) (hend : ∀ (a9 : Act) w', Below w0.heap.size w0 w' → a9 = putSel a0 (fun _ => true) [(0, 28, .slice (some ⟨b1, o1, none⟩) n ca), (1, 29, .int .i64 (i : Int)), (2, 30, .pointer (some ⟨b1, o1 + i * 2, none⟩)), (3, 31, .pointer (some ⟨b1, o1 + i * 2, none⟩)), (4, 32, .string t1), (5, 33, .slice (some ⟨b2, o2, none⟩) n cb), (6, 34, .int .i64 (i : Int)), (7, 35, .pointer (some ⟨b2, o2 + i * 2, none⟩)), (8, 36, .pointer (some ⟨b2, o2 + i * 2, none⟩)), (9, 37, .string t2), (10, 38, .bool false), (11, 39, .bool false), (12, 40, .pointer none), (13, 41, .bool true), (14, 42, .pointer none), (15, 43, .bool true), (16, 44, .bool false), (17, 45, .bool false), (18, 46, .bool false), (19, 47, .pointer none), (20, 48, .bool false), (21, 49, .bool false), (22, 50, undef), (23, 51, undef), (24, 52, undef), (25, 53, undef), (26, 54, undef), (27, 55, undef), (28, 56, undef), (29, 57, undef), (30, 58, .bool false), (31, 59, .bool false)] → a9.defers = a0.defers → a9.tmps[59]? = some (.bool false) → Q .normal a9 w') :
    (Code.region 8 #[{ dst := some 28, op := Op.move (Operand.tmp 0), type := 26, pos := "law.go:246", after := #[], guard := none }, { dst := some 29, op := Op.move (Operand.tmp 5), type := 3, pos := "law.go:246", after := #[], guard := none }, { dst := some 30, op := Op.indexAddr 26 (Operand.tmp 28) (Operand.tmp 29), type := 0, pos := "law.go:246", after := #[{ on := 0, ground := Ground.data }, { on := 1, ground := Ground.data }], guard := none }, { dst := some 31, op := Op.fieldAddr 42 (Operand.tmp 30) 0, type := 0, pos := "law.go:246", after := #[{ on := 2, ground := Ground.data }], guard := none }, { dst := some 32, op := Op.load 9 (Operand.tmp 31), type := 9, pos := "law.go:246", after := #[{ on := 3, ground := Ground.data }], guard := none }, { dst := some 33, op := Op.move (Operand.tmp 1), type := 26, pos := "law.go:246", after := #[], guard := none }, { dst := some 34, op := Op.move (Operand.tmp 5), type := 3, pos := "law.go:246", after := #[], guard := none }, { dst := some 35, op := Op.indexAddr 26 (Operand.tmp 33) (Operand.tmp 34), type := 0, pos := "law.go:246", after := #[{ on := 5, ground := Ground.data }, { on := 6, ground := Ground.data }], guard := none }, { dst := some 36, op := Op.fieldAddr 42 (Operand.tmp 35) 0, type := 0, pos := "law.go:246", after := #[{ on := 7, ground := Ground.data }], guard := none }, { dst := some 37, op := Op.load 9 (Operand.tmp 36), type := 9, pos := "law.go:246", after := #[{ on := 8, ground := Ground.data }], guard := none }, { dst := some 38, op := Op.binOp BinOp.neq 9 (Operand.tmp 32) (Operand.tmp 37) 9, type := 4, pos := "law.go:246", after := #[{ on := 4, ground := Ground.data }, { on := 9, ground := Ground.data }], guard := none }, { dst := some 39, op := Op.move (Operand.tmp 38), type := 4, pos := "law.go:246", after := #[{ on := 10, ground := Ground.data }], guard := none }, { dst := some 40, op := Op.move (Operand.tmp 6), type := 37, pos := "law.go:246", after := #[{ on := 11, ground := Ground.guard }], guard := some (11, false) }, { dst := some 41, op := Op.binOp BinOp.eql 37 (Operand.tmp 40) (Operand.const (Value.pointer none)) 37, type := 4, pos := "law.go:246", after := #[{ on := 12, ground := Ground.data }, { on := 11, ground := Ground.guard }], guard := some (11, false) }, { dst := some 42, op := Op.move (Operand.tmp 7), type := 37, pos := "law.go:246", after := #[{ on := 11, ground := Ground.guard }], guard := some (11, false) }, { dst := some 43, op := Op.binOp BinOp.eql 37 (Operand.tmp 42) (Operand.const (Value.pointer none)) 37, type := 4, pos := "law.go:246", after := #[{ on := 14, ground := Ground.data }, { on := 11, ground := Ground.guard }], guard := some (11, false) }, { dst := some 44, op := Op.binOp BinOp.neq 4 (Operand.tmp 41) (Operand.tmp 43) 4, type := 4, pos := "law.go:246", after := #[{ on := 13, ground := Ground.data }, { on := 15, ground := Ground.data }, { on := 11, ground := Ground.guard }], guard := some (11, false) }, { dst := some 45, op := Op.pick (Operand.tmp 39) (Operand.const (Value.bool true)) (Operand.tmp 44), type := 4, pos := "law.go:246", after := #[{ on := 11, ground := Ground.data }, { on := 16, ground := Ground.data }], guard := none }, { dst := some 46, op := Op.move (Operand.tmp 45), type := 4, pos := "law.go:246", after := #[{ on := 17, ground := Ground.data }, { on := 11, ground := Ground.chain }], guard := none }, { dst := some 47, op := Op.move (Operand.tmp 6), type := 37, pos := "law.go:246", after := #[{ on := 18, ground := Ground.guard }], guard := some (18, false) }, { dst := some 48, op := Op.binOp BinOp.neq 37 (Operand.tmp 47) (Operand.const (Value.pointer none)) 37, type := 4, pos := "law.go:246", after := #[{ on := 19, ground := Ground.data }, { on := 18, ground := Ground.guard }], guard := some (18, false) }, { dst := some 49, op := Op.move (Operand.tmp 48), type := 4, pos := "law.go:246", after := #[{ on := 20, ground := Ground.data }, { on := 18, ground := Ground.chain }, { on := 18, ground := Ground.guard }], guard := some (18, false) }, { dst := some 50, op := Op.move (Operand.tmp 6), type := 37, pos := "law.go:246", after := #[{ on := 21, ground := Ground.guard }], guard := some (21, true) }, { dst := some 51, op := Op.nilCheck (Operand.tmp 50), type := 0, pos := "law.go:246", after := #[{ on := 22, ground := Ground.data }, { on := 21, ground := Ground.guard }], guard := some (21, true) }, { dst := some 52, op := Op.load 40 (Operand.tmp 51), type := 40, pos := "law.go:246", after := #[{ on := 23, ground := Ground.data }, { on := 21, ground := Ground.guard }], guard := some (21, true) }, { dst := some 53, op := Op.move (Operand.tmp 7), type := 37, pos := "law.go:246", after := #[{ on := 21, ground := Ground.guard }], guard := some (21, true) }, { dst := some 54, op := Op.nilCheck (Operand.tmp 53), type := 0, pos := "law.go:246", after := #[{ on := 25, ground := Ground.data }, { on := 21, ground := Ground.guard }], guard := some (21, true) }, { dst := some 55, op := Op.load 40 (Operand.tmp 54), type := 40, pos := "law.go:246", after := #[{ on := 26, ground := Ground.data }, { on := 21, ground := Ground.guard }], guard := some (21, true) }, { dst := some 56, op := Op.call { callee := Callee.value (Operand.func 82), args := #[Operand.tmp 52, Operand.tmp 55], argTypes := #[40, 40] }, type := 4, pos := "law.go:246", after := #[{ on := 24, ground := Ground.data }, { on := 27, ground := Ground.data }, { on := 21, ground := Ground.chain }, { on := 21, ground := Ground.guard }], guard := some (21, true) }, { dst := some 57, op := Op.unOp UnOp.not 4 (Operand.tmp 56), type := 4, pos := "law.go:246", after := #[{ on := 28, ground := Ground.data }, { on := 21, ground := Ground.guard }], guard := some (21, true) }, { dst := some 58, op := Op.pick (Operand.tmp 49) (Operand.tmp 57) (Operand.const (Value.bool false)), type := 4, pos := "law.go:246", after := #[{ on := 21, ground := Ground.data }, { on := 29, ground := Ground.data }, { on := 18, ground := Ground.guard }], guard := some (18, false) }, { dst := some 59, op := Op.pick (Operand.tmp 46) (Operand.const (Value.bool true)) (Operand.tmp 58), type := 4, pos := "law.go:246", after := #[{ on := 18, ground := Ground.data }, { on := 30, ground := Ground.data }], guard := none }] true).wp Tryd.prog Q a0 W := by
  refine start_ (n := 32) (S := fun w' => True) (ds := []) #[false, false, false, false, false, false, false, false, false, false, false, false, false, false, false, false, false, false, false, false, false, false, false, false, false, false, false, false, false, false, false, false] (by kernel_rfl) rfl rfl trivial (fun hHeld => ?_)
  refine with_tabW as47c.tab as47c.bits (fun HT_ HW_ => ?_)
  refine inv_at [0, 1, 2, 3, 4, 5, 6, 7, 8, 9, 10, 11, 12, 13, 14, 15, 16, 17, 18, 19, 20, 21, 22, 23, 24, 25, 26, 27, 28, 29, 30, 31] (fun a0_ b a w' => a = putSel a0_ b [(0, 28, .slice (some ⟨b1, o1, none⟩) n ca), (1, 29, .int .i64 (i : Int)), (2, 30, .pointer (some ⟨b1, o1 + i * 2, none⟩)), (3, 31, .pointer (some ⟨b1, o1 + i * 2, none⟩)), (4, 32, .string t1), (5, 33, .slice (some ⟨b2, o2, none⟩) n cb), (6, 34, .int .i64 (i : Int)), (7, 35, .pointer (some ⟨b2, o2 + i * 2, none⟩)), (8, 36, .pointer (some ⟨b2, o2 + i * 2, none⟩)), (9, 37, .string t2), (10, 38, .bool false), (11, 39, .bool false), (12, 40, .pointer none), (13, 41, .bool true), (14, 42, .pointer none), (15, 43, .bool true), (16, 44, .bool false), (17, 45, .bool false), (18, 46, .bool false), (19, 47, .pointer none), (20, 48, .bool false), (21, 49, .bool false), (22, 50, undef), (23, 51, undef), (24, 52, undef), (25, 53, undef), (26, 54, undef), (27, 55, undef), (28, 56, undef), (29, 57, undef), (30, 58, .bool false), (31, 59, .bool false)] ∧ (Below w0.heap.size w0 w')) HT_.out HW_.out (by kernel_rfl) (by kernel_rfl) ?_ ?_ ?_
  · exact ⟨(by simp only [putSel, Bool.false_eq_true, if_false]), hI⟩
  · clear hI hend hHeld
    refine steps_cons ?_ ?_
    · rintro b a w' ⟨ha, hI⟩ hb_ hon hoff
      refine ⟨_, rfl, fun K hK => ?_⟩
      have e0 : a.tmps[0]? = some (.slice (some ⟨b1, o1, none⟩) n ca) := by rw [ha]; exact (putSel_off rfl).trans s0
      replace ha := Aside0.mk ha
      refine value_ (w1 := w') (v := .slice (some ⟨b1, o1, none⟩) n ca) (by rfl) rfl ?_ ?_
      · go_simp; try rfl
        all_goals (try (simp only [IntKind.wrap_i64]; omega))
      exact hK.out _ _ ⟨(by rw [ha.out]; exact putSel_upk 0 hb_ rfl rfl rfl), hI⟩
    refine steps_cons ?_ ?_
    · rintro b a w' ⟨ha, hI⟩ hb_ hon hoff
      refine ⟨_, rfl, fun K hK => ?_⟩
      have e5 : a.tmps[5]? = some (.int .i64 (i : Int)) := by rw [ha]; exact (putSel_off rfl).trans s5
      replace ha := Aside0.mk ha
      refine value_ (w1 := w') (v := .int .i64 (i : Int)) (by rfl) rfl ?_ ?_
      · go_simp; try rfl
        all_goals (try (simp only [IntKind.wrap_i64]; omega))
      exact hK.out _ _ ⟨(by rw [ha.out]; exact putSel_upk 1 hb_ rfl rfl rfl), hI⟩
    refine steps_cons ?_ ?_
    · rintro b a w' ⟨ha, hI⟩ hb_ hon hoff
      refine ⟨_, rfl, fun K hK => ?_⟩
      have e28 : a.tmps[28]? = some (.slice (some ⟨b1, o1, none⟩) n ca) := by rw [ha]; exact putSel_on (e := (0, 28, .slice (some ⟨b1, o1, none⟩) n ca)) 0 rfl rfl (hon 0 (by kernel_rfl)) (by rw [hsz]; rfl)
      have e29 : a.tmps[29]? = some (.int .i64 (i : Int)) := by rw [ha]; exact putSel_on (e := (1, 29, .int .i64 (i : Int))) 1 rfl rfl (hon 1 (by kernel_rfl)) (by rw [hsz]; rfl)
      replace ha := Aside0.mk ha
      refine value_ (w1 := w') (v := .pointer (some ⟨b1, o1 + i * 2, none⟩)) (by rfl) rfl ?_ ?_
      · go_simp; try rfl
        all_goals (try (simp only [IntKind.wrap_i64]; omega))
      exact hK.out _ _ ⟨(by rw [ha.out]; exact putSel_upk 2 hb_ rfl rfl rfl), hI⟩
    refine steps_cons ?_ ?_
    · rintro b a w' ⟨ha, hI⟩ hb_ hon hoff
      refine ⟨_, rfl, fun K hK => ?_⟩
      have e30 : a.tmps[30]? = some (.pointer (some ⟨b1, o1 + i * 2, none⟩)) := by rw [ha]; exact putSel_on (e := (2, 30, .pointer (some ⟨b1, o1 + i * 2, none⟩))) 2 rfl rfl (hon 2 (by kernel_rfl)) (by rw [hsz]; rfl)
      replace ha := Aside0.mk ha
      refine value_ (w1 := w') (v := .pointer (some ⟨b1, o1 + i * 2, none⟩)) (by rfl) rfl ?_ ?_
      · go_simp; try rfl
        all_goals (try (simp only [IntKind.wrap_i64]; omega))
      exact hK.out _ _ ⟨(by rw [ha.out]; exact putSel_upk 3 hb_ rfl rfl rfl), hI⟩
    refine steps_cons ?_ ?_
    · rintro b a w' ⟨ha, hI⟩ hb_ hon hoff
      refine ⟨_, rfl, fun K hK => ?_⟩
      have e31 : a.tmps[31]? = some (.pointer (some ⟨b1, o1 + i * 2, none⟩)) := by rw [ha]; exact putSel_on (e := (3, 31, .pointer (some ⟨b1, o1 + i * 2, none⟩))) 3 rfl rfl (hon 3 (by kernel_rfl)) (by rw [hsz]; rfl)
      replace ha := Aside0.mk ha
      have m0 := Kept.of hI _ _ _ d10
      refine value_ (w1 := w') (v := .string t1) (by rfl) rfl ?_ ?_
      · go_simp; try rfl
        all_goals (try (simp only [IntKind.wrap_i64]; omega))
      exact hK.out _ _ ⟨(by rw [ha.out]; exact putSel_upk 4 hb_ rfl rfl rfl), hI⟩
    refine steps_cons ?_ ?_
    · rintro b a w' ⟨ha, hI⟩ hb_ hon hoff
      refine ⟨_, rfl, fun K hK => ?_⟩
      have e1 : a.tmps[1]? = some (.slice (some ⟨b2, o2, none⟩) n cb) := by rw [ha]; exact (putSel_off rfl).trans s1
      replace ha := Aside0.mk ha
      refine value_ (w1 := w') (v := .slice (some ⟨b2, o2, none⟩) n cb) (by rfl) rfl ?_ ?_
      · go_simp; try rfl
        all_goals (try (simp only [IntKind.wrap_i64]; omega))
      exact hK.out _ _ ⟨(by rw [ha.out]; exact putSel_upk 5 hb_ rfl rfl rfl), hI⟩
    refine steps_cons ?_ ?_
    · rintro b a w' ⟨ha, hI⟩ hb_ hon hoff
      refine ⟨_, rfl, fun K hK => ?_⟩
      have e5 : a.tmps[5]? = some (.int .i64 (i : Int)) := by rw [ha]; exact (putSel_off rfl).trans s5
      replace ha := Aside0.mk ha
      refine value_ (w1 := w') (v := .int .i64 (i : Int)) (by rfl) rfl ?_ ?_
      · go_simp; try rfl
        all_goals (try (simp only [IntKind.wrap_i64]; omega))
      exact hK.out _ _ ⟨(by rw [ha.out]; exact putSel_upk 6 hb_ rfl rfl rfl), hI⟩
    refine steps_cons ?_ ?_
    · rintro b a w' ⟨ha, hI⟩ hb_ hon hoff
      refine ⟨_, rfl, fun K hK => ?_⟩
      have e33 : a.tmps[33]? = some (.slice (some ⟨b2, o2, none⟩) n cb) := by rw [ha]; exact putSel_on (e := (5, 33, .slice (some ⟨b2, o2, none⟩) n cb)) 5 rfl rfl (hon 5 (by kernel_rfl)) (by rw [hsz]; rfl)
      have e34 : a.tmps[34]? = some (.int .i64 (i : Int)) := by rw [ha]; exact putSel_on (e := (6, 34, .int .i64 (i : Int))) 6 rfl rfl (hon 6 (by kernel_rfl)) (by rw [hsz]; rfl)
      replace ha := Aside0.mk ha
      refine value_ (w1 := w') (v := .pointer (some ⟨b2, o2 + i * 2, none⟩)) (by rfl) rfl ?_ ?_
      · go_simp; try rfl
        all_goals (try (simp only [IntKind.wrap_i64]; omega))
      exact hK.out _ _ ⟨(by rw [ha.out]; exact putSel_upk 7 hb_ rfl rfl rfl), hI⟩
    refine steps_cons ?_ ?_
    · rintro b a w' ⟨ha, hI⟩ hb_ hon hoff
      refine ⟨_, rfl, fun K hK => ?_⟩
      have e35 : a.tmps[35]? = some (.pointer (some ⟨b2, o2 + i * 2, none⟩)) := by rw [ha]; exact putSel_on (e := (7, 35, .pointer (some ⟨b2, o2 + i * 2, none⟩))) 7 rfl rfl (hon 7 (by kernel_rfl)) (by rw [hsz]; rfl)
      replace ha := Aside0.mk ha
      refine value_ (w1 := w') (v := .pointer (some ⟨b2, o2 + i * 2, none⟩)) (by rfl) rfl ?_ ?_
      · go_simp; try rfl
        all_goals (try (simp only [IntKind.wrap_i64]; omega))
      exact hK.out _ _ ⟨(by rw [ha.out]; exact putSel_upk 8 hb_ rfl rfl rfl), hI⟩
    refine steps_cons ?_ ?_
    · rintro b a w' ⟨ha, hI⟩ hb_ hon hoff
      refine ⟨_, rfl, fun K hK => ?_⟩
      have e36 : a.tmps[36]? = some (.pointer (some ⟨b2, o2 + i * 2, none⟩)) := by rw [ha]; exact putSel_on (e := (8, 36, .pointer (some ⟨b2, o2 + i * 2, none⟩))) 8 rfl rfl (hon 8 (by kernel_rfl)) (by rw [hsz]; rfl)
      replace ha := Aside0.mk ha
      have m0 := Kept.of hI _ _ _ d20
      refine value_ (w1 := w') (v := .string t2) (by rfl) rfl ?_ ?_
      · go_simp; try rfl
        all_goals (try (simp only [IntKind.wrap_i64]; omega))
      exact hK.out _ _ ⟨(by rw [ha.out]; exact putSel_upk 9 hb_ rfl rfl rfl), hI⟩
    refine steps_cons ?_ ?_
    · rintro b a w' ⟨ha, hI⟩ hb_ hon hoff
      refine ⟨_, rfl, fun K hK => ?_⟩
      have e32 : a.tmps[32]? = some (.string t1) := by rw [ha]; exact putSel_on (e := (4, 32, .string t1)) 4 rfl rfl (hon 4 (by kernel_rfl)) (by rw [hsz]; rfl)
      have e37 : a.tmps[37]? = some (.string t2) := by rw [ha]; exact putSel_on (e := (9, 37, .string t2)) 9 rfl rfl (hon 9 (by kernel_rfl)) (by rw [hsz]; rfl)
      replace ha := Aside0.mk ha
      refine value_ (w1 := w') (v := .bool false) (by rfl) rfl ?_ ?_
      · go_simp; try rfl
        all_goals (try (simp only [IntKind.wrap_i64]; omega))
      exact hK.out _ _ ⟨(by rw [ha.out]; exact putSel_upk 10 hb_ rfl rfl rfl), hI⟩
    refine steps_cons ?_ ?_
    · rintro b a w' ⟨ha, hI⟩ hb_ hon hoff
      refine ⟨_, rfl, fun K hK => ?_⟩
      have e38 : a.tmps[38]? = some (.bool false) := by rw [ha]; exact putSel_on (e := (10, 38, .bool false)) 10 rfl rfl (hon 10 (by kernel_rfl)) (by rw [hsz]; rfl)
      replace ha := Aside0.mk ha
      refine value_ (w1 := w') (v := .bool false) (by rfl) rfl ?_ ?_
      · go_simp; try rfl
        all_goals (try (simp only [IntKind.wrap_i64]; omega))
      exact hK.out _ _ ⟨(by rw [ha.out]; exact putSel_upk 11 hb_ rfl rfl rfl), hI⟩
    refine steps_cons ?_ ?_
    · rintro b a w' ⟨ha, hI⟩ hb_ hon hoff
      refine ⟨_, rfl, fun K hK => ?_⟩
      have e6 : a.tmps[6]? = some (.pointer none) := by rw [ha]; exact (putSel_off rfl).trans s6
      have e39 : a.tmps[39]? = some (.bool false) := by rw [ha]; exact putSel_on (e := (11, 39, .bool false)) 11 rfl rfl (hon 11 (by kernel_rfl)) (by rw [hsz]; rfl)
      replace ha := Aside0.mk ha
      refine value_ (w1 := w') (v := .pointer none) (wanted_on rfl rfl rfl e39) rfl ?_ ?_
      · go_simp; try rfl
        all_goals (try (simp only [IntKind.wrap_i64]; omega))
      exact hK.out _ _ ⟨(by rw [ha.out]; exact putSel_upk 12 hb_ rfl rfl rfl), hI⟩
    refine steps_cons ?_ ?_
    · rintro b a w' ⟨ha, hI⟩ hb_ hon hoff
      refine ⟨_, rfl, fun K hK => ?_⟩
      have e40 : a.tmps[40]? = some (.pointer none) := by rw [ha]; exact putSel_on (e := (12, 40, .pointer none)) 12 rfl rfl (hon 12 (by kernel_rfl)) (by rw [hsz]; rfl)
      have e39 : a.tmps[39]? = some (.bool false) := by rw [ha]; exact putSel_on (e := (11, 39, .bool false)) 11 rfl rfl (hon 11 (by kernel_rfl)) (by rw [hsz]; rfl)
      replace ha := Aside0.mk ha
      refine value_ (w1 := w') (v := .bool true) (wanted_on rfl rfl rfl e39) rfl ?_ ?_
      · go_simp; try rfl
        all_goals (try (simp only [IntKind.wrap_i64]; omega))
      exact hK.out _ _ ⟨(by rw [ha.out]; exact putSel_upk 13 hb_ rfl rfl rfl), hI⟩
    refine steps_cons ?_ ?_
    · rintro b a w' ⟨ha, hI⟩ hb_ hon hoff
      refine ⟨_, rfl, fun K hK => ?_⟩
      have e7 : a.tmps[7]? = some (.pointer none) := by rw [ha]; exact (putSel_off rfl).trans s7
      have e39 : a.tmps[39]? = some (.bool false) := by rw [ha]; exact putSel_on (e := (11, 39, .bool false)) 11 rfl rfl (hon 11 (by kernel_rfl)) (by rw [hsz]; rfl)
      replace ha := Aside0.mk ha
      refine value_ (w1 := w') (v := .pointer none) (wanted_on rfl rfl rfl e39) rfl ?_ ?_
      · go_simp; try rfl
        all_goals (try (simp only [IntKind.wrap_i64]; omega))
      exact hK.out _ _ ⟨(by rw [ha.out]; exact putSel_upk 14 hb_ rfl rfl rfl), hI⟩
    refine steps_cons ?_ ?_
    · rintro b a w' ⟨ha, hI⟩ hb_ hon hoff
      refine ⟨_, rfl, fun K hK => ?_⟩
      have e42 : a.tmps[42]? = some (.pointer none) := by rw [ha]; exact putSel_on (e := (14, 42, .pointer none)) 14 rfl rfl (hon 14 (by kernel_rfl)) (by rw [hsz]; rfl)
      have e39 : a.tmps[39]? = some (.bool false) := by rw [ha]; exact putSel_on (e := (11, 39, .bool false)) 11 rfl rfl (hon 11 (by kernel_rfl)) (by rw [hsz]; rfl)
      replace ha := Aside0.mk ha
      refine value_ (w1 := w') (v := .bool true) (wanted_on rfl rfl rfl e39) rfl ?_ ?_
      · go_simp; try rfl
        all_goals (try (simp only [IntKind.wrap_i64]; omega))
      exact hK.out _ _ ⟨(by rw [ha.out]; exact putSel_upk 15 hb_ rfl rfl rfl), hI⟩
    refine steps_cons ?_ ?_
    · rintro b a w' ⟨ha, hI⟩ hb_ hon hoff
      refine ⟨_, rfl, fun K hK => ?_⟩
      have e41 : a.tmps[41]? = some (.bool true) := by rw [ha]; exact putSel_on (e := (13, 41, .bool true)) 13 rfl rfl (hon 13 (by kernel_rfl)) (by rw [hsz]; rfl)
      have e43 : a.tmps[43]? = some (.bool true) := by rw [ha]; exact putSel_on (e := (15, 43, .bool true)) 15 rfl rfl (hon 15 (by kernel_rfl)) (by rw [hsz]; rfl)
      have e39 : a.tmps[39]? = some (.bool false) := by rw [ha]; exact putSel_on (e := (11, 39, .bool false)) 11 rfl rfl (hon 11 (by kernel_rfl)) (by rw [hsz]; rfl)
      replace ha := Aside0.mk ha
      refine value_ (w1 := w') (v := .bool false) (wanted_on rfl rfl rfl e39) rfl ?_ ?_
      · go_simp; try rfl
        all_goals (try (simp only [IntKind.wrap_i64]; omega))
      exact hK.out _ _ ⟨(by rw [ha.out]; exact putSel_upk 16 hb_ rfl rfl rfl), hI⟩
    refine steps_cons ?_ ?_
    · rintro b a w' ⟨ha, hI⟩ hb_ hon hoff
      refine ⟨_, rfl, fun K hK => ?_⟩
      have e39 : a.tmps[39]? = some (.bool false) := by rw [ha]; exact putSel_on (e := (11, 39, .bool false)) 11 rfl rfl (hon 11 (by kernel_rfl)) (by rw [hsz]; rfl)
      have e44 : a.tmps[44]? = some (.bool false) := by rw [ha]; exact putSel_on (e := (16, 44, .bool false)) 16 rfl rfl (hon 16 (by kernel_rfl)) (by rw [hsz]; rfl)
      replace ha := Aside0.mk ha
      refine value_ (w1 := w') (v := .bool false) (by rfl) rfl ?_ ?_
      · go_simp; try rfl
        all_goals (try (simp only [IntKind.wrap_i64]; omega))
      exact hK.out _ _ ⟨(by rw [ha.out]; exact putSel_upk 17 hb_ rfl rfl rfl), hI⟩
    refine steps_cons ?_ ?_
    · rintro b a w' ⟨ha, hI⟩ hb_ hon hoff
      refine ⟨_, rfl, fun K hK => ?_⟩
      have e45 : a.tmps[45]? = some (.bool false) := by rw [ha]; exact putSel_on (e := (17, 45, .bool false)) 17 rfl rfl (hon 17 (by kernel_rfl)) (by rw [hsz]; rfl)
      replace ha := Aside0.mk ha
      refine value_ (w1 := w') (v := .bool false) (by rfl) rfl ?_ ?_
      · go_simp; try rfl
        all_goals (try (simp only [IntKind.wrap_i64]; omega))
      exact hK.out _ _ ⟨(by rw [ha.out]; exact putSel_upk 18 hb_ rfl rfl rfl), hI⟩
    refine steps_cons ?_ ?_
    · rintro b a w' ⟨ha, hI⟩ hb_ hon hoff
      refine ⟨_, rfl, fun K hK => ?_⟩
      have e6 : a.tmps[6]? = some (.pointer none) := by rw [ha]; exact (putSel_off rfl).trans s6
      have e46 : a.tmps[46]? = some (.bool false) := by rw [ha]; exact putSel_on (e := (18, 46, .bool false)) 18 rfl rfl (hon 18 (by kernel_rfl)) (by rw [hsz]; rfl)
      replace ha := Aside0.mk ha
      refine value_ (w1 := w') (v := .pointer none) (wanted_on rfl rfl rfl e46) rfl ?_ ?_
      · go_simp; try rfl
        all_goals (try (simp only [IntKind.wrap_i64]; omega))
      exact hK.out _ _ ⟨(by rw [ha.out]; exact putSel_upk 19 hb_ rfl rfl rfl), hI⟩
    refine steps_cons ?_ ?_
    · rintro b a w' ⟨ha, hI⟩ hb_ hon hoff
      refine ⟨_, rfl, fun K hK => ?_⟩
      have e47 : a.tmps[47]? = some (.pointer none) := by rw [ha]; exact putSel_on (e := (19, 47, .pointer none)) 19 rfl rfl (hon 19 (by kernel_rfl)) (by rw [hsz]; rfl)
      have e46 : a.tmps[46]? = some (.bool false) := by rw [ha]; exact putSel_on (e := (18, 46, .bool false)) 18 rfl rfl (hon 18 (by kernel_rfl)) (by rw [hsz]; rfl)
      replace ha := Aside0.mk ha
      refine value_ (w1 := w') (v := .bool false) (wanted_on rfl rfl rfl e46) rfl ?_ ?_
      · go_simp; try rfl
        all_goals (try (simp only [IntKind.wrap_i64]; omega))
      exact hK.out _ _ ⟨(by rw [ha.out]; exact putSel_upk 20 hb_ rfl rfl rfl), hI⟩
    refine steps_cons ?_ ?_
    · rintro b a w' ⟨ha, hI⟩ hb_ hon hoff
      refine ⟨_, rfl, fun K hK => ?_⟩
      have e48 : a.tmps[48]? = some (.bool false) := by rw [ha]; exact putSel_on (e := (20, 48, .bool false)) 20 rfl rfl (hon 20 (by kernel_rfl)) (by rw [hsz]; rfl)
      have e46 : a.tmps[46]? = some (.bool false) := by rw [ha]; exact putSel_on (e := (18, 46, .bool false)) 18 rfl rfl (hon 18 (by kernel_rfl)) (by rw [hsz]; rfl)
      replace ha := Aside0.mk ha
      refine value_ (w1 := w') (v := .bool false) (wanted_on rfl rfl rfl e46) rfl ?_ ?_
      · go_simp; try rfl
        all_goals (try (simp only [IntKind.wrap_i64]; omega))
      exact hK.out _ _ ⟨(by rw [ha.out]; exact putSel_upk 21 hb_ rfl rfl rfl), hI⟩
    refine steps_cons ?_ ?_
    · rintro b a w' ⟨ha, hI⟩ hb_ hon hoff
      refine ⟨_, rfl, fun K hK => ?_⟩
      have e49 : a.tmps[49]? = some (.bool false) := by rw [ha]; exact putSel_on (e := (21, 49, .bool false)) 21 rfl rfl (hon 21 (by kernel_rfl)) (by rw [hsz]; rfl)
      exact off_ (wanted_off rfl rfl rfl e49) (hK.out _ _ ⟨(by rw [ha]; exact putSel_upk 22 hb_ rfl rfl rfl), hI⟩)
    refine steps_cons ?_ ?_
    · rintro b a w' ⟨ha, hI⟩ hb_ hon hoff
      refine ⟨_, rfl, fun K hK => ?_⟩
      have e49 : a.tmps[49]? = some (.bool false) := by rw [ha]; exact putSel_on (e := (21, 49, .bool false)) 21 rfl rfl (hon 21 (by kernel_rfl)) (by rw [hsz]; rfl)
      exact off_ (wanted_off rfl rfl rfl e49) (hK.out _ _ ⟨(by rw [ha]; exact putSel_upk 23 hb_ rfl rfl rfl), hI⟩)
    refine steps_cons ?_ ?_
    · rintro b a w' ⟨ha, hI⟩ hb_ hon hoff
      refine ⟨_, rfl, fun K hK => ?_⟩
      have e49 : a.tmps[49]? = some (.bool false) := by rw [ha]; exact putSel_on (e := (21, 49, .bool false)) 21 rfl rfl (hon 21 (by kernel_rfl)) (by rw [hsz]; rfl)
      exact off_ (wanted_off rfl rfl rfl e49) (hK.out _ _ ⟨(by rw [ha]; exact putSel_upk 24 hb_ rfl rfl rfl), hI⟩)
    refine steps_cons ?_ ?_
    · rintro b a w' ⟨ha, hI⟩ hb_ hon hoff
      refine ⟨_, rfl, fun K hK => ?_⟩
      have e49 : a.tmps[49]? = some (.bool false) := by rw [ha]; exact putSel_on (e := (21, 49, .bool false)) 21 rfl rfl (hon 21 (by kernel_rfl)) (by rw [hsz]; rfl)
      exact off_ (wanted_off rfl rfl rfl e49) (hK.out _ _ ⟨(by rw [ha]; exact putSel_upk 25 hb_ rfl rfl rfl), hI⟩)
    refine steps_cons ?_ ?_
    · rintro b a w' ⟨ha, hI⟩ hb_ hon hoff
      refine ⟨_, rfl, fun K hK => ?_⟩
      have e49 : a.tmps[49]? = some (.bool false) := by rw [ha]; exact putSel_on (e := (21, 49, .bool false)) 21 rfl rfl (hon 21 (by kernel_rfl)) (by rw [hsz]; rfl)
      exact off_ (wanted_off rfl rfl rfl e49) (hK.out _ _ ⟨(by rw [ha]; exact putSel_upk 26 hb_ rfl rfl rfl), hI⟩)
    refine steps_cons ?_ ?_
    · rintro b a w' ⟨ha, hI⟩ hb_ hon hoff
      refine ⟨_, rfl, fun K hK => ?_⟩
      have e49 : a.tmps[49]? = some (.bool false) := by rw [ha]; exact putSel_on (e := (21, 49, .bool false)) 21 rfl rfl (hon 21 (by kernel_rfl)) (by rw [hsz]; rfl)
      exact off_ (wanted_off rfl rfl rfl e49) (hK.out _ _ ⟨(by rw [ha]; exact putSel_upk 27 hb_ rfl rfl rfl), hI⟩)
    refine steps_cons ?_ ?_
    · rintro b a w' ⟨ha, hI⟩ hb_ hon hoff
      refine ⟨_, rfl, fun K hK => ?_⟩
      have e49 : a.tmps[49]? = some (.bool false) := by rw [ha]; exact putSel_on (e := (21, 49, .bool false)) 21 rfl rfl (hon 21 (by kernel_rfl)) (by rw [hsz]; rfl)
      exact off_ (wanted_off rfl rfl rfl e49) (hK.out _ _ ⟨(by rw [ha]; exact putSel_upk 28 hb_ rfl rfl rfl), hI⟩)
    refine steps_cons ?_ ?_
    · rintro b a w' ⟨ha, hI⟩ hb_ hon hoff
      refine ⟨_, rfl, fun K hK => ?_⟩
      have e49 : a.tmps[49]? = some (.bool false) := by rw [ha]; exact putSel_on (e := (21, 49, .bool false)) 21 rfl rfl (hon 21 (by kernel_rfl)) (by rw [hsz]; rfl)
      exact off_ (wanted_off rfl rfl rfl e49) (hK.out _ _ ⟨(by rw [ha]; exact putSel_upk 29 hb_ rfl rfl rfl), hI⟩)
    refine steps_cons ?_ ?_
    · rintro b a w' ⟨ha, hI⟩ hb_ hon hoff
      refine ⟨_, rfl, fun K hK => ?_⟩
      have e49 : a.tmps[49]? = some (.bool false) := by rw [ha]; exact putSel_on (e := (21, 49, .bool false)) 21 rfl rfl (hon 21 (by kernel_rfl)) (by rw [hsz]; rfl)
      have e57 : a.tmps[57]? = some (undef) := by rw [ha]; exact putSel_on (e := (29, 57, undef)) 29 rfl rfl (hon 29 (by kernel_rfl)) (by rw [hsz]; rfl)
      have e46 : a.tmps[46]? = some (.bool false) := by rw [ha]; exact putSel_on (e := (18, 46, .bool false)) 18 rfl rfl (hon 18 (by kernel_rfl)) (by rw [hsz]; rfl)
      replace ha := Aside0.mk ha
      refine value_ (w1 := w') (v := .bool false) (wanted_on rfl rfl rfl e46) rfl ?_ ?_
      · go_simp; try rfl
        all_goals (try (simp only [IntKind.wrap_i64]; omega))
      exact hK.out _ _ ⟨(by rw [ha.out]; exact putSel_upk 30 hb_ rfl rfl rfl), hI⟩
    refine steps_cons ?_ ?_
    · rintro b a w' ⟨ha, hI⟩ hb_ hon hoff
      refine ⟨_, rfl, fun K hK => ?_⟩
      have e46 : a.tmps[46]? = some (.bool false) := by rw [ha]; exact putSel_on (e := (18, 46, .bool false)) 18 rfl rfl (hon 18 (by kernel_rfl)) (by rw [hsz]; rfl)
      have e58 : a.tmps[58]? = some (.bool false) := by rw [ha]; exact putSel_on (e := (30, 58, .bool false)) 30 rfl rfl (hon 30 (by kernel_rfl)) (by rw [hsz]; rfl)
      replace ha := Aside0.mk ha
      refine value_ (w1 := w') (v := .bool false) (by rfl) rfl ?_ ?_
      · go_simp; try rfl
        all_goals (try (simp only [IntKind.wrap_i64]; omega))
      exact hK.out _ _ ⟨(by rw [ha.out]; exact putSel_upk 31 hb_ rfl rfl rfl), hI⟩
    exact steps_nil
  rintro b a w1 hall ⟨ha, hI1⟩
  exact hend a w1 hI1 (by rw [ha]; simp only [putSel, if_true, hall 0 (by kernel_rfl), hall 1 (by kernel_rfl), hall 2 (by kernel_rfl), hall 3 (by kernel_rfl), hall 4 (by kernel_rfl), hall 5 (by kernel_rfl), hall 6 (by kernel_rfl), hall 7 (by kernel_rfl), hall 8 (by kernel_rfl), hall 9 (by kernel_rfl), hall 10 (by kernel_rfl), hall 11 (by kernel_rfl), hall 12 (by kernel_rfl), hall 13 (by kernel_rfl), hall 14 (by kernel_rfl), hall 15 (by kernel_rfl), hall 16 (by kernel_rfl), hall 17 (by kernel_rfl), hall 18 (by kernel_rfl), hall 19 (by kernel_rfl), hall 20 (by kernel_rfl), hall 21 (by kernel_rfl), hall 22 (by kernel_rfl), hall 23 (by kernel_rfl), hall 24 (by kernel_rfl), hall 25 (by kernel_rfl), hall 26 (by kernel_rfl), hall 27 (by kernel_rfl), hall 28 (by kernel_rfl), hall 29 (by kernel_rfl), hall 30 (by kernel_rfl), hall 31 (by kernel_rfl)]) (by rw [ha]; exact (putSel_size b _ a0).2) (by rw [ha]; exact putSel_on (e := (31, 59, .bool false)) 31 rfl rfl (hall 31 (by kernel_rfl)) (by rw [hsz]; rfl))
end Go.Proofs.YtipmphgkdomebaaDoor
