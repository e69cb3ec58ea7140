/- ScriptCuts: for every step, int and slice of steps the call returns true and leaves them unchanged (Text 6 of 9: what the law's proof rests on, joined; walks printed by the kit's print over given contracts, walks and plain laws by hand.) -/
import Derived.Maps.AppendAt
import Derived.Laws.OwnMore
import Derived.Test.YtdhpcofnddkcaaaGreatDoorProg
import Derived.Lib.FrozenHead2
import Derived.Lib.OthersKept
import Derived.Lib.Buffer
import Derived.WalkKit
import Derived.BigCall
import Derived.BigGuard
import Derived.RowKit
import Derived.KernelRfl
import Derived.IntWalk
import Derived.Lib.Hide
import Derived.Lib.ConvBytes
import Derived.Laws.DeepStrings4
import Derived.Test.YtdhpcofnddkcaaaGreatDoorCut0
import Derived.Test.YtdhpcofnddkcaaaGreatDoorCut1
import Derived.Test.YtdhpcofnddkcaaaGreatDoorCut2
import Derived.Test.YtdhpcofnddkcaaaGreatDoorCut3
import Derived.Test.YtdhpcofnddkcaaaGreatDoorCut4
namespace Go.Proofs.YtdhpcofnddkcaaaGreatDoor.S
open Go.RowKit Go.Proofs.YtdhpcofnddkcaaaGreatDoorW.PrintWords
set_option linter.unusedVariables false
set_option linter.unusedSimpArgs false
theorem news_take {α : Type} {R : α → List Value → Prop} {size : Nat} (hone : ∀ p c, R p c → ∀ u ∈ c, u.oneCell' = true) {w : World} {ad : Addr} {l : List α} (h : ∀ (j : Nat) p, l[j]? = some p → ∃ c, c.length = size ∧ R p c ∧ ∀ i u, c[i]? = some u → w.cell? (ad.add (j * size + i)) = some u) :
    ∀ m, m ≤ l.length → ∃ cs, Reps R size (l.take m) cs ∧ (∀ j u, cs[j]? = some u → w.cell? (ad.add j) = some u) ∧ ∀ u ∈ cs, u.oneCell' = true
  | 0, _ => ⟨[], by rw [List.take_zero]; exact Reps.none _ _, fun j u hj => by simp at hj, fun u hu => by cases hu⟩
  | m + 1, hm => by
    obtain ⟨cs, hr, hc, h1⟩ := news_take hone h m (by omega)
    obtain ⟨c, hl, hk, hcell⟩ := h m _ (List.getElem?_eq_getElem (by omega))
    have hlen : cs.length = m * size := by rw [hr.1, List.length_take, Nat.min_eq_left (by omega)]
    refine ⟨cs ++ c, by rw [List.take_succ_eq_append_getElem (by omega)]; exact hr.snoc hk hl, fun j u hj => ?_, fun u hu => ?_⟩
    · rcases Nat.lt_or_ge j cs.length with hlt | hge
      · rw [List.getElem?_append_left hlt] at hj
        exact hc j u hj
      · rw [List.getElem?_append_right hge] at hj
        have := hcell _ u hj
        rwa [show m * size + (j - cs.length) = j by omega] at this
    · rcases List.mem_append.1 hu with hu | hu
      · exact h1 u hu
      · exact hone _ _ hk u hu
theorem Reps.app_ {α : Type} {R : α → List Value → Prop} {size : Nat} : ∀ {ps qs : List α} {cs ds : List Value}, Reps R size ps cs → Reps R size qs ds → Reps R size (ps ++ qs) (cs ++ ds) := by
  intro ps qs cs ds h k
  refine ⟨by rw [List.length_append, h.1, k.1, List.length_append, Nat.add_mul], fun j p hj => ?_⟩
  rcases Nat.lt_or_ge j ps.length with hlt | hge
  · rw [List.getElem?_append_left hlt] at hj
    have h2 := h.2 j p hj
    have h3 : j * size + size ≤ cs.length := by
      rw [h.1, ← Nat.succ_mul]
      exact Nat.mul_le_mul_right _ hlt
    rw [List.drop_append_of_le_length (by omega), List.take_append_of_le_length (by rw [List.length_drop]; omega)]
    exact h2
  · rw [List.getElem?_append_right hge] at hj
    have h2 := k.2 _ p hj
    have h3 : ps.length * size ≤ j * size := Nat.mul_le_mul_right _ hge
    rw [List.drop_append, List.drop_eq_nil_of_le (by rw [h.1]; exact h3), List.nil_append, h.1, ← Nat.sub_mul]
    exact h2
theorem run_append_C {α : Type} {R : α → List Value → Prop} (size : Nat) (hone : ∀ p c, R p c → ∀ u ∈ c, u.oneCell' = true) {P : Program} (W : World) (base : Nat) (t ty e : TypeId) (z : Value) (bytes : Nat) (ht : P.underlying t = some (.slice e)) (hinfo : (P.info? e).map (fun i => (i.zero, i.size, i.bytes)) = some (some z, size, bytes)) (hzs : z.cells.size = size) (hsz : 0 < size)
    (v : Value) (n : Nat) (xs : List Value) (hown : W.ownsRow base e size v n xs) (A : Option Addr) (c : Nat) (l : List α) (h : ReadsRow R size W A l.length l)
    (h63 : n + l.length ≤ maxLen) (hbytes : (n + l.length) * bytes ≤ 140737488355328) (hbase : base ≤ W.heap.size) :
    ∃ v' w' news, (Builtin.append_ #[t, t] ty #[v, .slice A l.length c]).run P W = .ok v' w' ∧ w'.ownsRow base e size v' (n + l.length) (xs ++ news) ∧ Reps R size l news ∧ W.grownBy w' v.ownBlock ∧ (v'.ownBlock = v.ownBlock ∨ v'.ownBlock = some W.heap.size) := by
  obtain ⟨i0, hi, hzz⟩ := Option.map_eq_some_iff.1 hinfo
  simp only [Prod.mk.injEq] at hzz
  obtain ⟨hz0, hz1, hz2⟩ := hzz
  cases A with
  | none =>
    have hl0 : l.length = 0 := by
      rcases Nat.eq_zero_or_pos l.length with h0 | h0
      · exact h0
      · obtain ⟨ad, he, _⟩ := h.2.2 h0
        cases he
    have hl : l = [] := List.eq_nil_of_length_eq_zero hl0
    subst hl
    refine ⟨v, W, [], ?_, by simpa using hown, Reps.none _ _, ⟨rfl, rfl, rfl, Nat.le_refl _, fun _ _ _ => rfl⟩, .inl rfl⟩
    rcases hown.2 with ⟨rfl, rfl⟩ | ⟨g, cap, cur, rfl, _, _, hnc, _⟩
    · simp [Builtin.append_, run_underlying ht, sizeOf, typeInfo, hi, Builtin.lenOf, Builtin.firstCells]
    · simp [Builtin.append_, run_underlying ht, sizeOf, typeInfo, hi, Builtin.lenOf, Builtin.firstCells, hnc, storeCells]
  | some ad =>
    have hcell : ∀ (j : Nat) p, l[j]? = some p → ∃ c, c.length = size ∧ R p c ∧ ∀ i u, c[i]? = some u → W.cell? (ad.add (j * size + i)) = some u := by
      intro j p hj
      obtain ⟨ad', he, hc⟩ := h.2.2 (by have := (List.getElem?_eq_some_iff.1 hj).1; omega)
      cases he
      exact hc j p hj
    obtain ⟨news, hr, hc, h1⟩ := news_take hone hcell l.length (Nat.le_refl _)
    rw [List.take_length] at hr
    obtain ⟨v', w', hrun, h2, h3, h4, h5⟩ := run_append_own_at (P := P) W base t ty e i0 z size bytes ht hi hz0 hz1 hz2 hzs hsz v n xs hown ad l.length c news hr.1 hc h1 h63 hbytes hbase
    exact ⟨v', w', news, hrun, h2, hr, h3, h5⟩
theorem wpList_append_C {α : Type} {R : α → List Value → Prop} (size : Nat) (hone : ∀ p c, R p c → ∀ u ∈ c, u.oneCell' = true) {P : Program} {ops : Array Oper} {rest : List Oper} {o : Oper} {a : Act} {Q : Exit → Act → World → Prop} (hgd : o.guard = none) (s x : Operand) (t : TypeId)
    (ho : o.op = .call { callee := .builtin .append, args := #[s, x], argTypes := #[t, t] })
    {W : World} (base : Nat) (e : TypeId) (z : Value) (bytes : Nat) (ht : P.underlying t = some (.slice e)) (hinfo : (P.info? e).map (fun i => (i.zero, i.size, i.bytes)) = some (some z, size, bytes)) (hzs : z.cells.size = size) (hsz : 0 < size)
    (v : Value) (n : Nat) (xs : List Value) (hs : a.eval s = v) (hown : W.ownsRow base e size v n xs) (A : Option Addr) (c : Nat) (l : List α) (hx : a.eval x = .slice A l.length c) (h : ReadsRow R size W A l.length l)
    (h63 : n + l.length ≤ maxLen) (hbytes : (n + l.length) * bytes ≤ 140737488355328) (hbase : base ≤ W.heap.size)
    (hk : ∀ v' w' news, w'.ownsRow base e size v' (n + l.length) (xs ++ news) → Reps R size l news → W.grownBy w' v.ownBlock → (v'.ownBlock = v.ownBlock ∨ v'.ownBlock = some W.heap.size) → wpList P ops Q rest (a.put o.dst v') w') :
    wpList P ops Q (o :: rest) a W := by
  refine wpList_plain hgd fun K hK => ?_
  obtain ⟨v', w', news, hr, h2, h3, h4, h5⟩ := run_append_C size hone W base t o.type e z bytes ht hinfo hzs hsz v n xs hown A c l h h63 hbytes hbase
  unfold Oper.wp execOp
  simp only [ho, resolve, invoke, builtin, Sem.run_bind, Sem.run_pure, Result.andThen_ok, List.map_toArray, List.map_cons, List.map_nil, hs, hx, hr]
  exact hK _ _ (hk v' w' news h2 h3 h4 h5)
end Go.Proofs.YtdhpcofnddkcaaaGreatDoor.S
namespace Go.Proofs.YtdhpcofnddkcaaaGreatDoor
open Go.RowKit
set_option linter.unusedVariables false
set_option linter.unusedSimpArgs false
theorem bInfo : (Tryz.prog.info? 62).map (·.size) = some 2 := by kernel_rfl
theorem byteInfo : (Tryz.prog.info? 5).map (fun i => (i.zero, i.size, i.bytes)) = some (some (.int .u8 0), 1, 1) := by kernel_rfl
theorem bLies : liesAt Tryz.prog Tryz.prog.depth 62 (2 / Tryz.prog.cellsOf 62) 0 62 1 = true := by kernel_rfl
theorem bNe : (62 : Nat) ≠ 5 := by decide
set_option maxRecDepth 100000 in
theorem copy_used (b : Nat) (w : World) (h0 : w.cell? ⟨b, 0, none⟩ = some (.pointer (some ⟨b, 0, none⟩))) :
    Calls Tryz.prog 34 #[.pointer (some ⟨b, 0, none⟩)] w fun e w' => e = .returned (.tuple #[]) ∧ w' = w := by
  obtain ⟨j, hj, _⟩ := Option.map_eq_some_iff.1 bInfo
  go_enter Tryz.func34, Tryz.ntmps34
  go_wp2
  rw [Lib.run_neq_ptr_same w _ Tryz.underlying60 hj]
  go_wp2
  go_end0
  exact ⟨rfl, rfl⟩
set_option maxRecDepth 100000 in
theorem copy_fresh (b : Nat) (w : World) (h0 : w.cell? ⟨b, 0, none⟩ = some (.pointer none)) (hsh : w.shape? b = some (62, 2)) (hfz : w.frozen? ⟨b, 0, none⟩ = false) :
    Calls Tryz.prog 34 #[.pointer (some ⟨b, 0, none⟩)] w fun e w' => e = .returned (.tuple #[]) ∧ w' = w.setCell ⟨b, 0, none⟩ (.pointer (some ⟨b, 0, none⟩)) := by
  obtain ⟨j, hj, hjs⟩ := Option.map_eq_some_iff.1 bInfo
  go_enter Tryz.func34, Tryz.ntmps34
  go_wp2
  rw [Lib.run_to_unsafe w ⟨b, 0, none⟩ Tryz.underlying60 Tryz.underlying94 hj (by rw [hjs]; decide) hsh (Nat.zero_lt_succ 1)]
  simp only [Result.andThen]
  rw [Oper.upon_value]
  go_wp2
  rw [run_callFunc_extern Tryz.func47 (by kernel_rfl) (by kernel_rfl) (by kernel_rfl) (e := Extern.AbiNoEscape.same) (by kernel_rfl)]
  rw [Lib.run_noEscape]
  simp only [Result.andThen]
  rw [Oper.upon_value]
  go_wp2
  rw [Lib.run_from_unsafe w ⟨b, 0, none⟩ Tryz.underlying94 Tryz.underlying60 hj hsh bLies]
  simp only [Result.andThen]
  rw [Oper.upon_value]
  go_wp2
  go_end0
  exact ⟨rfl, rfl⟩
abbrev BF (B b : Nat) (bs : List Value) (w : World) : Prop := Lib.IsBuilderF 62 5 B b bs w
abbrev BU (B b : Nat) (bs : List Value) (w : World) : Prop := Lib.BuilderAtF 62 5 B b (.pointer (some ⟨b, 0, none⟩)) bs w
theorem copy_any (B b : Nat) (bs : List Value) (w : World) (h : BF B b bs w) :
    Calls Tryz.prog 34 #[.pointer (some ⟨b, 0, none⟩)] w fun e w' => e = .returned (.tuple #[]) ∧ BU B b bs w' ∧ Below B w w' ∧ Lib.OthersKept 5 (some b) w w' := by
  rcases h with h | h
  · refine (copy_fresh b w h.cell0 h.shape h.frozen0).mono ?_
    rintro e w' ⟨rfl, rfl⟩
    exact ⟨rfl, h.used _, (Below.refl B w).setCell (p := ⟨b, 0, none⟩) h.1 _, (Lib.OthersKept.refl _ _ w).setCell ⟨b, 0, none⟩ rfl _⟩
  · refine (copy_used b w h.cell0).mono ?_
    rintro e w' ⟨rfl, rfl⟩
    exact ⟨rfl, h, Below.refl B _, Lib.OthersKept.refl _ _ _⟩
set_option maxHeartbeats 2000000 in
set_option maxRecDepth 100000 in
theorem writeString_any (B b : Nat) (bs : List Value) (s : ByteArray) (w : World) (h : BF B b bs w) (hlen : bs.length + s.size ≤ 140737488355328) (hBw : B ≤ w.heap.size) :
    Calls Tryz.prog 22 #[.pointer (some ⟨b, 0, none⟩), .string s] w fun e w' => e = .returned (.tuple #[.int .i64 s.size, .nilIface]) ∧ BU B b (bs ++ Lib.strCells s) w' ∧ Below B w w' ∧ Lib.OthersKept 5 (some b) w w' := by
  obtain ⟨i0, hi, hz0, hz1, hz2⟩ := info_parts byteInfo
  go_enter Tryz.func22, Tryz.ntmps22
  go_wp2_with (go_at_call 34; refine (copy_any B b bs _ h).mono ?_)
  rintro e w1 ⟨rfl, h1, hb1, hk1⟩
  obtain ⟨hB, v, hbk, hown, hne⟩ := h1
  have c0 : w1.cell? ⟨b, 0, none⟩ = some (.pointer (some ⟨b, 0, none⟩)) := by rw [Lib.cell_of_heap hbk]; rfl
  have c1 : w1.cell? ⟨b, 1, none⟩ = some v := by rw [Lib.cell_of_heap hbk]; rfl
  go_wp2_with (at_builtin; refine Lib.wpList_append_own_stringF _ rfl _ _ 32 9 rfl B 5 i0 Tryz.underlying32 Tryz.underlying9 hi hz0 hz1 hz2 _ _ _ rfl hown s rfl ?c3 ?c4 ?c5 ?_)
  case c3 => unfold maxLen; omega
  case c4 => omega
  case c5 => have := hb1.size; omega
  intro v' w2 hown' hgrow _
  have hlt : b < w1.heap.size := by
    rcases Nat.lt_or_ge b w1.heap.size with h' | h'
    · exact h'
    · simp [Array.getElem?_eq_none h'] at hbk
  have hb2 : w2.heap[b]? = some (.cells #[.pointer (some ⟨b, 0, none⟩), v] 62 (0, 0)) := by
    rw [hgrow.block b hlt (fun e => hne e.symm)]
    exact hbk
  have d0 : w2.cell? ⟨b, 0, none⟩ = some (.pointer (some ⟨b, 0, none⟩)) := by rw [Lib.cell_of_heap hb2]; rfl
  have d1 : w2.cell? ⟨b, 1, none⟩ = some v := by rw [Lib.cell_of_heap hb2]; rfl
  have f1 : w2.frozen? ⟨b, 1, none⟩ = false := Lib.frozen_of_heap hb2 1
  obtain ⟨ao, n', cap, rfl⟩ : ∃ ao n' cap, v' = .slice ao n' cap := by
    rcases hown'.2 with ⟨hv, _⟩ | ⟨g, cap, cur, fz, hv, _⟩
    · exact ⟨_, _, _, hv⟩
    · exact ⟨_, _, _, hv⟩
  go_wp2
  go_ret2
  refine ⟨rfl, ?_, ?_, (hk1.grown hgrow (Lib.ownsRowF_kind hown)).setCell ⟨b, 1, none⟩ rfl _⟩
  · exact Lib.BuilderAtF.put (T := 62) (e := 5) hB hb2 (bs' := bs ++ Lib.strCells s) (by simpa [Lib.strCells_length] using hown') bNe
  · exact (hb1.grown hgrow (by have := hb1.size; omega) (fun k hk => (hown.lt k hk).1)).setCell (p := ⟨b, 1, none⟩) hB _
theorem BF.below {B b : Nat} {bs : List Value} {w w' : World} (h : BF B b bs w) (hb : Below w.heap.size w w') : BF B b bs w' := by
  have go : ∀ p, Lib.BuilderAtF 62 5 B b p bs w → Lib.BuilderAtF 62 5 B b p bs w' := by
    intro p h
    have hlt := h.lt
    obtain ⟨hB, v, hk, hown, hne⟩ := h
    refine ⟨hB, v, (hb.block b hlt).trans hk, hown.kept (row := none) ⟨hb.os, hb.tape, hb.output, hb.size, fun i hi _ => hb.block i hi⟩ ?_, hne⟩
    cases h0 : v.ownBlock with
    | none => exact .inl rfl
    | some _ => exact .inr (by simp)
  exact h.elim (fun x => .inl (go _ x)) (fun x => .inr (go _ x))
theorem BF.lt {B b : Nat} {bs : List Value} {w : World} (h : BF B b bs w) : b < w.heap.size := h.elim (·.lt) (·.lt)
theorem BF.ge {B b : Nat} {bs : List Value} {w : World} (h : BF B b bs w) : B ≤ b := h.elim (·.1) (·.1)
theorem BF.new (w : World) : BF w.heap.size w.heap.size [] (w.alloc (.cells #[.pointer none, .slice none 0 0] 62)) :=
  .inl ⟨Nat.le_refl _, .slice none 0 0, Go.Proofs.YtdhpcofnddkcaaaGreatDoorW.PrintWords.blk_new w _, World.ownsRowF_nil _ _ _ _, by simp [Value.ownBlock]⟩
theorem others_blk {b g : Nat} {w w' : World} (h : Lib.OthersKept 5 (some b) w w') {cs : Array Value} {t : TypeId} {fr : Nat × Nat} (hg : w.heap[g]? = some (.cells cs t fr)) (hne : g ≠ b) (ht : t ≠ 5) : w'.heap[g]? = some (.cells cs t fr) :=
  h g _ hg (fun e => hne (Option.some.inj e)) (fun c fz e => ht (by injection e))
end Go.Proofs.YtdhpcofnddkcaaaGreatDoor
namespace Go.Proofs.YtdhpcofnddkcaaaGreatDoor.S
open Go.RowKit Go.Proofs.YtdhpcofnddkcaaaGreatDoor.G Go.Proofs.YtdhpcofnddkcaaaGreatDoorW.PrintWords Go.Proofs.YtdhpcofnddkcaaaGreatDoorW.PrintLast Go.Proofs.YtdhpcofnddkcaaaGreatDoorW.PrintMore
attribute [local go_sem] max2_int min2_int max_two min_two max_three min_three max_four min_four
set_option linter.unusedVariables false
set_option linter.unusedSimpArgs false
theorem blk_put8 {w : World} {g : Nat} {t : TypeId} {z0 z1 z2 z3 z4 z5 z6 z7 : Value} (h : w.heap[g]? = some (.cells #[z0, z1, z2, z3, z4, z5, z6, z7] t (0, 0))) (a0 a1 a2 a3 a4 a5 a6 a7 : Value) :
    ((((((((w.setCell ⟨g, 0, none⟩ a0).setCell ⟨g, 1, none⟩ a1).setCell ⟨g, 2, none⟩ a2).setCell ⟨g, 3, none⟩ a3).setCell ⟨g, 4, none⟩ a4).setCell ⟨g, 5, none⟩ a5).setCell ⟨g, 6, none⟩ a6).setCell ⟨g, 7, none⟩ a7).heap[g]? = some (.cells #[a0, a1, a2, a3, a4, a5, a6, a7] t (0, 0)) := by
  refine blk_put (cs := #[a0, a1, a2, a3, a4, a5, a6, z7]) ?_ 7 _ rfl
  refine blk_put (cs := #[a0, a1, a2, a3, a4, a5, z6, z7]) ?_ 6 _ rfl
  refine blk_put (cs := #[a0, a1, a2, a3, a4, z5, z6, z7]) ?_ 5 _ rfl
  refine blk_put (cs := #[a0, a1, a2, a3, z4, z5, z6, z7]) ?_ 4 _ rfl
  refine blk_put (cs := #[a0, a1, a2, z3, z4, z5, z6, z7]) ?_ 3 _ rfl
  refine blk_put (cs := #[a0, a1, z2, z3, z4, z5, z6, z7]) ?_ 2 _ rfl
  refine blk_put (cs := #[a0, z1, z2, z3, z4, z5, z6, z7]) ?_ 1 _ rfl
  exact blk_put h 0 _ rfl
theorem below_set8 {B : Nat} {w W : World} {g : Nat} (h : Below B w W) (hg : B ≤ g) (a0 a1 a2 a3 a4 a5 a6 a7 : Value) :
    Below B w ((((((((W.setCell ⟨g, 0, none⟩ a0).setCell ⟨g, 1, none⟩ a1).setCell ⟨g, 2, none⟩ a2).setCell ⟨g, 3, none⟩ a3).setCell ⟨g, 4, none⟩ a4).setCell ⟨g, 5, none⟩ a5).setCell ⟨g, 6, none⟩ a6).setCell ⟨g, 7, none⟩ a7) :=
  (((((((h.setCell (p := ⟨g, 0, none⟩) hg a0).setCell (p := ⟨g, 1, none⟩) hg a1).setCell (p := ⟨g, 2, none⟩) hg a2).setCell (p := ⟨g, 3, none⟩) hg a3).setCell (p := ⟨g, 4, none⟩) hg a4).setCell (p := ⟨g, 5, none⟩) hg a5).setCell (p := ⟨g, 6, none⟩) hg a6).setCell (p := ⟨g, 7, none⟩) hg a7
def catT (T : ByteArray → ByteArray) (ps : List ByteArray) : List UInt8 := ps.flatMap fun p => (T p).data.toList
def catS (P : S29 → List ByteArray) (T : ByteArray → ByteArray) (l : List S29) : List UInt8 := l.flatMap fun s => catT T (P s)
theorem strCells_cells (s : ByteArray) : Lib.strCells s = Lib.byteCells s.data.toList := rfl
theorem byteCells_app (a b : List UInt8) : Lib.byteCells (a ++ b) = Lib.byteCells a ++ Lib.byteCells b := by simp [Lib.byteCells]
theorem byteCells_len (a : List UInt8) : (Lib.byteCells a).length = a.length := by simp [Lib.byteCells]
def EncEnd (r0 : List Int) (r1 : Int) (w : World) (e : Ending) (w' : World) : Prop :=
  ∃ v, e = .returned (.tuple #[v, .int .i64 r1]) ∧ Kd.V (Kd.int .u8) 5 w' w.heap.size (fun k_ => w.heap.size ≤ k_) v r0 ∧ Below w.heap.size w w'
theorem V_bytes {W W1 : World} {base g c : Nat} {L : List UInt8} (hg : base ≤ g) (hlt : g < W.heap.size) (hc : L.length ≤ c) (hm : L.length ≤ 9223372036854775807) (hcell : ∀ (j : Nat), j < L.length → W.cell? ⟨g, j, none⟩ = some (.int .u8 (L.getD j 0).toNat)) (e : Nat) :
    Kd.V (Kd.int .u8) e W base (fun k_ => base ≤ k_) (.slice (some ⟨g, 0, none⟩) L.length c) (L.map fun c => (c.toNat : Int)) := by
  refine ⟨some ⟨g, 0, none⟩, c, by rw [List.length_map], by rw [List.length_map]; exact hc, fun W' hW => ?_⟩
  refine ⟨rfl, by rw [List.length_map]; exact hm, fun hn => ⟨_, rfl, fun j p hp => ?_⟩⟩
  rw [List.getElem?_map] at hp
  obtain ⟨b, hb, rfl⟩ := Option.map_eq_some_iff.1 hp
  have hj : j < L.length := (List.getElem?_eq_some_iff.1 hb).1
  refine ⟨[.int .u8 b.toNat], rfl, rfl, fun i u hu => ?_⟩
  obtain ⟨rfl, rfl⟩ : i = 0 ∧ u = .int .u8 b.toNat := by
    cases i with
    | zero => simpa using hu.symm
    | succ i => simp at hu
  have h1 := hcell j hj
  have h2 : W'.cell? ⟨g, j, none⟩ = W.cell? ⟨g, j, none⟩ := World.cell?_of_block (hW g hg hlt)
  rw [show j * (Kd.int IntKind.u8).sz + 0 = j from by show j * 1 + 0 = j; omega, add_plain, h2, h1]
  have : L.getD j 0 = b := by rw [List.getD_eq_getElem?_getD, hb]; rfl
  rw [this]
set_option maxHeartbeats 4000000 in
set_option maxRecDepth 100000 in
theorem encode_many (A : Option Addr) (c : Nat) (l : List S29) (w : World) (hn : 4096 < l.length) (hm : l.length ≤ 9223372036854775807) :
    Calls Tryz.prog 14 #[.slice A l.length c] w (EncEnd [] 4 w) := by
  have n1 : decide ((4096 : Int) < (l.length : Int)) = true := decide_eq_true (by omega)
  go_enter Tryz.func14, Tryz.ntmps14
  go_wp2
  go_ret2
  exact ⟨_, rfl, Kd.V_nil _ _ _ _ _, Below.refl _ _⟩
theorem size_listE (s : ByteArray) : s.size = s.data.toList.length := Lib.size_eq s
theorem row_of {W : World} {base : Nat} {v : Value} {xs : List ByteArray} (h : Kd.R Kd.string 9 W base (fun _ => True) v xs) (hn : 0 < xs.length) :
    ∃ g cap cur, v = .slice (some ⟨g, 0, none⟩) xs.length cap ∧ W.heap[g]? = some (.cells cur 9 (0, 0)) ∧ xs.length ≤ cap ∧ base ≤ g ∧ ∀ (j : Nat) (h : j < xs.length), cur[j]? = some (.string xs[j]) := by
  obtain ⟨A, c, rfl⟩ := Kd.R_slice h
  have ho := Kd.own_of_R h
  obtain ⟨-, h2⟩ := ho
  rcases h2 with ⟨_, h0⟩ | ⟨g, cap, cur, hv, hb, hg, hc, _, _, ht⟩
  · omega
  · refine ⟨g, cap, cur, hv, hg, hc, hb, fun j hj => ?_⟩
    rw [Nat.mul_one] at ht
    have := congrArg (·[j]?) ht
    simp only [List.getElem?_take, hj, if_true, encs, List.getElem?_map] at this
    rw [List.getElem?_eq_getElem hj] at this
    rw [← Array.getElem?_toList]
    exact this
theorem catT_snoc (T : ByteArray → ByteArray) (ps : List ByteArray) (j : Nat) (h : j < ps.length) : catT T (ps.take (j + 1)) = catT T (ps.take j) ++ (T ps[j]).data.toList := by
  unfold catT
  rw [List.take_succ_eq_append_getElem h, List.flatMap_append, List.flatMap_singleton]
theorem catS_snoc (P : S29 → List ByteArray) (T : ByteArray → ByteArray) (l : List S29) (i : Nat) (h : i < l.length) : catS P T (l.take (i + 1)) = catS P T (l.take i) ++ catT T (P l[i]) := by
  unfold catS
  rw [List.take_succ_eq_append_getElem h, List.flatMap_append, List.flatMap_singleton]
theorem catT_le (T : ByteArray → ByteArray) (ps : List ByteArray) (j : Nat) : (catT T (ps.take j)).length ≤ (catT T ps).length := by
  have : catT T ps = catT T (ps.take j) ++ catT T (ps.drop j) := by
    unfold catT
    rw [← List.flatMap_append, List.take_append_drop]
  rw [this]
  simp
theorem catS_le (P : S29 → List ByteArray) (T : ByteArray → ByteArray) (l : List S29) (i : Nat) : (catS P T (l.take i)).length ≤ (catS P T l).length := by
  have : catS P T l = catS P T (l.take i) ++ catS P T (l.drop i) := by
    unfold catS
    rw [← List.flatMap_append, List.take_append_drop]
  rw [this]
  simp
theorem cat_le (P : S29 → List ByteArray) (T : ByteArray → ByteArray) (l : List S29) (i j : Nat) (h : i < l.length) : (catS P T (l.take i)).length + (catT T ((P l[i]).take j)).length ≤ (catS P T l).length := by
  have h1 := catT_le T (P l[i]) j
  have h2 := catS_le P T l (i + 1)
  rw [catS_snoc P T l i h, List.length_append] at h2
  omega
def InRel (T : ByteArray → ByteArray) (acc : List UInt8) (ps : List ByteArray) (w : World) (q : Nat) (cur : Array Value) (g j : Nat) (w' : World) : Prop :=
  g + j = ps.length ∧ w'.heap[q]? = some (.cells cur 9 (0, 0)) ∧ BF w.heap.size w.heap.size (Lib.byteCells (acc ++ catT T (ps.take j))) w' ∧ Below w.heap.size w w'
def EncRel (R : S29 → Bool) (P : S29 → List ByteArray) (T : ByteArray → ByteArray) (l : List S29) (w : World) (g i : Nat) (w' : World) : Prop :=
  g + i = l.length ∧ (l.take i).all R = true ∧ BF w.heap.size w.heap.size (Lib.byteCells (catS P T (l.take i))) w' ∧ Below w.heap.size w w'
set_option maxHeartbeats 8000000 in
set_option maxRecDepth 100000 in
theorem encode_any (A : Option Addr) (c : Nat) (l : List S29) (w : World) (hr : Kd.C k29 w A l.length l) (hc : l.length ≤ c) (hn : l.length ≤ 4096) (k : Nat) (R : S29 → Bool) (P : S29 → List ByteArray) (T : ByteArray → ByteArray)
    (hR : ∀ s ∈ l, script_Step_Right.f k s.f0 s.f1 s.f2 s.f3 s.f4 s.f5 s.f6 s.f7 = some (R s))
    (hP : ∀ s ∈ l, R s = true → script_Step_parts.f k s.f0 s.f1 s.f2 s.f3 s.f4 s.f5 s.f6 s.f7 = some (P s) ∧ 0 < (P s).length ∧ (P s).length ≤ 1000000)
    (hT : ∀ s ∈ l, R s = true → ∀ p ∈ P s, script_part.f p = some (T p))
    (hz : (catS P T l).length ≤ 1000000) (HT : Tab_ w) (HP : TabP_ w) (HE : TabE_ w)
    (r0 : List Int) (r1 : Int) (hyes : l.all R = true → r0 = (catS P T l).map (fun c => (c.toNat : Int)) ∧ r1 = 0) (hno : l.all R = false → r0 = [] ∧ r1 = 1) :
    Calls Tryz.prog 14 #[.slice A l.length c] w (EncEnd r0 r1 w) := by
  have n1 : decide ((4096 : Int) < (l.length : Int)) = false := decide_eq_false (by omega)
  have n2 : (l.length : Int) ≤ 4096 := by omega
  have HR := Lib.hid hR
  have HPP := Lib.hid hP
  have HTT := Lib.hid hT
  have HZ := Lib.hid hz
  have HC := Lib.hid hr
  have HYES := Lib.hid hyes
  have HNO := Lib.hid hno
  clear hR hP hT hz hr hyes hno
  go_enter Tryz.func14, Tryz.ntmps14
  go_wp2
  go_loopg [14] l.length (fun g v14 w' => ∃ i : Nat, v14 = .int .i64 i ∧ EncRel R P T l w g i w')
  case atStart => exact ⟨0, rfl, by omega, by simp, BF.new w, below_alloc (Below.refl _ _) _⟩
  case round =>
    obtain ⟨i, rfl, hg, hall, hb0, hb1⟩ := hrel
    by_cases hi : i < l.length
    · have hx : rd_T29 l (i : Int) = l[i] := by simp [rd_T29, List.getD, hi]
      have hmem : l[i] ∈ l := List.getElem_mem hi
      obtain ⟨ad, A4, c4, A7, c7, rfl, x0, x1, x2, x3, x4, x5, x6, x7, l4, i4, l7, i7⟩ := at_T29 HC.out (i : Int) (by omega) (by omega)
      simp only [Int.toNat_natCast] at x0 x1 x2 x3 x4 x5 x6 x7
      rw [hx] at x0 x1 x2 x3 x4 x5 x6 x7 l4 i4 l7 i7
      replace x0 := (hb1.cell (World.block_lt_of_cell? w _ x0)).trans x0
      replace x1 := (hb1.cell (World.block_lt_of_cell? w _ x1)).trans x1
      replace x2 := (hb1.cell (World.block_lt_of_cell? w _ x2)).trans x2
      replace x3 := (hb1.cell (World.block_lt_of_cell? w _ x3)).trans x3
      replace x4 := (hb1.cell (World.block_lt_of_cell? w _ x4)).trans x4
      replace x5 := (hb1.cell (World.block_lt_of_cell? w _ x5)).trans x5
      replace x6 := (hb1.cell (World.block_lt_of_cell? w _ x6)).trans x6
      replace x7 := (hb1.cell (World.block_lt_of_cell? w _ x7)).trans x7
      have I4 := Lib.hid i4
      have I7 := Lib.hid i7
      have L4 := Lib.hid l4
      have L7 := Lib.hid l7
      have HX := Lib.hid hx
      have HG := Lib.hid hg
      have HALL := Lib.hid hall
      have HB0 := Lib.hid hb0
      have HB1 := Lib.hid hb1
      have HI := Lib.hid hi
      have HM := Lib.hid hmem
      clear i4 i7 l4 l7 hx hg hall hb0 hb1 hmem
      have q0 : decide ((i : Int) < (l.length : Int)) = true := decide_eq_true (by omega)
      have q1 : (0 : Int) ≤ (i : Int) := by omega
      have q2 : (i : Int) < (l.length : Int) := by omega
      have hx2 : l[i] = l[i] := rfl
      generalize hx3 : l[i] = x at *
      have HX2 := Lib.hid hx3
      clear hx2 hx3
      go_upto_region 7 with (first | ((with_reducible refine gate_dst (N := 6) rfl ?_); (try (refine gate_guard (by rfl) ?_; dsimp only)); refine box_event ?hg (N := 6) ?hd (cs := #[.int .i64 0, .string (⟨#[]⟩ : ByteArray), .string (⟨#[]⟩ : ByteArray), .bool false, .slice none 0 0, .string (⟨#[]⟩ : ByteArray), .string (⟨#[]⟩ : ByteArray), .slice none 0 0]) (t := 29) ?hr ?_; (case hd => rfl); (case hg => rfl); (case hr => first | (go_simp; done) | (go_simp; rfl)); intro gb hg W1 hbox hb; have hfz0 := blk_frozen hbox 0; have hfz1 := blk_frozen hbox 1; have hfz2 := blk_frozen hbox 2; have hfz3 := blk_frozen hbox 3; have hfz4 := blk_frozen hbox 4; have hfz5 := blk_frozen hbox 5; have hfz6 := blk_frozen hbox 6; have hfz7 := blk_frozen hbox 7; have hc0 := blk_cell hbox 0; have hc1 := blk_cell hbox 1; have hc2 := blk_cell hbox 2; have hc3 := blk_cell hbox 3; have hc4 := blk_cell hbox 4; have hc5 := blk_cell hbox 5; have hc6 := blk_cell hbox 6; have hc7 := blk_cell hbox 7; have HBX := Lib.hid hbox; have HBB := Lib.hid hb; have HGB := Lib.hid hg; clear hbox hb hg))
      have hgb : gb = wr.heap.size := HGB.out
      have BK := blk_put8 HBX.out (.int .i64 x.f0) (.string x.f1) (.string x.f2) (.bool x.f3) (.slice A4 x.f4.length c4) (.string x.f5) (.string x.f6) (.slice A7 x.f7.length c7)
      have HS := below_set8 HBB.out (by omega : wr.heap.size ≤ gb) (.int .i64 x.f0) (.string x.f1) (.string x.f2) (.bool x.f3) (.slice A4 x.f4.length c4) (.string x.f5) (.string x.f6) (.slice A7 x.f7.length c7)
      generalize ((((((((W1.setCell ⟨gb, 0, none⟩ (.int .i64 x.f0)).setCell ⟨gb, 1, none⟩ (.string x.f1)).setCell ⟨gb, 2, none⟩ (.string x.f2)).setCell ⟨gb, 3, none⟩ (.bool x.f3)).setCell ⟨gb, 4, none⟩ (.slice A4 x.f4.length c4)).setCell ⟨gb, 5, none⟩ (.string x.f5)).setCell ⟨gb, 6, none⟩ (.string x.f6)).setCell ⟨gb, 7, none⟩ (.slice A7 x.f7.length c7)) = W2 at BK HS ⊢
      have hF2 := BF.below HB0.out HS
      have hB2 := below_step HB1.out HS
      clear hgb hfz0 hfz1 hfz2 hfz3 hfz4 hfz5 hfz6 hfz7 hc0 hc1 hc2 hc3 hc4 hc5 hc6 hc7 HBX HBB HGB HS x0 x1 x2 x3 x4 x5 x6 x7
      have y0 := blk_cell BK 0
      have y1 := blk_cell BK 1
      have y2 := blk_cell BK 2
      have y3 := blk_cell BK 3
      have y4 := blk_cell BK 4
      have y5 := blk_cell BK 5
      have y6 := blk_cell BK 6
      have y7 := blk_cell BK 7
      have cR := script_Step_Right.calls k x.f0 x.f1 x.f2 x.f3 A4 c4 x.f4 x.f5 x.f6 A7 c7 x.f7 (R x) W2 (Kd.C_below I4.out hB2) L4.out (Kd.C_below I7.out hB2) L7.out (HR.out x HM.out) (Tab_.step HT hB2) (TabP_.step HP hB2) (TabE_.step HE hB2)
      have BK2 := Lib.hid BK
      have HF2 := Lib.hid hF2
      have HB2 := Lib.hid hB2
      clear BK hF2 hB2
      by_cases hRx : R x = true
      · rw [hRx] at cR
        go_upto_region 9 with ((go_at_call 11; refine cR.mono ?_; rintro e W3 ⟨rfl, b3⟩; have BK3 := blk_below BK2.out b3; have z0 := blk_cell BK3 0; have z1 := blk_cell BK3 1; have z2 := blk_cell BK3 2; have z3 := blk_cell BK3 3; have z4 := blk_cell BK3 4; have z5 := blk_cell BK3 5; have z6 := blk_cell BK3 6; have z7 := blk_cell BK3 7; have HB3 := Lib.hid (below_step HB2.out b3); have HF3 := Lib.hid (BF.below HF2.out b3); clear b3 BK3))
        clear cR y0 y1 y2 y3 y4 y5 y6 y7 BK2 HF2 HB2
        obtain ⟨hp1, hp2, hp3⟩ := HPP.out x HM.out hRx
        have cP := script_Step_parts.calls k x.f0 x.f1 x.f2 x.f3 A4 c4 x.f4 x.f5 x.f6 A7 c7 x.f7 (P x) W3 (Kd.C_below I4.out HB3.out) L4.out (Kd.C_below I7.out HB3.out) L7.out hp1 (TabP_.step HP HB3.out)
        clear hp1
        have hp4 : ((P x).length : Int) ≤ 1000000 := by omega
        go_wp2_with ((go_at_call 21; refine cP.mono ?_; rintro e W4 ⟨v0, rfl, ho, b4⟩; obtain ⟨q, cap, cur, rfl, hq, hqc, hqb, hqx⟩ := row_of ho hp2; have HQ := Lib.hid hq; have HQX := Lib.hid hqx; have HB4 := Lib.hid (below_step HB3.out b4); have HF4 := Lib.hid (BF.below HF3.out b4); clear b4 hq hqx ho))
        clear cP z0 z1 z2 z3 z4 z5 z6 z7
        have hqne : q ≠ w.heap.size := by have := BF.lt HF3.out; omega
        obtain ⟨g1, hgg⟩ : ∃ g1, gk = g1 + 1 := ⟨gk - 1, by have := HG.out; have := HI.out; omega⟩
        subst hgg
        go_loopg [24] (P x).length (fun g2 v24 w' => ∃ j : Nat, v24 = .int .i64 j ∧ InRel T (catS P T (l.take i)) (P x) w q cur g2 j w')
        case atStart => exact ⟨0, rfl, by omega, HQ.out, by simpa [catT] using HF4.out, HB4.out⟩
        case round =>
          obtain ⟨j, rfl, hg2, hq2, hf2, hb2⟩ := hrel
          by_cases hj : j < (P x).length
          · have hc8 : wr.cell? ⟨q, j, none⟩ = some (.string (P x)[j]) := (blk_cell hq2 j).trans (HQX.out j hj)
            have cT := script_part.calls (P x)[j] (T (P x)[j]) wr (HTT.out x HM.out hRx _ (List.getElem_mem hj)) (TabP_.step HP hb2)
            have hsz : (catS P T (l.take i)).length + (catT T ((P x).take (j + 1))).length ≤ 1000000 := by
              have h1 := cat_le P T l i (j + 1) HI.out
              have h2 : l[i]'HI.out = x := HX2.out
              rw [h2] at h1
              exact Nat.le_trans h1 HZ.out
            have hsn := catT_snoc T (P x) j hj
            rw [hsn, List.length_append] at hsz
            generalize (P x)[j] = p at *
            have HSN := Lib.hid hsn
            have HJ := Lib.hid hj
            have HG2 := Lib.hid hg2
            have HSZ := Lib.hid hsz
            have HQ2 := Lib.hid hq2
            have HF5 := Lib.hid hf2
            have HB5 := Lib.hid hb2
            have j0 : decide ((j : Int) < ((P x).length : Int)) = true := decide_eq_true (by omega)
            have j1 : (0 : Int) ≤ (j : Int) := by omega
            have j2 : (j : Int) < ((P x).length : Int) := by omega
            clear hsn hj hg2 hsz hq2 hf2 hb2
            go_wp2_with (first
              | (go_at_call 23; refine cT.mono ?_; rintro e W5 ⟨rfl, b5⟩; have HQ3 := Lib.hid (blk_below HQ2.out b5); have HF6 := Lib.hid (BF.below HF5.out b5); have HB6 := Lib.hid (below_step HB5.out b5); clear b5)
              | (go_at_call 22; refine (writeString_any w.heap.size w.heap.size _ (T p) _ HF6.out (by have := HSZ.out; rw [byteCells_len, List.length_append, size_listE]; omega) HB6.out.size).mono ?_; rintro e W6 ⟨rfl, h6, b6, k6⟩; have HQ4 := Lib.hid (others_blk k6 HQ3.out hqne (by decide)); have HF7 := Lib.hid h6; have HB7 := Lib.hid (HB6.out.trans (b6.mono (Nat.le_refl _))); clear h6 b6 k6))
            obtain ⟨k2, hk2⟩ : ∃ k2, gk = k2 + 1 := ⟨gk - 1, by have := HG2.out; have := HJ.out; omega⟩
            subst hk2
            go_roundg k2
            case measure => omega
            case rel =>
              refine ⟨j + 1, by go_num, by have := HG2.out; omega, HQ4.out, ?_, HB7.out⟩
              rw [HSN.out, ← List.append_assoc, byteCells_app, ← strCells_cells]
              exact .inr HF7.out
          · have hjn : j = (P x).length := by omega
            subst hjn
            have HF5 := Lib.hid hf2
            have HB5 := Lib.hid hb2
            clear hg2 hq2 hf2 hb2 hj
            go_wp2
            go_roundg g1
            case measure => omega
            case rel =>
              have hi := HI.out
              have h2 : l[i]'hi = x := HX2.out
              refine ⟨i + 1, by go_num, by have := HG.out; omega, ?_, ?_, HB5.out⟩
              · rw [List.take_succ_eq_append_getElem hi, List.all_append, HALL.out, h2]
                simpa using hRx
              · rw [catS_snoc P T l i hi, h2]
                have := HF5.out
                rw [List.take_length] at this
                exact this
      · have hRf : R x = false := by simpa using hRx
        rw [hRf] at cR
        obtain ⟨rfl, rfl⟩ := HNO.out (List.all_eq_false.2 ⟨x, HM.out, by rw [hRf]; decide⟩)
        go_wp2_with ((go_at_call 11; refine cR.mono ?_; rintro e W3 ⟨rfl, b3⟩; have HB3 := Lib.hid (below_step HB2.out b3); clear b3))
        go_ret2
        exact ⟨_, rfl, Kd.V_nil _ _ _ _ _, HB3.out⟩
    · have hin : i = l.length := by omega
      subst hin
      rw [List.take_length] at hall hb0
      obtain ⟨hr0, rfl⟩ := HYES.out hall
      have HR0 := Lib.hid hr0
      have HF5 := Lib.hid hb0
      have HB5 := Lib.hid hb1
      have HZL := Lib.hid HZ.out
      have hcv := fun w => Lib.run_convert_string_bytes (P := Tryz.prog) w 9 32 5 ⟨(catS P T l).toArray⟩ Tryz.underlying9 Tryz.underlying32 Tryz.underlying5
      clear hg hall hb0 hb1 hr0 hi
      go_wp2_with (first
        | (go_at_call 24; refine (Tryz.Builder_String_any_f w.heap.size w.heap.size _ _ HF5.out HB5.out.size).mono ?_; rintro e W6 ⟨rfl, h6, b6⟩; have HB7 := Lib.hid (HB5.out.trans (b6.mono (Nat.le_refl _))); clear h6 b6))
      go_ret2
      have hsz : (⟨(catS P T l).toArray⟩ : ByteArray).size = (catS P T l).length := by simp [ByteArray.size]
      rw [HR0.out]
      refine ⟨_, rfl, V_bytes (W1 := W6) (L := catS P T l) (HB7.out.size) ?_ (grownCap_ge _ _ _ _) (by have := HZL.out; omega) ?_ _, ?_⟩
      · rw [Lib.bytesWorld_size]
        omega
      · intro j hj
        exact Lib.bytesWorld_cell W6 5 ⟨(catS P T l).toArray⟩ j (by rw [hsz]; exact hj)
      · exact HB7.out.trans ((Lib.bytesWorld_below W6 5 _).mono HB7.out.size)
end Go.Proofs.YtdhpcofnddkcaaaGreatDoor.S
namespace Go.Proofs.YtdhpcofnddkcaaaGreatDoor.S
open Go.RowKit Go.Proofs.YtdhpcofnddkcaaaGreatDoor.G Go.Proofs.YtdhpcofnddkcaaaGreatDoorW.PrintWords Go.Proofs.YtdhpcofnddkcaaaGreatDoorW.PrintLast Go.Proofs.YtdhpcofnddkcaaaGreatDoorW.PrintMore
attribute [local go_sem] max2_int min2_int max_two min_two max_three min_three max_four min_four
set_option linter.unusedVariables false
set_option linter.unusedSimpArgs false
def IsS71 (w0 W : World) (g : Nat) (f0 : ByteArray) (f1 : Int) (f2 : Bool) : Prop := W.heap[g]? = some (.cells #[.string f0, .int .i64 f1, .bool f2] 71 (0, 0)) ∧ w0.heap.size ≤ g
theorem IsS71.grown {w0 W : World} {g : Nat} {f0 : ByteArray} {f1 : Int} {f2 : Bool} {W1 : World} {row : Option Nat} (h : IsS71 w0 W g f0 f1 f2) (hw : W.grownBy W1 row) (hne : some g ≠ row) : IsS71 w0 W1 g f0 f1 f2 := by
  obtain ⟨hb, hg⟩ := h
  exact ⟨blk_grown hb hw hne, hg⟩
theorem IsS71.kept {w0 W : World} {g : Nat} {f0 : ByteArray} {f1 : Int} {f2 : Bool} {W1 : World} {S : Nat → Prop} (h : IsS71 w0 W g f0 f1 f2) (hk : Kept W W1 S) (hne : ¬ S g) : IsS71 w0 W1 g f0 f1 f2 := by
  obtain ⟨hb, hg⟩ := h
  exact ⟨blk_kept hb hk hne, hg⟩
theorem IsS71.below {w0 W : World} {g : Nat} {f0 : ByteArray} {f1 : Int} {f2 : Bool} {W1 : World} (h : IsS71 w0 W g f0 f1 f2) (hw : Below W.heap.size W W1) : IsS71 w0 W1 g f0 f1 f2 := h.grown (grown_of_below hw none) (by simp)
theorem IsS71.alloc {w0 W : World} {g : Nat} {f0 : ByteArray} {f1 : Int} {f2 : Bool} (h : IsS71 w0 W g f0 f1 f2) (o : Obj) : IsS71 w0 (W.alloc o) g f0 f1 f2 := h.below (below_alloc (Below.refl _ _) o)
theorem IsS71.drewN {w0 W : World} {g : Nat} {f0 : ByteArray} {f1 : Int} {f2 : Bool} (h : IsS71 w0 W g f0 f1 f2) (m : Nat) : IsS71 w0 (W.drewN m) g f0 f1 f2 := h
theorem IsS71.drew {w0 W : World} {g : Nat} {f0 : ByteArray} {f1 : Int} {f2 : Bool} (h : IsS71 w0 W g f0 f1 f2) : IsS71 w0 W.drew g f0 f1 f2 := h
theorem IsS71.at_ {w0 W : World} {g : Nat} {f0 : ByteArray} {f1 : Int} {f2 : Bool} {w' : World} {m : Nat} (hq : W.drewN m = w') (h : IsS71 w0 W g f0 f1 f2) : IsS71 w0 w' g f0 f1 f2 := by subst hq; exact IsS71.drewN h m
theorem IsS71.apart {w0 W : World} {g : Nat} {f0 : ByteArray} {f1 : Int} {f2 : Bool} {α : Type} {d : Kd α} {e : Nat} {base : Nat} {ok : Nat → Prop} {v : Value} {xs : List α} (h : IsS71 w0 W g f0 f1 f2) (ho : d.R e W base ok v xs) (ht : ∀ q, q ∈ e :: d.E → q ≠ 71) : d.R e W base (fun k => ok k ∧ k ≠ g) v xs := by
  obtain ⟨hb, hg⟩ := h
  exact Kd.R_types ho hb ht
theorem IsS71.own_ne {w0 W : World} {g : Nat} {f0 : ByteArray} {f1 : Int} {f2 : Bool} {α : Type} {d : Kd α} {e : Nat} {base : Nat} {ok : Nat → Prop} {v : Value} {xs : List α} (h : IsS71 w0 W g f0 f1 f2) (ho : d.R e W base ok v xs) (ht : e ≠ 71) : some g ≠ v.ownBlock := by
  obtain ⟨hb, hg⟩ := h
  exact Kd.R_ne ho hb ht
theorem IsS71.own_neS {w0 W : World} {g : Nat} {f0 : ByteArray} {f1 : Int} {f2 : Bool} {α : Type} {d : Kd α} {e : Nat} {base : Nat} {ok : Nat → Prop} {v : Value} {xs : List α} (h : IsS71 w0 W g f0 f1 f2) (ho : d.S e W base ok v xs) (ht : e ≠ 71) : some g ≠ v.ownBlock := by
  obtain ⟨hb, hg⟩ := h
  exact Kd.S_ne ho hb ht
theorem IsS71.lt {w0 W : World} {g : Nat} {f0 : ByteArray} {f1 : Int} {f2 : Bool} (h : IsS71 w0 W g f0 f1 f2) : g < W.heap.size := by
  obtain ⟨hb, hg⟩ := h
  exact blk_lt hb
theorem IsS71.ge {w0 W : World} {g : Nat} {f0 : ByteArray} {f1 : Int} {f2 : Bool} (h : IsS71 w0 W g f0 f1 f2) : w0.heap.size ≤ g := by
  obtain ⟨hb, hg⟩ := h
  exact hg
theorem IsS71.far {w0 W : World} {g : Nat} {f0 : ByteArray} {f1 : Int} {f2 : Bool} {p : Addr} (h : IsS71 w0 W g f0 f1 f2) (hne : g ≠ p.block) (u : Value) : IsS71 w0 (W.setCell p u) g f0 f1 f2 := by
  obtain ⟨hb, hg⟩ := h
  exact ⟨blk_far hb hne u, hg⟩
theorem cellS71_0 {W : World} {g : Nat} {f0 : ByteArray} {f1 : Int} {f2 : Bool} (h : W.heap[g]? = some (.cells #[.string f0, .int .i64 f1, .bool f2] 71 (0, 0))) : W.cell? ⟨g, 0, none⟩ = some (.string f0) := (blk_cell h 0).trans rfl
theorem IsS71.set_0 {w0 W : World} {g : Nat} {f0 : ByteArray} {f1 : Int} {f2 : Bool} (h : IsS71 w0 W g f0 f1 f2) (x : ByteArray) : IsS71 w0 (W.setCell ⟨g, 0, none⟩ (.string x)) g x f1 f2 := by
  obtain ⟨hb, hg⟩ := h
  exact ⟨by simpa using blk_set hb 0 (.string x), hg⟩
theorem cellS71_1 {W : World} {g : Nat} {f0 : ByteArray} {f1 : Int} {f2 : Bool} (h : W.heap[g]? = some (.cells #[.string f0, .int .i64 f1, .bool f2] 71 (0, 0))) : W.cell? ⟨g, 1, none⟩ = some (.int .i64 f1) := (blk_cell h 1).trans rfl
theorem IsS71.set_1 {w0 W : World} {g : Nat} {f0 : ByteArray} {f1 : Int} {f2 : Bool} (h : IsS71 w0 W g f0 f1 f2) (x : Int) : IsS71 w0 (W.setCell ⟨g, 1, none⟩ (.int .i64 x)) g f0 x f2 := by
  obtain ⟨hb, hg⟩ := h
  exact ⟨by simpa using blk_set hb 1 (.int .i64 x), hg⟩
theorem cellS71_2 {W : World} {g : Nat} {f0 : ByteArray} {f1 : Int} {f2 : Bool} (h : W.heap[g]? = some (.cells #[.string f0, .int .i64 f1, .bool f2] 71 (0, 0))) : W.cell? ⟨g, 2, none⟩ = some (.bool f2) := (blk_cell h 2).trans rfl
theorem IsS71.set_2 {w0 W : World} {g : Nat} {f0 : ByteArray} {f1 : Int} {f2 : Bool} (h : IsS71 w0 W g f0 f1 f2) (x : Bool) : IsS71 w0 (W.setCell ⟨g, 2, none⟩ (.bool x)) g f0 f1 x := by
  obtain ⟨hb, hg⟩ := h
  exact ⟨by simpa using blk_set hb 2 (.bool x), hg⟩
theorem IsS71.new (w0 W : World) (f0 : ByteArray) (f1 : Int) (f2 : Bool) (hB : Below w0.heap.size w0 W) : IsS71 w0 (W.alloc (.cells #[.string f0, .int .i64 f1, .bool f2] 71)) W.heap.size f0 f1 f2 := ⟨by simpa using heap_alloc_new W _, hB.size⟩
end Go.Proofs.YtdhpcofnddkcaaaGreatDoor.S
namespace Go.Proofs.YtdhpcofnddkcaaaGreatDoor.S
open Go.RowKit Go.Proofs.YtdhpcofnddkcaaaGreatDoor.G Go.Proofs.YtdhpcofnddkcaaaGreatDoorW.PrintWords Go.Proofs.YtdhpcofnddkcaaaGreatDoorW.PrintLast Go.Proofs.YtdhpcofnddkcaaaGreatDoorW.PrintMore
attribute [local go_sem] max2_int min2_int max_two min_two max_three min_three max_four min_four
set_option linter.unusedVariables false
set_option linter.unusedSimpArgs false
theorem cut_quiet (s p : ByteArray) (w : World) (hs : s.size < 4294967281) (h : Tab_ w) :
    Calls Tryz.prog 39 #[.string s, .string p] w fun e w' => e = .returned (.tuple #[.string ⟨(Lib.cut s.data.toList p.data.toList).1.toArray⟩, .string ⟨(Lib.cut s.data.toList p.data.toList).2.1.toArray⟩, .bool (Lib.cut s.data.toList p.data.toList).2.2]) ∧ ∃ n, w' = w.drewN n := by
  obtain ⟨m, hm⟩ := h
  exact Tryz.strings_Cut s p m w hs hm
def TextEnd (g : Nat) (r s : ByteArray) (a : Int) (no : Bool) (w0 w : World) (e : Ending) (w' : World) : Prop :=
  e = .returned (.string r) ∧ IsS71 w0 w' g s a no ∧ Below w0.heap.size w0 w' ∧ KeepBut w w' g none
set_option maxHeartbeats 4000000 in
set_option maxRecDepth 100000 in
theorem text_no (g : Nat) (s D E : ByteArray) (a q : Nat) (no okk b : Bool) (v : Int) (w0 w : World) (hI : IsS71 w0 w g s (a : Int) no) (hB : Below w0.heap.size w0 w) (hs : s.size ≤ 1000000) (ha : a ≤ s.size)
    (hq : (if (a : Int) + 8 < (s.size : Int) then (a : Int) + 8 else (s.size : Int)) = (q : Int)) (q1 : (a : Int) ≤ q) (q2 : (q : Int) ≤ s.size)
    (cutC : ∀ n : Nat, Calls Tryz.prog 39 #[.string (s.extract a q), .string ⟨#[58]⟩] (w.drewN n) fun e w' => e = .returned (.tuple #[.string D, .string E, .bool okk]) ∧ ∃ m, w' = w.drewN m)
    (cntC : ∀ n : Nat, Calls Tryz.prog 48 #[.string D] (w.drewN n) fun e w' => e = .returned (.tuple #[.int .i64 v, .bool b]) ∧ Below w.heap.size w w')
    (hD : D.size ≤ 8)
    (hc : no = true ∨ (no = false ∧ okk = false) ∨ (no = false ∧ okk = true ∧ b = false) ∨ (no = false ∧ okk = true ∧ b = true ∧ 0 ≤ v ∧ v ≤ 262144 ∧ (s.size : Int) ≤ (a : Int) + D.size + 1 + v) ∨
      (no = false ∧ okk = true ∧ b = true ∧ 0 ≤ v ∧ v ≤ 262144 ∧ (a : Int) + D.size + 1 + v < s.size ∧ ∃ hlt : ((a : Int) + D.size + 1 + v).toNat < s.size, (((s[((a : Int) + D.size + 1 + v).toNat]'hlt).toNat : Int) != 44) = true)) :
    Calls Tryz.prog 35 #[.pointer (some ⟨g, 0, none⟩)] w (TextEnd g ⟨#[]⟩ s a true w0 w) := by
  have g0 : w.cell? ⟨g, 0, none⟩ = some (.string s) := cellS71_0 hI.1
  have g1 : w.cell? ⟨g, 1, none⟩ = some (.int .i64 a) := cellS71_1 hI.1
  have g2 : w.cell? ⟨g, 2, none⟩ = some (.bool no) := cellS71_2 hI.1
  have HI := Lib.hid hI
  have HB := Lib.hid hB
  clear hI hB
  have m1 : ((s.size : Int)) ≤ 1000000 := by omega
  have m2 : ((a : Int)) ≤ s.size := by omega
  have m3 : (0 : Int) ≤ (D.size : Int) := by omega
  have m4 : (D.size : Int) ≤ 8 := by omega
  have x1 : IntKind.i64.wrap ((a : Int) + 8) = (a : Int) + 8 := IntWalk.i64_in _ (by omega)
  rcases hc with rfl | ⟨rfl, rfl⟩ | ⟨rfl, rfl, rfl⟩ | ⟨rfl, rfl, rfl, v0, v1, v2⟩ | ⟨rfl, rfl, rfl, v0, v1, v2, hlt, hcc⟩
  all_goals
    go_enter Tryz.func35, Tryz.ntmps35
    go_wp2
    go_quiet ((go_at_call 39; exact cutC _))
    go_wp2_with ((go_at_call 48; refine (cntC _).mono ?_; rintro e w1 ⟨rfl, b1⟩; have hI1 := HI.out.below b1; have k0 := cellS71_0 hI1.1; have k1 := cellS71_1 hI1.1; have k2 := cellS71_2 hI1.1; have f0 := blk_frozen hI1.1 0; have f1 := blk_frozen hI1.1 1; have f2 := blk_frozen hI1.1 2; have HI1 := Lib.hid hI1; clear hI1; have B1 := Lib.hid b1; clear b1))
    go_ret
    exact ⟨rfl, IsS71.set_2 HI1.out true, below_set (below_step HB.out B1.out) (IsS71.ge HI.out), KeepBut.set_ (KeepBut.of_below B1.out g none) _ _⟩
set_option maxHeartbeats 4000000 in
set_option maxRecDepth 100000 in
theorem text_yes (g : Nat) (s D E : ByteArray) (a q : Nat) (v : Int) (w0 w : World) (hI : IsS71 w0 w g s (a : Int) false) (hB : Below w0.heap.size w0 w) (hs : s.size ≤ 1000000) (ha : a ≤ s.size)
    (hq : (if (a : Int) + 8 < (s.size : Int) then (a : Int) + 8 else (s.size : Int)) = (q : Int)) (q1 : (a : Int) ≤ q) (q2 : (q : Int) ≤ s.size)
    (cutC : ∀ n : Nat, Calls Tryz.prog 39 #[.string (s.extract a q), .string ⟨#[58]⟩] (w.drewN n) fun e w' => e = .returned (.tuple #[.string D, .string E, .bool true]) ∧ ∃ m, w' = w.drewN m)
    (cntC : ∀ n : Nat, Calls Tryz.prog 48 #[.string D] (w.drewN n) fun e w' => e = .returned (.tuple #[.int .i64 v, .bool true]) ∧ Below w.heap.size w w')
    (hD : D.size ≤ 8) (v0 : 0 ≤ v) (v1 : v ≤ 262144) (v2 : (a : Int) + D.size + 1 + v < s.size) (hlt : ((a : Int) + D.size + 1 + v).toNat < s.size) (hcc : (((s[((a : Int) + D.size + 1 + v).toNat]'hlt).toNat : Int) != 44) = false) :
    Calls Tryz.prog 35 #[.pointer (some ⟨g, 0, none⟩)] w (TextEnd g (s.extract (a + D.size + 1) (a + D.size + 1 + v.toNat)) s ((a : Int) + D.size + 1 + v + 1) false w0 w) := by
  have g0 : w.cell? ⟨g, 0, none⟩ = some (.string s) := cellS71_0 hI.1
  have g1 : w.cell? ⟨g, 1, none⟩ = some (.int .i64 a) := cellS71_1 hI.1
  have g2 : w.cell? ⟨g, 2, none⟩ = some (.bool false) := cellS71_2 hI.1
  have HI := Lib.hid hI
  have HB := Lib.hid hB
  clear hI hB
  have m1 : ((s.size : Int)) ≤ 1000000 := by omega
  have m2 : ((a : Int)) ≤ s.size := by omega
  have m3 : (0 : Int) ≤ (D.size : Int) := by omega
  have m4 : (D.size : Int) ≤ 8 := by omega
  have x1 : IntKind.i64.wrap ((a : Int) + 8) = (a : Int) + 8 := IntWalk.i64_in _ (by omega)
  go_enter Tryz.func35, Tryz.ntmps35
  go_wp2
  go_quiet ((go_at_call 39; exact cutC _))
  go_wp2_with ((go_at_call 48; refine (cntC _).mono ?_; rintro e w1 ⟨rfl, b1⟩; have hI1 := HI.out.below b1; have k0 := cellS71_0 hI1.1; have k1 := cellS71_1 hI1.1; have k2 := cellS71_2 hI1.1; have f0 := blk_frozen hI1.1 0; have f1 := blk_frozen hI1.1 1; have f2 := blk_frozen hI1.1 2; have HI1 := Lib.hid hI1; clear hI1; have B1 := Lib.hid b1; clear b1))
  go_ret
  have e1 : ((a : Int) + D.size + 1 + v).toNat = a + D.size + 1 + v.toNat := by omega
  exact ⟨congrArg (fun k => Ending.returned (.string (s.extract (a + D.size + 1) k))) e1, IsS71.set_1 HI1.out _, below_set (below_step HB.out B1.out) (IsS71.ge HI.out), KeepBut.set_ (KeepBut.of_below B1.out g none) _ _⟩
theorem size_listT (s : ByteArray) : s.size = s.data.toList.length := Lib.size_eq s
theorem at_list (s : ByteArray) (i : Nat) (h : i < s.size) (c : UInt8) : (((s[i]'h).toNat : Int) != c.toNat) = false ↔ s.data.toList[i]? = some c := by
  have e : s.data.toList[i]? = some (s[i]'h) := by
    rw [List.getElem?_eq_getElem (by simpa using h)]
    rfl
  rw [e, bne_eq_false_iff_eq, Option.some.injEq]
  constructor
  · intro h
    exact UInt8.toNat_inj.1 (by omega)
  · intro h
    rw [h]
theorem script_reader_text.calls (g : Nat) (s0_0 : ByteArray) (s0_1 : Int) (s0_2 : Bool) (r1 : ByteArray) (r2 : ByteArray) (r3 : Int) (r4 : Bool) (w0 w : World) (hI : IsS71 w0 w g s0_0 s0_1 s0_2) (hB : Below w0.heap.size w0 w) (h : script_reader_text.f s0_0 s0_1 s0_2 = some (r1, r2, r3, r4))
    (HT0_ : Tab_ w0 := by first | exact HT0_ | exact Tab_.step HT0_ (by repeat (first | (with_reducible first | exact HB.out | apply below_alloc | apply pw_below_drewN | apply below_drew1 | refine below_set ?_ (Aside0.out (by assumption))) | exact HB.out)))
    (HP0_ : TabP_ w0 := by first | exact HP0_ | exact TabP_.step HP0_ (by repeat (first | (with_reducible first | exact HB.out | apply below_alloc | apply pw_below_drewN | apply below_drew1 | refine below_set ?_ (Aside0.out (by assumption))) | exact HB.out)))
    (HE0_ : TabE_ w0 := by first | exact HE0_ | exact TabE_.step HE0_ (by repeat (first | (with_reducible first | exact HB.out | apply below_alloc | apply pw_below_drewN | apply below_drew1 | refine below_set ?_ (Aside0.out (by assumption))) | exact HB.out))) :
    Calls Tryz.prog 35 #[.pointer (some ⟨g, 0, none⟩)] w fun e w' => e = .returned (.string r1) ∧ IsS71 w0 w' g r2 r3 r4 ∧ Below w0.heap.size w0 w' ∧ KeepBut w w' g none := by
  show Calls Tryz.prog 35 #[.pointer (some ⟨g, 0, none⟩)] w (TextEnd g r1 r2 r3 r4 w0 w)
  replace HT0_ := Tab_.step HT0_ hB
  replace HP0_ := TabP_.step HP0_ hB
  replace HE0_ := TabE_.step HE0_ hB
  unfold script_reader_text.f at h
  by_cases hs : s0_0.size ≤ 1000000 ∧ 0 ≤ s0_1 ∧ s0_1 ≤ s0_0.size
  · rw [if_pos hs] at h
    obtain ⟨s1, s2, s3⟩ := hs
    obtain ⟨a, rfl⟩ := Int.eq_ofNat_of_zero_le s2
    have ha : a ≤ s0_0.size := by omega
    clear s2 s3
    obtain ⟨q, hq⟩ : ∃ q : Nat, q = min s0_0.size (a + 8) := ⟨_, rfl⟩
    have q0 : (if (a : Int) + 8 < (s0_0.size : Int) then (a : Int) + 8 else (s0_0.size : Int)) = (q : Int) := by split <;> omega
    have q1 : (a : Int) ≤ q := by omega
    have q2 : (q : Int) ≤ s0_0.size := by omega
    have hl : (s0_0.extract a q).data.toList = ((Net.lb s0_0).drop a).take 8 := by
      rw [Lib.extract_data]
      show ((Net.lb s0_0).drop a).take (q - a) = _
      by_cases c : a + 8 ≤ s0_0.size
      · rw [show q - a = 8 by omega]
      · have : ((Net.lb s0_0).drop a).length ≤ 7 := by
          rw [List.length_drop]
          have := size_listT s0_0
          show s0_0.data.toList.length - a ≤ 7
          omega
        have hz : ((Net.lb s0_0).drop a).length = q - a := by
          rw [List.length_drop]
          have := size_listT s0_0
          show s0_0.data.toList.length - a = _
          omega
        rw [List.take_of_length_le (by omega), List.take_of_length_le (by omega)]
    obtain ⟨E, hE⟩ : ∃ E : ByteArray, E = ⟨(Lib.cut (s0_0.extract a q).data.toList [58]).2.1.toArray⟩ := ⟨_, rfl⟩
    obtain ⟨D, hD⟩ : ∃ D : ByteArray, D = ⟨(Lib.cut (s0_0.extract a q).data.toList [58]).1.toArray⟩ := ⟨_, rfl⟩
    obtain ⟨k, hk⟩ : ∃ k : Bool, k = (Lib.cut (s0_0.extract a q).data.toList [58]).2.2 := ⟨_, rfl⟩
    have hDl : D.data.toList = (Lib.cut (((Net.lb s0_0).drop a).take 8) [58]).1 := by rw [hD, hl]
    have hkl : k = (Lib.cut (((Net.lb s0_0).drop a).take 8) [58]).2.2 := by rw [hk, hl]
    have hDs : D.size = (Lib.cut (((Net.lb s0_0).drop a).take 8) [58]).1.length := by rw [size_listT, hDl]
    have hD8 : D.size ≤ 8 := by
      rw [hDs]
      have h1 : (Lib.cut (((Net.lb s0_0).drop a).take 8) [58]).1.length ≤ (((Net.lb s0_0).drop a).take 8).length := by
        unfold Lib.cut
        split
        · simp only [List.length_take]
          omega
        · exact Nat.le_refl _
      have h2 : (((Net.lb s0_0).drop a).take 8).length ≤ 8 := List.length_take_le _ _
      omega
    have cutC : ∀ n : Nat, Calls Tryz.prog 39 #[.string (s0_0.extract a q), .string ⟨#[58]⟩] (w.drewN n) fun e w' => e = .returned (.tuple #[.string D, .string E, .bool k]) ∧ ∃ m, w' = w.drewN m := by
      intro n
      have hz : (s0_0.extract a q).size < 4294967281 := by
        rw [size_listT, hl]
        have : (((Net.lb s0_0).drop a).take 8).length ≤ 8 := List.length_take_le _ _
        omega
      have := cut_quiet (s0_0.extract a q) ⟨#[58]⟩ (w.drewN n) hz (Tab_.step HT0_ (pw_below_drewN (Below.refl _ _) n))
      rw [hD, hE, hk]
      exact Calls.quiet_of this
    clear hD hE hk
    obtain ⟨v, b, hv, hvb⟩ := count_cnt D (by omega)
    have cntC : ∀ n : Nat, Calls Tryz.prog 48 #[.string D] (w.drewN n) fun e w' => e = .returned (.tuple #[.int .i64 v, .bool b]) ∧ Below w.heap.size w w' := by
      intro n
      exact (script_count.calls D v b (w.drewN n) hv (TabP_.step HP0_ (pw_below_drewN (Below.refl _ _) n)) (TabE_.step HE0_ (pw_below_drewN (Below.refl _ _) n))).mono fun e w' ⟨h1, h2⟩ => ⟨h1, below_step (pw_below_drewN (Below.refl _ _) n) h2⟩
    rw [hDl] at hvb
    have NO := text_no g s0_0 D E a q s0_2 k b v w0 w hI hB s1 ha q0 q1 q2 cutC cntC hD8
    cases s0_2 with
    | true =>
      rw [if_pos rfl] at h
      simp only [Option.some.injEq, Prod.mk.injEq] at h
      obtain ⟨rfl, rfl, rfl, rfl⟩ := h
      exact NO (Or.inl rfl)
    | false =>
      rw [if_neg (by decide)] at h
      have fin : (some ((⟨#[]⟩ : ByteArray), s0_0, (a : Int), true) = some (r1, r2, r3, r4)) → Calls Tryz.prog 35 #[.pointer (some ⟨g, 0, none⟩)] w (TextEnd g ⟨#[]⟩ s0_0 a true w0 w) → Calls Tryz.prog 35 #[.pointer (some ⟨g, 0, none⟩)] w (TextEnd g r1 r2 r3 r4 w0 w) := by
        intro h c
        simp only [Option.some.injEq, Prod.mk.injEq] at h
        obtain ⟨rfl, rfl, rfl, rfl⟩ := h
        exact c
      unfold Net.rdB Net.rd at h
      rw [Int.toNat_natCast] at h
      cases hc : Net.cnt (Lib.cut (((Net.lb s0_0).drop a).take 8) [58]).1 with
      | none =>
        rw [hc] at h hvb
        refine fin h (NO ?_)
        have hb : b = false := hvb
        cases k with
        | false => exact Or.inr (Or.inl ⟨rfl, rfl⟩)
        | true => exact Or.inr (Or.inr (Or.inl ⟨rfl, rfl, hb⟩))
      | some n =>
        rw [hc] at h hvb
        obtain ⟨hv1, hb⟩ : v = (n : Int) ∧ b = true := hvb
        subst hv1 hb
        have hn := (Net.cnt_some hc).1
        rw [← hDs, ← hkl] at h
        have hlen : ((Net.lb s0_0).drop a).length = s0_0.size - a := by
          rw [List.length_drop, size_listT]
        by_cases cc : k = true ∧ D.size + 1 + n < ((Net.lb s0_0).drop a).length ∧ ((Net.lb s0_0).drop a)[D.size + 1 + n]? = some 44
        · simp only [if_pos cc] at h
          obtain ⟨ck, c1, c2⟩ := cc
          subst ck
          simp only [Option.some.injEq, Prod.mk.injEq] at h
          obtain ⟨rfl, rfl, rfl, rfl⟩ := h
          rw [List.getElem?_drop] at c2
          have hj : ((a : Int) + D.size + 1 + n).toNat = a + (D.size + 1 + n) := by omega
          have hlt : ((a : Int) + D.size + 1 + n).toNat < s0_0.size := by omega
          have YES := text_yes g s0_0 D E a q n w0 w hI hB s1 ha q0 q1 q2 cutC cntC hD8 (by omega) (by omega) (by omega) hlt (by
            have := (at_list s0_0 _ hlt 44).2 (by rw [hj]; exact c2)
            exact this)
          have e1 : s0_0.extract (a + D.size + 1) (a + D.size + 1 + (n : Int).toNat) = Net.bs ((((Net.lb s0_0).drop a).drop (D.size + 1)).take n) := by
            rw [Lib.extract_eq, List.drop_drop, Int.toNat_natCast, show a + D.size + 1 + n - (a + D.size + 1) = n by omega, show a + (D.size + 1) = a + D.size + 1 by omega]
            rfl
          have e2 : (a : Int) + D.size + 1 + n + 1 = ((a + (D.size + 1 + n + 1) : Nat) : Int) := by omega
          rw [e1, e2] at YES
          exact YES
        · simp only [if_neg cc] at h
          refine fin h (NO ?_)
          cases k with
          | false => exact Or.inr (Or.inl ⟨rfl, rfl⟩)
          | true =>
            right; right; right
            by_cases c1 : (s0_0.size : Int) ≤ (a : Int) + D.size + 1 + n
            · exact Or.inl ⟨rfl, rfl, rfl, by omega, by omega, c1⟩
            · refine Or.inr ⟨rfl, rfl, rfl, by omega, by omega, by omega, by omega, ?_⟩
              have hj : ((a : Int) + D.size + 1 + n).toNat = a + (D.size + 1 + n) := by omega
              have hlt : ((a : Int) + D.size + 1 + n).toNat < s0_0.size := by omega
              cases hx : (((s0_0[((a : Int) + D.size + 1 + n).toNat]'hlt).toNat : Int) != 44) with
              | true => rfl
              | false =>
                exfalso
                have := (at_list s0_0 _ hlt 44).1 hx
                rw [hj] at this
                exact cc ⟨rfl, by omega, by rw [List.getElem?_drop]; exact this⟩
  · rw [if_neg hs] at h
    exact absurd h (by simp)
end Go.Proofs.YtdhpcofnddkcaaaGreatDoor.S
namespace Go.Proofs.YtdhpcofnddkcaaaGreatDoor.S
open Go.RowKit Go.Proofs.YtdhpcofnddkcaaaGreatDoor.G Go.Proofs.YtdhpcofnddkcaaaGreatDoorW.PrintWords Go.Proofs.YtdhpcofnddkcaaaGreatDoorW.PrintLast Go.Proofs.YtdhpcofnddkcaaaGreatDoorW.PrintMore
attribute [local go_sem] max2_int min2_int max_two min_two max_three min_three max_four min_four
set_option linter.unusedVariables false
set_option linter.unusedSimpArgs false
def script_reader_number.f (s0_0 : ByteArray) (s0_1 : Int) (s0_2 : Bool) : Option (Int × ByteArray × Int × Bool) := (script_reader_text.f s0_0 s0_1 s0_2).bind fun bt427 => ((script_count.f bt427.1).bind fun bt431 => (if bt431.2 = true then (if bt427.2.2.2 = true then (some (0, bt427.2.1, bt427.2.2.1, true)) else (some (bt431.1, bt427.2.1, bt427.2.2.1, bt427.2.2.2))) else (some (0, bt427.2.1, bt427.2.2.1, true))))
set_option maxHeartbeats 8000000 in
set_option maxRecDepth 100000 in
theorem script_reader_number.calls (g : Nat) (s0_0 : ByteArray) (s0_1 : Int) (s0_2 : Bool) (r1 : Int) (r2 : ByteArray) (r3 : Int) (r4 : Bool) (w0 w : World) (hI : IsS71 w0 w g s0_0 s0_1 s0_2) (hB : Below w0.heap.size w0 w) (h : script_reader_number.f s0_0 s0_1 s0_2 = some (r1, r2, r3, r4)) (HT0_ : Tab_ w0 := by first | exact HT0_ | exact Tab_.step HT0_ (by repeat (first | (with_reducible first | exact HB.out | apply below_alloc | apply pw_below_drewN | apply below_drew1 | refine below_set ?_ (Aside0.out (by assumption))) | exact HB.out))) (HP0_ : TabP_ w0 := by first | exact HP0_ | exact TabP_.step HP0_ (by repeat (first | (with_reducible first | exact HB.out | apply below_alloc | apply pw_below_drewN | apply below_drew1 | refine below_set ?_ (Aside0.out (by assumption))) | exact HB.out))) (HE0_ : TabE_ w0 := by first | exact HE0_ | exact TabE_.step HE0_ (by repeat (first | (with_reducible first | exact HB.out | apply below_alloc | apply pw_below_drewN | apply below_drew1 | refine below_set ?_ (Aside0.out (by assumption))) | exact HB.out))) :
    Calls Tryz.prog 36 #[.pointer (some ⟨g, 0, none⟩)] w fun e w' => e = .returned (.int .i64 r1) ∧ IsS71 w0 w' g r2 r3 r4 ∧ Below w0.heap.size w0 w' ∧ KeepBut w w' g none := by
  have HI0 := Aside0.mk hI
  have HK := Aside0.mk (KeepBut.refl w g none)
  have HL := Aside0.mk hB.size
  clear hI
  have HW0 := Aside0.mk hB.size
  have HB := Aside0.mk hB
  clear hB
  have H : ((script_reader_text.f s0_0 s0_1 s0_2).bind fun bt427 => ((script_count.f bt427.1).bind fun bt431 => (if bt431.2 = true then (if bt427.2.2.2 = true then (some (0, bt427.2.1, bt427.2.2.1, true)) else (some (bt431.1, bt427.2.1, bt427.2.2.1, bt427.2.2.2))) else (some (0, bt427.2.1, bt427.2.2.1, true))))) = some (r1, r2, r3, r4) := h
  clear h
  replace H := Option.bind_eq_some_iff.mp H
  obtain ⟨⟨t427, t428, t429, t430⟩, A20, H⟩ := H
  replace H : ((script_count.f t427).bind fun bt431 => (if bt431.2 = true then (if t430 = true then (some (0, t428, t429, true)) else (some (bt431.1, t428, t429, t430))) else (some (0, t428, t429, true)))) = some (r1, r2, r3, r4) := H
  have A2 := Aside0.mk A20
  clear A20
  replace H := Option.bind_eq_some_iff.mp H
  obtain ⟨⟨t431, t432⟩, A30, H⟩ := H
  replace H : (if t432 = true then (if t430 = true then (some (0, t428, t429, true)) else (some (t431, t428, t429, t430))) else (some (0, t428, t429, true))) = some (r1, r2, r3, r4) := H
  have A3 := Aside0.mk A30
  clear A30
  by_cases c4 : t432 = true
  · subst c4
    have H1 : (if t430 = true then (some (0, t428, t429, true)) else (some (t431, t428, t429, t430))) = some (r1, r2, r3, r4) := by rw [if_pos rfl] at H; exact H
    clear H
    have H := H1
    clear H1
    by_cases c5 : t430 = true
    · subst c5
      have H1 : (some (0, t428, t429, true)) = some (r1, r2, r3, r4) := by rw [if_pos rfl] at H; exact H
      clear H
      have H := H1
      clear H1
      simp only [Option.some.injEq, Prod.mk.injEq] at H
      obtain ⟨rfl, rfl, rfl, rfl⟩ := H
      go_enter Tryz.func36, Tryz.ntmps36
      go_wp2_with (first | ((with_reducible refine gate_callee (f := 35) rfl ?_); refine goesL_ (some 7) rfl rfl Tryz.func35 (by kernel_rfl) rfl #[.pointer (some ⟨g, 0, none⟩)] rfl (by (try simp only [List.map_toArray, List.map_cons, List.map_nil]); first | done | rfl | (simp only [List.length_drop, List.length_take]; rfl)) ?_; (with_reducible refine (script_reader_text.calls g s0_0 s0_1 s0_2 t427 t428 t429 true w0 _ ?side1 ?side2 A2.out).mono ?_); (case side1 => repeat (first | (with_reducible first | exact HI0.out | apply IsS71.alloc | apply IsS71.drewN | apply IsS71.drew | apply IsS71.set_0 | apply IsS71.set_1 | apply IsS71.set_2) | exact HI0.out)); (case side2 => repeat (first | (with_reducible first | exact HB.out | apply below_alloc | apply pw_below_drewN | apply below_drew1 | refine below_set ?_ (IsS71.ge HI0.out)) | exact HB.out)); rintro e w6 ⟨rfl, hi, hb, hk⟩; refine ⟨_, rfl, ?_⟩; have n0_ := Aside0.mk (KeepBut.trans (by repeat (first | (with_reducible first | exact HK.out | apply KeepBut.set_ | apply keep_drewN | apply keep_drew | apply keep_alloc) | exact HK.out)) hk (.inl rfl)); have n1_ := Aside0.mk (hb); have n2_ := Aside0.mk (hi); clear HK; clear HB; clear HI0; have HK := n0_; have HB := n1_; have HI0 := n2_; clear n0_ n1_ n2_; (try clear hb); (try clear hb2); (try clear hk); (try clear hi)) | ((with_reducible refine gate_callee (f := 48) rfl ?_); refine goesL_ (some 8) rfl rfl Tryz.func48 (by kernel_rfl) rfl #[.string t427] rfl (by (try simp only [List.map_toArray, List.map_cons, List.map_nil]); first | done | rfl | (simp only [List.length_drop, List.length_take]; rfl)) ?_; (with_reducible refine (script_count.calls t427 t431 true _ A3.out).mono ?_); rintro e w7 ⟨rfl, hb⟩; refine ⟨_, rfl, ?_⟩; have n0_ := Aside0.mk (IsS71.below (by repeat (first | (with_reducible first | exact HI0.out | apply IsS71.alloc | apply IsS71.drewN | apply IsS71.drew | apply IsS71.set_0 | apply IsS71.set_1 | apply IsS71.set_2) | exact HI0.out)) hb); have n1_ := Aside0.mk (KeepBut.trans (by repeat (first | (with_reducible first | exact HK.out | apply KeepBut.set_ | apply keep_drewN | apply keep_drew | apply keep_alloc) | exact HK.out)) (KeepBut.of_below hb g none) (.inl rfl)); have n2_ := Aside0.mk (below_step (by repeat (first | (with_reducible first | exact HB.out | apply below_alloc | apply pw_below_drewN | apply below_drew1 | refine below_set ?_ (IsS71.ge HI0.out)) | exact HB.out)) hb); clear HI0; clear HK; clear HB; have HI0 := n0_; have HK := n1_; have HB := n2_; clear n0_ n1_ n2_; (try clear hb); (try clear hb2); (try clear hk); (try clear hi); obtain ⟨HGz8, hgz8⟩ := HI0.out; have hcz8_0 := cellS71_0 HGz8; have hcz8_1 := cellS71_1 HGz8; have hcz8_2 := cellS71_2 HGz8; have hfz8_0 := blk_frozen HGz8 0; have hfz8_1 := blk_frozen HGz8 1; have hfz8_2 := blk_frozen HGz8 2; clear HGz8 hgz8))
      go_ret
      exact ⟨by first | rfl | (simp [errW_none, errW_some] <;> rfl) | (simp [*, errW_none, errW_some] <;> rfl), by repeat (first | (with_reducible first | exact HI0.out | apply IsS71.alloc | apply IsS71.drewN | apply IsS71.drew | apply IsS71.set_0 | apply IsS71.set_1 | apply IsS71.set_2) | exact HI0.out), by repeat (first | (with_reducible first | exact HB.out | apply below_alloc | apply pw_below_drewN | apply below_drew1 | refine below_set ?_ (IsS71.ge HI0.out)) | exact HB.out), by repeat (first | (with_reducible first | exact HK.out | apply KeepBut.set_ | apply keep_drewN | apply keep_drew | apply keep_alloc) | exact HK.out)⟩
    · replace c5 := Bool.eq_false_iff.mpr c5
      subst c5
      have H1 : (some (t431, t428, t429, false)) = some (r1, r2, r3, r4) := by rw [if_neg (show ¬ (false = true) by decide)] at H; exact H
      clear H
      have H := H1
      clear H1
      simp only [Option.some.injEq, Prod.mk.injEq] at H
      obtain ⟨rfl, rfl, rfl, rfl⟩ := H
      go_enter Tryz.func36, Tryz.ntmps36
      go_wp2_with (first | ((with_reducible refine gate_callee (f := 35) rfl ?_); refine goesL_ (some 7) rfl rfl Tryz.func35 (by kernel_rfl) rfl #[.pointer (some ⟨g, 0, none⟩)] rfl (by (try simp only [List.map_toArray, List.map_cons, List.map_nil]); first | done | rfl | (simp only [List.length_drop, List.length_take]; rfl)) ?_; (with_reducible refine (script_reader_text.calls g s0_0 s0_1 s0_2 t427 t428 t429 false w0 _ ?side1 ?side2 A2.out).mono ?_); (case side1 => repeat (first | (with_reducible first | exact HI0.out | apply IsS71.alloc | apply IsS71.drewN | apply IsS71.drew | apply IsS71.set_0 | apply IsS71.set_1 | apply IsS71.set_2) | exact HI0.out)); (case side2 => repeat (first | (with_reducible first | exact HB.out | apply below_alloc | apply pw_below_drewN | apply below_drew1 | refine below_set ?_ (IsS71.ge HI0.out)) | exact HB.out)); rintro e w9 ⟨rfl, hi, hb, hk⟩; refine ⟨_, rfl, ?_⟩; have n0_ := Aside0.mk (KeepBut.trans (by repeat (first | (with_reducible first | exact HK.out | apply KeepBut.set_ | apply keep_drewN | apply keep_drew | apply keep_alloc) | exact HK.out)) hk (.inl rfl)); have n1_ := Aside0.mk (hb); have n2_ := Aside0.mk (hi); clear HK; clear HB; clear HI0; have HK := n0_; have HB := n1_; have HI0 := n2_; clear n0_ n1_ n2_; (try clear hb); (try clear hb2); (try clear hk); (try clear hi)) | ((with_reducible refine gate_callee (f := 48) rfl ?_); refine goesL_ (some 8) rfl rfl Tryz.func48 (by kernel_rfl) rfl #[.string t427] rfl (by (try simp only [List.map_toArray, List.map_cons, List.map_nil]); first | done | rfl | (simp only [List.length_drop, List.length_take]; rfl)) ?_; (with_reducible refine (script_count.calls t427 t431 true _ A3.out).mono ?_); rintro e w10 ⟨rfl, hb⟩; refine ⟨_, rfl, ?_⟩; have n0_ := Aside0.mk (IsS71.below (by repeat (first | (with_reducible first | exact HI0.out | apply IsS71.alloc | apply IsS71.drewN | apply IsS71.drew | apply IsS71.set_0 | apply IsS71.set_1 | apply IsS71.set_2) | exact HI0.out)) hb); have n1_ := Aside0.mk (KeepBut.trans (by repeat (first | (with_reducible first | exact HK.out | apply KeepBut.set_ | apply keep_drewN | apply keep_drew | apply keep_alloc) | exact HK.out)) (KeepBut.of_below hb g none) (.inl rfl)); have n2_ := Aside0.mk (below_step (by repeat (first | (with_reducible first | exact HB.out | apply below_alloc | apply pw_below_drewN | apply below_drew1 | refine below_set ?_ (IsS71.ge HI0.out)) | exact HB.out)) hb); clear HI0; clear HK; clear HB; have HI0 := n0_; have HK := n1_; have HB := n2_; clear n0_ n1_ n2_; (try clear hb); (try clear hb2); (try clear hk); (try clear hi); obtain ⟨HGz11, hgz11⟩ := HI0.out; have hcz11_0 := cellS71_0 HGz11; have hcz11_1 := cellS71_1 HGz11; have hcz11_2 := cellS71_2 HGz11; have hfz11_0 := blk_frozen HGz11 0; have hfz11_1 := blk_frozen HGz11 1; have hfz11_2 := blk_frozen HGz11 2; clear HGz11 hgz11))
      go_ret
      exact ⟨by first | rfl | (simp [errW_none, errW_some] <;> rfl) | (simp [*, errW_none, errW_some] <;> rfl), by repeat (first | (with_reducible first | exact HI0.out | apply IsS71.alloc | apply IsS71.drewN | apply IsS71.drew | apply IsS71.set_0 | apply IsS71.set_1 | apply IsS71.set_2) | exact HI0.out), by repeat (first | (with_reducible first | exact HB.out | apply below_alloc | apply pw_below_drewN | apply below_drew1 | refine below_set ?_ (IsS71.ge HI0.out)) | exact HB.out), by repeat (first | (with_reducible first | exact HK.out | apply KeepBut.set_ | apply keep_drewN | apply keep_drew | apply keep_alloc) | exact HK.out)⟩
  · replace c4 := Bool.eq_false_iff.mpr c4
    subst c4
    have H1 : (some (0, t428, t429, true)) = some (r1, r2, r3, r4) := by rw [if_neg (show ¬ (false = true) by decide)] at H; exact H
    clear H
    have H := H1
    clear H1
    simp only [Option.some.injEq, Prod.mk.injEq] at H
    obtain ⟨rfl, rfl, rfl, rfl⟩ := H
    go_enter Tryz.func36, Tryz.ntmps36
    go_wp2_with (first | ((with_reducible refine gate_callee (f := 35) rfl ?_); refine goesL_ (some 7) rfl rfl Tryz.func35 (by kernel_rfl) rfl #[.pointer (some ⟨g, 0, none⟩)] rfl (by (try simp only [List.map_toArray, List.map_cons, List.map_nil]); first | done | rfl | (simp only [List.length_drop, List.length_take]; rfl)) ?_; (with_reducible refine (script_reader_text.calls g s0_0 s0_1 s0_2 t427 t428 t429 t430 w0 _ ?side1 ?side2 A2.out).mono ?_); (case side1 => repeat (first | (with_reducible first | exact HI0.out | apply IsS71.alloc | apply IsS71.drewN | apply IsS71.drew | apply IsS71.set_0 | apply IsS71.set_1 | apply IsS71.set_2) | exact HI0.out)); (case side2 => repeat (first | (with_reducible first | exact HB.out | apply below_alloc | apply pw_below_drewN | apply below_drew1 | refine below_set ?_ (IsS71.ge HI0.out)) | exact HB.out)); rintro e w12 ⟨rfl, hi, hb, hk⟩; refine ⟨_, rfl, ?_⟩; have n0_ := Aside0.mk (KeepBut.trans (by repeat (first | (with_reducible first | exact HK.out | apply KeepBut.set_ | apply keep_drewN | apply keep_drew | apply keep_alloc) | exact HK.out)) hk (.inl rfl)); have n1_ := Aside0.mk (hb); have n2_ := Aside0.mk (hi); clear HK; clear HB; clear HI0; have HK := n0_; have HB := n1_; have HI0 := n2_; clear n0_ n1_ n2_; (try clear hb); (try clear hb2); (try clear hk); (try clear hi)) | ((with_reducible refine gate_callee (f := 48) rfl ?_); refine goesL_ (some 8) rfl rfl Tryz.func48 (by kernel_rfl) rfl #[.string t427] rfl (by (try simp only [List.map_toArray, List.map_cons, List.map_nil]); first | done | rfl | (simp only [List.length_drop, List.length_take]; rfl)) ?_; (with_reducible refine (script_count.calls t427 t431 false _ A3.out).mono ?_); rintro e w13 ⟨rfl, hb⟩; refine ⟨_, rfl, ?_⟩; have n0_ := Aside0.mk (IsS71.below (by repeat (first | (with_reducible first | exact HI0.out | apply IsS71.alloc | apply IsS71.drewN | apply IsS71.drew | apply IsS71.set_0 | apply IsS71.set_1 | apply IsS71.set_2) | exact HI0.out)) hb); have n1_ := Aside0.mk (KeepBut.trans (by repeat (first | (with_reducible first | exact HK.out | apply KeepBut.set_ | apply keep_drewN | apply keep_drew | apply keep_alloc) | exact HK.out)) (KeepBut.of_below hb g none) (.inl rfl)); have n2_ := Aside0.mk (below_step (by repeat (first | (with_reducible first | exact HB.out | apply below_alloc | apply pw_below_drewN | apply below_drew1 | refine below_set ?_ (IsS71.ge HI0.out)) | exact HB.out)) hb); clear HI0; clear HK; clear HB; have HI0 := n0_; have HK := n1_; have HB := n2_; clear n0_ n1_ n2_; (try clear hb); (try clear hb2); (try clear hk); (try clear hi); obtain ⟨HGz14, hgz14⟩ := HI0.out; have hcz14_0 := cellS71_0 HGz14; have hcz14_1 := cellS71_1 HGz14; have hcz14_2 := cellS71_2 HGz14; have hfz14_0 := blk_frozen HGz14 0; have hfz14_1 := blk_frozen HGz14 1; have hfz14_2 := blk_frozen HGz14 2; clear HGz14 hgz14))
    go_ret
    exact ⟨by first | rfl | (simp [errW_none, errW_some] <;> rfl) | (simp [*, errW_none, errW_some] <;> rfl), by repeat (first | (with_reducible first | exact HI0.out | apply IsS71.alloc | apply IsS71.drewN | apply IsS71.drew | apply IsS71.set_0 | apply IsS71.set_1 | apply IsS71.set_2) | exact HI0.out), by repeat (first | (with_reducible first | exact HB.out | apply below_alloc | apply pw_below_drewN | apply below_drew1 | refine below_set ?_ (IsS71.ge HI0.out)) | exact HB.out), by repeat (first | (with_reducible first | exact HK.out | apply KeepBut.set_ | apply keep_drewN | apply keep_drew | apply keep_alloc) | exact HK.out)⟩
end Go.Proofs.YtdhpcofnddkcaaaGreatDoor.S
