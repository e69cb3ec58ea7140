/- a number that is written as it is, is written as its digits (Text 3 of 3: what the law's proof rests on, joined; walks printed by the kit's print over given contracts, walks and plain laws by hand.) -/
import Derived.Test.YtonjkoeacedaiaaDoorProg
import Derived.Below
import Derived.Deep.Draws
import Derived.Deep.AppendLies
import Derived.Maps.AppendAt
import Derived.OwnWalk
import Derived.Laws.BytesArg
import Derived.Laws.MakeOwn
import Derived.Laws.OwnMore
import Derived.Deep.OwnRows
import Derived.Tactics
import Derived.Lib.ConvBytes
import Derived.Laws.Slices
import Derived.WalkKit
import Derived.KernelRfl
import Derived.RowKit3
import Derived.Deep.LoopGhost
import Derived.Deep.QuietTactic
import Derived.BigQuiet
import Derived.WideLaws
import Derived.Deep.DeepCutAuto
import Derived.Deep.CutBlock
import Derived.Deep.RegionHeld3
import Derived.Laws.Rows
import Derived.Lib.AppendStr
import Derived.ArgAppend
import Derived.Laws.IdiomCopy
import Derived.OrdersHeld
import Derived.Laws.BitsLemmas
import Derived.RowKit
import Derived.Laws.Cover1
import Derived.Test.YtonjkoeacedaiaaDoorNsm0
import Derived.Test.YtonjkoeacedaiaaDoorNsm1
namespace Go.Proofs.YtonjkoeacedaiaaDoor
open Go.RowKit Go.Proofs.YtonjkoeacedaiaaDoor.M Go.Proofs.YtonjkoeacedaiaaDoorW.PrintWords Go.Proofs.YtonjkoeacedaiaaDoorW.PrintLast
set_option linter.unusedVariables false
set_option linter.unusedSimpArgs false
def head12_end.T : Bool × List (List Nat × List Nat) := (true, [([], []), ([], []), ([], []), ([0, 1, 2, 2], [0, 1, 2]), ([3], [3]), ([4, 3], [4]), ([5], [5]), ([5], [5]), ([5, 5], [5]), ([6, 7, 8, 8, 5], [5, 6, 7, 8]), ([9, 5], [5, 9]), ([5, 10], [5, 10]), ([11, 9], [11]), ([12], [12]), ([13, 12, 12], [12, 13]), ([14, 12], [12, 14]), ([12, 15], [12, 15]), ([16, 14, 0, 1, 2, 3, 4, 5, 6, 7, 8, 9, 10, 11, 12, 13, 14, 15, 16], [16])])
def head12_end.B : List Nat := [0, 0, 0, 7, 15, 31, 63, 63, 63, 511, 1023, 2047, 4095, 8191, 16383, 32767, 65535, 131071]
theorem head12_end.tab : rtab .any (opsOf Tryd.f26 3) = head12_end.T := by kernel_rfl
theorem head12_end.bits : waitsOk head12_end.T.2 head12_end.B = true := by kernel_rfl
set_option maxRecDepth 100000 in
set_option maxHeartbeats 4000000 in
theorem head12_end (w0 : World) (a0 : Act) (s1 : a0.tmps[1]? = some (.pointer (some ⟨w0.heap.size, 0, none⟩))) (s2 : a0.tmps[2]? = some (.pointer (some ⟨w0.heap.size + 1, 0, none⟩))) (hsz : a0.tmps.size = Tryd.f26.ntmps) (W : World) (hI : Hd w0 (if (fun _ => false) 9 = true then 2 else if (fun _ => false) 3 = true then 1 else 0) W.drew) (Q : Exit → Act → World → Prop) (hend : ∀ (a9 : Act) w', Hd w0 (if (fun _ => true) 9 = true then 2 else if (fun _ => true) 3 = true then 1 else 0) w' → a9 = putSel a0 (fun _ => true) [(0, 6, .pointer (some ⟨w0.heap.size, 0, none⟩)), (1, 7, .agg #[.bool false, .string d5, .int .i64 1]), (2, 8, .agg #[.int .i64 1, .int .i64 0, .int .i64 3, .bool false, .bool false]), (3, 9, .string ⟨#[49, 44, 50, 51, 52, 46, 53]⟩), (4, 10, .bool true), (5, 11, .bool true), (6, 12, .pointer (some ⟨w0.heap.size, 0, none⟩)), (7, 13, .agg #[.bool false, .string d5, .int .i64 1]), (8, 14, .agg #[.int .i64 1, .int .i64 0, .int .i64 3, .bool false, .bool false]), (9, 15, .string ⟨#[49, 46, 50, 51, 52, 44, 53]⟩), (10, 16, .bool true), (11, 17, .bool true), (12, 18, .bool true), (13, 19, .pointer (some ⟨w0.heap.size, 0, none⟩)), (14, 20, .int .i64 2), (15, 21, .bool true), (16, 22, .bool true), (17, 0, .bool true)] → a9.defers = a0.defers → a9.tmps[0]? = some (.bool true) → Q .normal a9 w') :
    (Code.region 3 #[{ dst := some 6, op := Op.move (Operand.tmp 1), type := 38, pos := "law.go:15", after := #[], guard := none }, { dst := some 7, op := Op.load 23 (Operand.tmp 2), type := 23, pos := "law.go:15", after := #[], guard := none }, { dst := some 8, op := Op.call { callee := Callee.value (Operand.func 27), args := #[], argTypes := #[] }, type := 36, pos := "law.go:15", after := #[], guard := none }, { dst := some 9, op := Op.call { callee := Callee.value (Operand.func 33), args := #[Operand.tmp 6, Operand.const (Value.string { data := #[101, 110] }), Operand.tmp 7, Operand.tmp 8], argTypes := #[38, 9, 23, 36] }, type := 9, pos := "law.go:15", after := #[{ on := 0, ground := Ground.data }, { on := 1, ground := Ground.data }, { on := 2, ground := Ground.data }, { on := 2, ground := Ground.chain }], guard := none }, { dst := some 10, op := Op.binOp BinOp.eql 9 (Operand.tmp 9) (Operand.const (Value.string { data := #[49, 44, 50, 51, 52, 46, 53] })) 9, type := 4, pos := "law.go:15", after := #[{ on := 3, ground := Ground.data }], guard := none }, { dst := some 11, op := Op.move (Operand.tmp 10), type := 4, pos := "law.go:15", after := #[{ on := 4, ground := Ground.data }, { on := 3, ground := Ground.chain }], guard := none }, { dst := some 12, op := Op.move (Operand.tmp 1), type := 38, pos := "law.go:15", after := #[{ on := 5, ground := Ground.guard }], guard := some (5, true) }, { dst := some 13, op := Op.load 23 (Operand.tmp 2), type := 23, pos := "law.go:15", after := #[{ on := 5, ground := Ground.guard }], guard := some (5, true) }, { dst := some 14, op := Op.call { callee := Callee.value (Operand.func 27), args := #[], argTypes := #[] }, type := 36, pos := "law.go:15", after := #[{ on := 5, ground := Ground.chain }, { on := 5, ground := Ground.guard }], guard := some (5, true) }, { dst := some 15, op := Op.call { callee := Callee.value (Operand.func 33), args := #[Operand.tmp 12, Operand.const (Value.string { data := #[100, 101] }), Operand.tmp 13, Operand.tmp 14], argTypes := #[38, 9, 23, 36] }, type := 9, pos := "law.go:15", after := #[{ on := 6, ground := Ground.data }, { on := 7, ground := Ground.data }, { on := 8, ground := Ground.data }, { on := 8, ground := Ground.chain }, { on := 5, ground := Ground.guard }], guard := some (5, true) }, { dst := some 16, op := Op.binOp BinOp.eql 9 (Operand.tmp 15) (Operand.const (Value.string { data := #[49, 46, 50, 51, 52, 44, 53] })) 9, type := 4, pos := "law.go:15", after := #[{ on := 9, ground := Ground.data }, { on := 5, ground := Ground.guard }], guard := some (5, true) }, { dst := some 17, op := Op.pick (Operand.tmp 11) (Operand.tmp 16) (Operand.const (Value.bool false)), type := 4, pos := "law.go:15", after := #[{ on := 5, ground := Ground.data }, { on := 10, ground := Ground.data }], guard := none }, { dst := some 18, op := Op.move (Operand.tmp 17), type := 4, pos := "law.go:15", after := #[{ on := 11, ground := Ground.data }, { on := 9, ground := Ground.chain }], guard := none }, { dst := some 19, op := Op.move (Operand.tmp 1), type := 38, pos := "law.go:15", after := #[{ on := 12, ground := Ground.guard }], guard := some (12, true) }, { dst := some 20, op := Op.call { callee := Callee.value (Operand.func 45), args := #[Operand.tmp 19], argTypes := #[38] }, type := 2, pos := "law.go:15", after := #[{ on := 13, ground := Ground.data }, { on := 12, ground := Ground.chain }, { on := 12, ground := Ground.guard }], guard := some (12, true) }, { dst := some 21, op := Op.binOp BinOp.eql 2 (Operand.tmp 20) (Operand.const (Value.int IntKind.i64 2)) 2, type := 4, pos := "law.go:15", after := #[{ on := 14, ground := Ground.data }, { on := 12, ground := Ground.guard }], guard := some (12, true) }, { dst := some 22, op := Op.pick (Operand.tmp 18) (Operand.tmp 21) (Operand.const (Value.bool false)), type := 4, pos := "law.go:15", after := #[{ on := 12, ground := Ground.data }, { on := 15, ground := Ground.data }], guard := none }, { dst := some 0, op := Op.assign (Operand.tmp 22), type := 4, pos := "law.go:15", after := #[{ on := 16, ground := Ground.data }, { on := 14, ground := Ground.chain }, { on := 0, ground := Ground.phase }, { on := 1, ground := Ground.phase }, { on := 2, ground := Ground.phase }, { on := 3, ground := Ground.phase }, { on := 4, ground := Ground.phase }, { on := 5, ground := Ground.phase }, { on := 6, ground := Ground.phase }, { on := 7, ground := Ground.phase }, { on := 8, ground := Ground.phase }, { on := 9, ground := Ground.phase }, { on := 10, ground := Ground.phase }, { on := 11, ground := Ground.phase }, { on := 12, ground := Ground.phase }, { on := 13, ground := Ground.phase }, { on := 14, ground := Ground.phase }, { on := 15, ground := Ground.phase }, { on := 16, ground := Ground.phase }], guard := none }] true).wp Tryd.prog Q a0 W := by
  refine start_ (n := 18) (S := fun w' => True) (ds := []) #[false, false, false, false, false, false, false, false, false, false, false, false, false, false, false, false, false, false] (by kernel_rfl) rfl rfl trivial (fun hHeld => ?_)
  refine with_tabW head12_end.tab head12_end.bits (fun HT_ HW_ => ?_)
  refine inv_at [0, 1, 2, 3, 4, 5, 6, 7, 8, 9, 10, 11, 12, 13, 14, 15, 16, 17] (fun a0_ b a w' => a = putSel a0_ b [(0, 6, .pointer (some ⟨w0.heap.size, 0, none⟩)), (1, 7, .agg #[.bool false, .string d5, .int .i64 1]), (2, 8, .agg #[.int .i64 1, .int .i64 0, .int .i64 3, .bool false, .bool false]), (3, 9, .string ⟨#[49, 44, 50, 51, 52, 46, 53]⟩), (4, 10, .bool true), (5, 11, .bool true), (6, 12, .pointer (some ⟨w0.heap.size, 0, none⟩)), (7, 13, .agg #[.bool false, .string d5, .int .i64 1]), (8, 14, .agg #[.int .i64 1, .int .i64 0, .int .i64 3, .bool false, .bool false]), (9, 15, .string ⟨#[49, 46, 50, 51, 52, 44, 53]⟩), (10, 16, .bool true), (11, 17, .bool true), (12, 18, .bool true), (13, 19, .pointer (some ⟨w0.heap.size, 0, none⟩)), (14, 20, .int .i64 2), (15, 21, .bool true), (16, 22, .bool true), (17, 0, .bool true)] ∧ (Hd w0 (if b 9 = true then 2 else if b 3 = true then 1 else 0) w')) HT_.out HW_.out (by kernel_rfl) (by kernel_rfl) ?_ ?_ ?_
  · exact ⟨(by simp only [putSel, Bool.false_eq_true, if_false]), hI⟩
  · clear hI hend hHeld
    refine steps_cons ?_ ?_
    · rintro b a w' ⟨ha, hI⟩ hb_ hon hoff
      refine ⟨_, rfl, fun K hK => ?_⟩
      have e1 : a.tmps[1]? = some (.pointer (some ⟨w0.heap.size, 0, none⟩)) := by rw [ha]; exact (putSel_off rfl).trans s1
      replace ha := Aside0.mk ha
      obtain ⟨p0, p1, p2⟩ := hI.get
      refine value_ (w1 := w') (v := .pointer (some ⟨w0.heap.size, 0, none⟩)) (by rfl) rfl ?_ ?_
      · go_simp; try rfl
        all_goals (try (simp only [IntKind.wrap_i64]; omega))
      exact hK.out _ _ ⟨(by rw [ha.out]; exact putSel_upk 0 hb_ rfl rfl rfl), hI⟩
    refine steps_cons ?_ ?_
    · rintro b a w' ⟨ha, hI⟩ hb_ hon hoff
      refine ⟨_, rfl, fun K hK => ?_⟩
      have e2 : a.tmps[2]? = some (.pointer (some ⟨w0.heap.size + 1, 0, none⟩)) := by rw [ha]; exact (putSel_off rfl).trans s2
      replace ha := Aside0.mk ha
      obtain ⟨p0, p1, p2⟩ := hI.get
      refine value_ (w1 := w') (v := .agg #[.bool false, .string d5, .int .i64 1]) (by rfl) rfl ?_ ?_
      · go_simp; try rfl
        all_goals (try (simp only [IntKind.wrap_i64]; omega))
      exact hK.out _ _ ⟨(by rw [ha.out]; exact putSel_upk 1 hb_ rfl rfl rfl), hI⟩
    refine steps_cons ?_ ?_
    · rintro b a w' ⟨ha, hI⟩ hb_ hon hoff
      refine ⟨_, rfl, fun K hK => ?_⟩
      replace ha := Aside0.mk ha
      obtain ⟨p0, p1, p2⟩ := hI.get
      refine goes_ Tryd.func27 (by kernel_rfl) rfl #[] (by rfl) rfl rfl (by first | (simp only [List.map_toArray, List.map_cons, List.map_nil, Act.eval, Array.getD_eq_getD_getElem?, Option.getD_some, ]; done) | (simp only [List.map_toArray, List.map_cons, List.map_nil, Act.eval, Array.getD_eq_getD_getElem?, Option.getD_some, ]; rfl)) ?_
      refine (default_any w').mono ?_
      rintro e w1 ⟨rfl, b1⟩; have hI1 := hI.step b1
      exact ⟨_, rfl, hK.out _ _ ⟨(by rw [ha.out]; exact putSel_upk 2 hb_ rfl rfl rfl), hI1⟩⟩
    refine steps_cons ?_ ?_
    · rintro b a w' ⟨ha, hI⟩ hb_ hon hoff
      refine ⟨_, rfl, fun K hK => ?_⟩
      have e6 : a.tmps[6]? = some (.pointer (some ⟨w0.heap.size, 0, none⟩)) := by rw [ha]; exact putSel_on (e := (0, 6, .pointer (some ⟨w0.heap.size, 0, none⟩))) 0 rfl rfl (hon 0 (by kernel_rfl)) (by rw [hsz]; rfl)
      have e7 : a.tmps[7]? = some (.agg #[.bool false, .string d5, .int .i64 1]) := by rw [ha]; exact putSel_on (e := (1, 7, .agg #[.bool false, .string d5, .int .i64 1])) 1 rfl rfl (hon 1 (by kernel_rfl)) (by rw [hsz]; rfl)
      have e8 : a.tmps[8]? = some (.agg #[.int .i64 1, .int .i64 0, .int .i64 3, .bool false, .bool false]) := by rw [ha]; exact putSel_on (e := (2, 8, .agg #[.int .i64 1, .int .i64 0, .int .i64 3, .bool false, .bool false])) 2 rfl rfl (hon 2 (by kernel_rfl)) (by rw [hsz]; rfl)
      replace ha := Aside0.mk ha
      obtain ⟨p0, p1, p2⟩ := hI.get
      refine goes_ Tryd.func33 (by kernel_rfl) rfl #[.pointer (some ⟨w0.heap.size, 0, none⟩), Go.Value.string { data := #[101, 110] }, .agg #[.bool false, .string d5, .int .i64 1], .agg #[.int .i64 1, .int .i64 0, .int .i64 3, .bool false, .bool false]] (by rfl) rfl rfl (by first | (simp only [List.map_toArray, List.map_cons, List.map_nil, Act.eval, Array.getD_eq_getD_getElem?, Option.getD_some, e6, e7, e8]; done) | (simp only [List.map_toArray, List.map_cons, List.map_nil, Act.eval, Array.getD_eq_getD_getElem?, Option.getD_some, e6, e7, e8]; rfl)) ?_
      refine (head_en (w := w0) (W := w') (by have h := hI; rw [hb_, show b 9 = false from hoff 9 (by kernel_rfl)] at h; exact h)).mono ?_
      rintro e w1 ⟨rfl, h1⟩; have hI1 : Hd w0 (if up b 3 9 = true then 2 else if up b 3 3 = true then 1 else 0) w1 := (by rw [show up b 3 9 = false from (up_ne (by decide)).trans (hoff 9 (by kernel_rfl))]; exact h1)
      exact ⟨_, rfl, hK.out _ _ ⟨(by rw [ha.out]; exact putSel_upk 3 hb_ rfl rfl rfl), hI1⟩⟩
    refine steps_cons ?_ ?_
    · rintro b a w' ⟨ha, hI⟩ hb_ hon hoff
      refine ⟨_, rfl, fun K hK => ?_⟩
      have e9 : a.tmps[9]? = some (.string ⟨#[49, 44, 50, 51, 52, 46, 53]⟩) := by rw [ha]; exact putSel_on (e := (3, 9, .string ⟨#[49, 44, 50, 51, 52, 46, 53]⟩)) 3 rfl rfl (hon 3 (by kernel_rfl)) (by rw [hsz]; rfl)
      replace ha := Aside0.mk ha
      obtain ⟨p0, p1, p2⟩ := hI.get
      refine value_ (w1 := w') (v := .bool true) (by rfl) rfl ?_ ?_
      · go_simp; try rfl
        all_goals (try (simp only [IntKind.wrap_i64]; omega))
      exact hK.out _ _ ⟨(by rw [ha.out]; exact putSel_upk 4 hb_ rfl rfl rfl), hI⟩
    refine steps_cons ?_ ?_
    · rintro b a w' ⟨ha, hI⟩ hb_ hon hoff
      refine ⟨_, rfl, fun K hK => ?_⟩
      have e10 : a.tmps[10]? = some (.bool true) := by rw [ha]; exact putSel_on (e := (4, 10, .bool true)) 4 rfl rfl (hon 4 (by kernel_rfl)) (by rw [hsz]; rfl)
      replace ha := Aside0.mk ha
      obtain ⟨p0, p1, p2⟩ := hI.get
      refine value_ (w1 := w') (v := .bool true) (by rfl) rfl ?_ ?_
      · go_simp; try rfl
        all_goals (try (simp only [IntKind.wrap_i64]; omega))
      exact hK.out _ _ ⟨(by rw [ha.out]; exact putSel_upk 5 hb_ rfl rfl rfl), hI⟩
    refine steps_cons ?_ ?_
    · rintro b a w' ⟨ha, hI⟩ hb_ hon hoff
      refine ⟨_, rfl, fun K hK => ?_⟩
      have e1 : a.tmps[1]? = some (.pointer (some ⟨w0.heap.size, 0, none⟩)) := by rw [ha]; exact (putSel_off rfl).trans s1
      have e11 : a.tmps[11]? = some (.bool true) := by rw [ha]; exact putSel_on (e := (5, 11, .bool true)) 5 rfl rfl (hon 5 (by kernel_rfl)) (by rw [hsz]; rfl)
      replace ha := Aside0.mk ha
      obtain ⟨p0, p1, p2⟩ := hI.get
      refine value_ (w1 := w') (v := .pointer (some ⟨w0.heap.size, 0, none⟩)) (wanted_on rfl rfl rfl e11) rfl ?_ ?_
      · go_simp; try rfl
        all_goals (try (simp only [IntKind.wrap_i64]; omega))
      exact hK.out _ _ ⟨(by rw [ha.out]; exact putSel_upk 6 hb_ rfl rfl rfl), hI⟩
    refine steps_cons ?_ ?_
    · rintro b a w' ⟨ha, hI⟩ hb_ hon hoff
      refine ⟨_, rfl, fun K hK => ?_⟩
      have e2 : a.tmps[2]? = some (.pointer (some ⟨w0.heap.size + 1, 0, none⟩)) := by rw [ha]; exact (putSel_off rfl).trans s2
      have e11 : a.tmps[11]? = some (.bool true) := by rw [ha]; exact putSel_on (e := (5, 11, .bool true)) 5 rfl rfl (hon 5 (by kernel_rfl)) (by rw [hsz]; rfl)
      replace ha := Aside0.mk ha
      obtain ⟨p0, p1, p2⟩ := hI.get
      refine value_ (w1 := w') (v := .agg #[.bool false, .string d5, .int .i64 1]) (wanted_on rfl rfl rfl e11) rfl ?_ ?_
      · go_simp; try rfl
        all_goals (try (simp only [IntKind.wrap_i64]; omega))
      exact hK.out _ _ ⟨(by rw [ha.out]; exact putSel_upk 7 hb_ rfl rfl rfl), hI⟩
    refine steps_cons ?_ ?_
    · rintro b a w' ⟨ha, hI⟩ hb_ hon hoff
      refine ⟨_, rfl, fun K hK => ?_⟩
      have e11 : a.tmps[11]? = some (.bool true) := by rw [ha]; exact putSel_on (e := (5, 11, .bool true)) 5 rfl rfl (hon 5 (by kernel_rfl)) (by rw [hsz]; rfl)
      replace ha := Aside0.mk ha
      obtain ⟨p0, p1, p2⟩ := hI.get
      refine goes_ Tryd.func27 (by kernel_rfl) rfl #[] (wanted_on rfl rfl rfl e11) rfl rfl (by first | (simp only [List.map_toArray, List.map_cons, List.map_nil, Act.eval, Array.getD_eq_getD_getElem?, Option.getD_some, ]; done) | (simp only [List.map_toArray, List.map_cons, List.map_nil, Act.eval, Array.getD_eq_getD_getElem?, Option.getD_some, ]; rfl)) ?_
      refine (default_any w').mono ?_
      rintro e w1 ⟨rfl, b1⟩; have hI1 := hI.step b1
      exact ⟨_, rfl, hK.out _ _ ⟨(by rw [ha.out]; exact putSel_upk 8 hb_ rfl rfl rfl), hI1⟩⟩
    refine steps_cons ?_ ?_
    · rintro b a w' ⟨ha, hI⟩ hb_ hon hoff
      refine ⟨_, rfl, fun K hK => ?_⟩
      have e12 : a.tmps[12]? = some (.pointer (some ⟨w0.heap.size, 0, none⟩)) := by rw [ha]; exact putSel_on (e := (6, 12, .pointer (some ⟨w0.heap.size, 0, none⟩))) 6 rfl rfl (hon 6 (by kernel_rfl)) (by rw [hsz]; rfl)
      have e13 : a.tmps[13]? = some (.agg #[.bool false, .string d5, .int .i64 1]) := by rw [ha]; exact putSel_on (e := (7, 13, .agg #[.bool false, .string d5, .int .i64 1])) 7 rfl rfl (hon 7 (by kernel_rfl)) (by rw [hsz]; rfl)
      have e14 : a.tmps[14]? = some (.agg #[.int .i64 1, .int .i64 0, .int .i64 3, .bool false, .bool false]) := by rw [ha]; exact putSel_on (e := (8, 14, .agg #[.int .i64 1, .int .i64 0, .int .i64 3, .bool false, .bool false])) 8 rfl rfl (hon 8 (by kernel_rfl)) (by rw [hsz]; rfl)
      have e11 : a.tmps[11]? = some (.bool true) := by rw [ha]; exact putSel_on (e := (5, 11, .bool true)) 5 rfl rfl (hon 5 (by kernel_rfl)) (by rw [hsz]; rfl)
      replace ha := Aside0.mk ha
      obtain ⟨p0, p1, p2⟩ := hI.get
      refine goes_ Tryd.func33 (by kernel_rfl) rfl #[.pointer (some ⟨w0.heap.size, 0, none⟩), Go.Value.string { data := #[100, 101] }, .agg #[.bool false, .string d5, .int .i64 1], .agg #[.int .i64 1, .int .i64 0, .int .i64 3, .bool false, .bool false]] (wanted_on rfl rfl rfl e11) rfl rfl (by first | (simp only [List.map_toArray, List.map_cons, List.map_nil, Act.eval, Array.getD_eq_getD_getElem?, Option.getD_some, e12, e13, e14]; done) | (simp only [List.map_toArray, List.map_cons, List.map_nil, Act.eval, Array.getD_eq_getD_getElem?, Option.getD_some, e12, e13, e14]; rfl)) ?_
      refine (head_de (w := w0) (W := w') (by have h := hI; rw [hb_, show b 3 = true from hon 3 (by kernel_rfl)] at h; exact h)).mono ?_
      rintro e w1 ⟨rfl, h1⟩; have hI1 : Hd w0 (if up b 9 9 = true then 2 else if up b 9 3 = true then 1 else 0) w1 := h1
      exact ⟨_, rfl, hK.out _ _ ⟨(by rw [ha.out]; exact putSel_upk 9 hb_ rfl rfl rfl), hI1⟩⟩
    refine steps_cons ?_ ?_
    · rintro b a w' ⟨ha, hI⟩ hb_ hon hoff
      refine ⟨_, rfl, fun K hK => ?_⟩
      have e15 : a.tmps[15]? = some (.string ⟨#[49, 46, 50, 51, 52, 44, 53]⟩) := by rw [ha]; exact putSel_on (e := (9, 15, .string ⟨#[49, 46, 50, 51, 52, 44, 53]⟩)) 9 rfl rfl (hon 9 (by kernel_rfl)) (by rw [hsz]; rfl)
      have e11 : a.tmps[11]? = some (.bool true) := by rw [ha]; exact putSel_on (e := (5, 11, .bool true)) 5 rfl rfl (hon 5 (by kernel_rfl)) (by rw [hsz]; rfl)
      replace ha := Aside0.mk ha
      obtain ⟨p0, p1, p2⟩ := hI.get
      refine value_ (w1 := w') (v := .bool true) (wanted_on rfl rfl rfl e11) rfl ?_ ?_
      · go_simp; try rfl
        all_goals (try (simp only [IntKind.wrap_i64]; omega))
      exact hK.out _ _ ⟨(by rw [ha.out]; exact putSel_upk 10 hb_ rfl rfl rfl), hI⟩
    refine steps_cons ?_ ?_
    · rintro b a w' ⟨ha, hI⟩ hb_ hon hoff
      refine ⟨_, rfl, fun K hK => ?_⟩
      have e11 : a.tmps[11]? = some (.bool true) := by rw [ha]; exact putSel_on (e := (5, 11, .bool true)) 5 rfl rfl (hon 5 (by kernel_rfl)) (by rw [hsz]; rfl)
      have e16 : a.tmps[16]? = some (.bool true) := by rw [ha]; exact putSel_on (e := (10, 16, .bool true)) 10 rfl rfl (hon 10 (by kernel_rfl)) (by rw [hsz]; rfl)
      replace ha := Aside0.mk ha
      obtain ⟨p0, p1, p2⟩ := hI.get
      refine value_ (w1 := w') (v := .bool true) (by rfl) rfl ?_ ?_
      · go_simp; try rfl
        all_goals (try (simp only [IntKind.wrap_i64]; omega))
      exact hK.out _ _ ⟨(by rw [ha.out]; exact putSel_upk 11 hb_ rfl rfl rfl), hI⟩
    refine steps_cons ?_ ?_
    · rintro b a w' ⟨ha, hI⟩ hb_ hon hoff
      refine ⟨_, rfl, fun K hK => ?_⟩
      have e17 : a.tmps[17]? = some (.bool true) := by rw [ha]; exact putSel_on (e := (11, 17, .bool true)) 11 rfl rfl (hon 11 (by kernel_rfl)) (by rw [hsz]; rfl)
      replace ha := Aside0.mk ha
      obtain ⟨p0, p1, p2⟩ := hI.get
      refine value_ (w1 := w') (v := .bool true) (by rfl) rfl ?_ ?_
      · go_simp; try rfl
        all_goals (try (simp only [IntKind.wrap_i64]; omega))
      exact hK.out _ _ ⟨(by rw [ha.out]; exact putSel_upk 12 hb_ rfl rfl rfl), hI⟩
    refine steps_cons ?_ ?_
    · rintro b a w' ⟨ha, hI⟩ hb_ hon hoff
      refine ⟨_, rfl, fun K hK => ?_⟩
      have e1 : a.tmps[1]? = some (.pointer (some ⟨w0.heap.size, 0, none⟩)) := by rw [ha]; exact (putSel_off rfl).trans s1
      have e18 : a.tmps[18]? = some (.bool true) := by rw [ha]; exact putSel_on (e := (12, 18, .bool true)) 12 rfl rfl (hon 12 (by kernel_rfl)) (by rw [hsz]; rfl)
      replace ha := Aside0.mk ha
      obtain ⟨p0, p1, p2⟩ := hI.get
      refine value_ (w1 := w') (v := .pointer (some ⟨w0.heap.size, 0, none⟩)) (wanted_on rfl rfl rfl e18) rfl ?_ ?_
      · go_simp; try rfl
        all_goals (try (simp only [IntKind.wrap_i64]; omega))
      exact hK.out _ _ ⟨(by rw [ha.out]; exact putSel_upk 13 hb_ rfl rfl rfl), hI⟩
    refine steps_cons ?_ ?_
    · rintro b a w' ⟨ha, hI⟩ hb_ hon hoff
      refine ⟨_, rfl, fun K hK => ?_⟩
      have e19 : a.tmps[19]? = some (.pointer (some ⟨w0.heap.size, 0, none⟩)) := by rw [ha]; exact putSel_on (e := (13, 19, .pointer (some ⟨w0.heap.size, 0, none⟩))) 13 rfl rfl (hon 13 (by kernel_rfl)) (by rw [hsz]; rfl)
      have e18 : a.tmps[18]? = some (.bool true) := by rw [ha]; exact putSel_on (e := (12, 18, .bool true)) 12 rfl rfl (hon 12 (by kernel_rfl)) (by rw [hsz]; rfl)
      replace ha := Aside0.mk ha
      obtain ⟨p0, p1, p2⟩ := hI.get
      refine goes_ Tryd.func45 (by kernel_rfl) rfl #[.pointer (some ⟨w0.heap.size, 0, none⟩)] (wanted_on rfl rfl rfl e18) rfl rfl (by first | (simp only [List.map_toArray, List.map_cons, List.map_nil, Act.eval, Array.getD_eq_getD_getElem?, Option.getD_some, e19]; done) | (simp only [List.map_toArray, List.map_cons, List.map_nil, Act.eval, Array.getD_eq_getD_getElem?, Option.getD_some, e19]; rfl)) ?_
      refine (asked_mks (b := w0.heap.size) (n := 2) (w := w') (by have h := hI.mks; rw [show b 9 = true from hon 9 (by kernel_rfl)] at h; exact h)).mono ?_
      rintro e w1 ⟨rfl, rfl⟩; have hI1 := hI
      exact ⟨_, rfl, hK.out _ _ ⟨(by rw [ha.out]; exact putSel_upk 14 hb_ rfl rfl rfl), hI1⟩⟩
    refine steps_cons ?_ ?_
    · rintro b a w' ⟨ha, hI⟩ hb_ hon hoff
      refine ⟨_, rfl, fun K hK => ?_⟩
      have e20 : a.tmps[20]? = some (.int .i64 2) := by rw [ha]; exact putSel_on (e := (14, 20, .int .i64 2)) 14 rfl rfl (hon 14 (by kernel_rfl)) (by rw [hsz]; rfl)
      have e18 : a.tmps[18]? = some (.bool true) := by rw [ha]; exact putSel_on (e := (12, 18, .bool true)) 12 rfl rfl (hon 12 (by kernel_rfl)) (by rw [hsz]; rfl)
      replace ha := Aside0.mk ha
      obtain ⟨p0, p1, p2⟩ := hI.get
      refine value_ (w1 := w') (v := .bool true) (wanted_on rfl rfl rfl e18) rfl ?_ ?_
      · go_simp; try rfl
        all_goals (try (simp only [IntKind.wrap_i64]; omega))
      exact hK.out _ _ ⟨(by rw [ha.out]; exact putSel_upk 15 hb_ rfl rfl rfl), hI⟩
    refine steps_cons ?_ ?_
    · rintro b a w' ⟨ha, hI⟩ hb_ hon hoff
      refine ⟨_, rfl, fun K hK => ?_⟩
      have e18 : a.tmps[18]? = some (.bool true) := by rw [ha]; exact putSel_on (e := (12, 18, .bool true)) 12 rfl rfl (hon 12 (by kernel_rfl)) (by rw [hsz]; rfl)
      have e21 : a.tmps[21]? = some (.bool true) := by rw [ha]; exact putSel_on (e := (15, 21, .bool true)) 15 rfl rfl (hon 15 (by kernel_rfl)) (by rw [hsz]; rfl)
      replace ha := Aside0.mk ha
      obtain ⟨p0, p1, p2⟩ := hI.get
      refine value_ (w1 := w') (v := .bool true) (by rfl) rfl ?_ ?_
      · go_simp; try rfl
        all_goals (try (simp only [IntKind.wrap_i64]; omega))
      exact hK.out _ _ ⟨(by rw [ha.out]; exact putSel_upk 16 hb_ rfl rfl rfl), hI⟩
    refine steps_cons ?_ ?_
    · rintro b a w' ⟨ha, hI⟩ hb_ hon hoff
      refine ⟨_, rfl, fun K hK => ?_⟩
      have e22 : a.tmps[22]? = some (.bool true) := by rw [ha]; exact putSel_on (e := (16, 22, .bool true)) 16 rfl rfl (hon 16 (by kernel_rfl)) (by rw [hsz]; rfl)
      replace ha := Aside0.mk ha
      obtain ⟨p0, p1, p2⟩ := hI.get
      refine value_ (w1 := w') (v := .bool true) (by rfl) rfl ?_ ?_
      · go_simp; try rfl
        all_goals (try (simp only [IntKind.wrap_i64]; omega))
      exact hK.out _ _ ⟨(by rw [ha.out]; exact putSel_upk 17 hb_ rfl rfl rfl), hI⟩
    exact steps_nil
  rintro b a w1 hall ⟨ha, hI1⟩
  simp only [hall 3 (by kernel_rfl), hall 9 (by kernel_rfl)] at hI1
  exact hend a w1 hI1 (by rw [ha]; simp only [putSel, if_true, hall 0 (by kernel_rfl), hall 1 (by kernel_rfl), hall 2 (by kernel_rfl), hall 3 (by kernel_rfl), hall 4 (by kernel_rfl), hall 5 (by kernel_rfl), hall 6 (by kernel_rfl), hall 7 (by kernel_rfl), hall 8 (by kernel_rfl), hall 9 (by kernel_rfl), hall 10 (by kernel_rfl), hall 11 (by kernel_rfl), hall 12 (by kernel_rfl), hall 13 (by kernel_rfl), hall 14 (by kernel_rfl), hall 15 (by kernel_rfl), hall 16 (by kernel_rfl), hall 17 (by kernel_rfl)]) (by rw [ha]; exact (putSel_size b _ a0).2) (by rw [ha]; exact putSel_on (e := (17, 0, .bool true)) 17 rfl rfl (hall 17 (by kernel_rfl)) (by rw [hsz]; rfl))
end Go.Proofs.YtonjkoeacedaiaaDoor
namespace Go.Proofs.YtonjkoeacedaiaaDoor
open Go.RowKit Go.Proofs.YtonjkoeacedaiaaDoor.M
open Go.Proofs.YtonjkoeacedaiaaDoorW.PrintWords Go.Proofs.YtonjkoeacedaiaaDoorW.PrintLast
set_option linter.unusedVariables false
set_option linter.unusedSimpArgs false
theorem mks_new (w : World) : Mks w.heap.size 0 (w.alloc (.cells (mkc 0 0 0 none none) 56)) := .inl ⟨⟨heap_alloc_new w _⟩, rfl⟩
theorem Hd.start (w : World) : Hd w 0 ((w.alloc (.cells (mkc 0 0 0 none none) 56)).alloc (.cells #[.bool false, .string d5, .int .i64 1] 23)) := by
  have h1 := mks_new w
  have z1 : (w.alloc (.cells (mkc 0 0 0 none none) 56)).heap.size = w.heap.size + 1 := by simp
  have b1 := (Below.refl w.heap.size w).alloc (Nat.le_refl _) (.cells (mkc 0 0 0 none none) 56)
  generalize w.alloc (.cells (mkc 0 0 0 none none) 56) = U at *
  have m2 := heap_alloc_new U (.cells #[.bool false, .string d5, .int .i64 1] 23)
  rw [z1] at m2
  exact ⟨h1.step ((Below.refl _ _).alloc (Nat.le_refl _) _), m2, b1.alloc (by rw [z1]; omega) _⟩
set_option maxRecDepth 100000 in
set_option maxHeartbeats 4000000 in
theorem head12_any (w : World) : Calls Tryd.prog 26 #[] w fun e w' => e = .returned (.bool true) ∧ Below w.heap.size w w' := by
  have hS := Hd.start w
  go_enter Tryd.func26, Tryd.ntmps26
  go_wp2
  refine head12_end w _ rfl rfl rfl _ hS.drew _ ?_
  intro a9 w9 h9 ha9 hd9 h0
  have bel := h9.bel
  clear ha9 hS h9
  go_wp2
  exact bodyPost_ret (results_tmp rfl _ _ _) hd9 ⟨by rw [Array.getD_eq_getD_getElem?, h0]; rfl, bel⟩
end Go.Proofs.YtonjkoeacedaiaaDoor
namespace Go.Proofs.YtonjkoeacedaiaaDoor
open Go.RowKit Go.Proofs.YtonjkoeacedaiaaDoor.M
set_option linter.unusedVariables false
set_option linter.unusedSimpArgs false
structure Nb (w : World) (n : Bool) (D : ByteArray) (k : Int) (W : World) : Prop where
  blk : W.heap[w.heap.size]? = some (.cells #[.bool n, .string D, .int .i64 k] 23 (0, 0))
  bel : Below w.heap.size w W
theorem Nb.step {w W W1 : World} {n : Bool} {D : ByteArray} {k : Int} (h : Nb w n D k W) (c : Below W.heap.size W W1) : Nb w n D k W1 := ⟨below_blockOf c (Nat.le_refl _) h.blk, below_on h.bel c h.bel.size⟩
theorem Nb.get {w W : World} {n : Bool} {D : ByteArray} {k : Int} (h : Nb w n D k W) : W.cell? ⟨w.heap.size, 0, none⟩ = some (.bool n) ∧ W.cell? ⟨w.heap.size, 1, none⟩ = some (.string D) ∧ W.cell? ⟨w.heap.size, 2, none⟩ = some (.int .i64 k) :=
  ⟨(Lib.cell_of_heap h.blk 0).trans rfl, (Lib.cell_of_heap h.blk 1).trans rfl, (Lib.cell_of_heap h.blk 2).trans rfl⟩
theorem Nb.start (w : World) (n : Bool) (D : ByteArray) (k : Int) : Nb w n D k (w.alloc (.cells #[.bool n, .string D, .int .i64 k] 23)) := ⟨heap_alloc_new w _, (Below.refl _ _).alloc (Nat.le_refl _) _⟩
structure Np (w : World) (g : Nat) (cnt : Int) (n : Bool) (D : ByteArray) (k : Int) (W : World) : Prop where
  blk : W.heap[w.heap.size]? = some (.cells #[.bool n, .string D, .int .i64 k] 23 (0, 0))
  o : W.heap[g]? = some (.cells #[.int .i64 1, .int .i64 0, .int .i64 3, .bool false, .bool false] 36 (0, 0))
  p : W.heap[g + 1]? = some (.cells #[.int .i64 1, .int .i64 0, .int .i64 3, .bool true, .bool false] 36 (0, 0))
  mks : Mks (g + 1 + 1) cnt W
  lt : w.heap.size < g
  bel : Below w.heap.size w W
section
variable {w W : World} {g : Nat} {cnt k : Int} {n : Bool} {D : ByteArray}
theorem Np.step {W1 : World} (h : Np w g cnt n D k W) (c : Below W.heap.size W W1) : Np w g cnt n D k W1 :=
  ⟨below_blockOf c (Nat.le_refl _) h.blk, below_blockOf c (Nat.le_refl _) h.o, below_blockOf c (Nat.le_refl _) h.p, h.mks.step c, h.lt, below_on h.bel c h.bel.size⟩
theorem Np.of {W1 : World} {c1 : Int} (h : Np w g cnt n D k W) (hm : Mks (g + 1 + 1) c1 W1) (hg : W.grownBy W1 (some (g + 1 + 1))) : Np w g c1 n D k W1 :=
  ⟨(hg.block _ (Array.getElem?_eq_some_iff.1 h.blk).1 (fun e => by have := Option.some.inj e; have := h.lt; omega)).trans h.blk, (hg.block _ (Array.getElem?_eq_some_iff.1 h.o).1 (fun e => by have := Option.some.inj e; omega)).trans h.o,
    (hg.block _ (Array.getElem?_eq_some_iff.1 h.p).1 (fun e => by have := Option.some.inj e; omega)).trans h.p, hm, h.lt, below_grown h.bel hg (by have := h.lt; omega) (Nat.le_refl _)⟩
theorem Np.get (h : Np w g cnt n D k W) : (W.cell? ⟨w.heap.size, 0, none⟩ = some (.bool n) ∧ W.cell? ⟨w.heap.size, 1, none⟩ = some (.string D) ∧ W.cell? ⟨w.heap.size, 2, none⟩ = some (.int .i64 k)) ∧
    (W.cell? ⟨g, 0, none⟩ = some (.int .i64 1) ∧ W.cell? ⟨g, 1, none⟩ = some (.int .i64 0) ∧ W.cell? ⟨g, 2, none⟩ = some (.int .i64 3) ∧ W.cell? ⟨g, 3, none⟩ = some (.bool false) ∧ W.cell? ⟨g, 4, none⟩ = some (.bool false)) ∧
    (W.cell? ⟨g + 1, 0, none⟩ = some (.int .i64 1) ∧ W.cell? ⟨g + 1, 1, none⟩ = some (.int .i64 0) ∧ W.cell? ⟨g + 1, 2, none⟩ = some (.int .i64 3) ∧ W.cell? ⟨g + 1, 3, none⟩ = some (.bool true) ∧ W.cell? ⟨g + 1, 4, none⟩ = some (.bool false)) :=
  ⟨⟨(Lib.cell_of_heap h.blk 0).trans rfl, (Lib.cell_of_heap h.blk 1).trans rfl, (Lib.cell_of_heap h.blk 2).trans rfl⟩, ⟨(Lib.cell_of_heap h.o 0).trans rfl, (Lib.cell_of_heap h.o 1).trans rfl, (Lib.cell_of_heap h.o 2).trans rfl, (Lib.cell_of_heap h.o 3).trans rfl, (Lib.cell_of_heap h.o 4).trans rfl⟩,
    (Lib.cell_of_heap h.p 0).trans rfl, (Lib.cell_of_heap h.p 1).trans rfl, (Lib.cell_of_heap h.p 2).trans rfl, (Lib.cell_of_heap h.p 3).trans rfl, (Lib.cell_of_heap h.p 4).trans rfl⟩
theorem Np.start {V : World} (h : Nb w n D k V) : Np w V.heap.size 0 n D k (((V.alloc (.cells #[.int .i64 1, .int .i64 0, .int .i64 3, .bool false, .bool false] 36)).alloc (.cells #[.int .i64 1, .int .i64 0, .int .i64 3, .bool true, .bool false] 36)).alloc (.cells (mkc 0 0 0 none none) 56)) := by
  have l0 := (Array.getElem?_eq_some_iff.1 h.blk).1
  have m1 := heap_alloc_new V (.cells #[.int .i64 1, .int .i64 0, .int .i64 3, .bool false, .bool false] 36)
  have z1 : (V.alloc (.cells #[.int .i64 1, .int .i64 0, .int .i64 3, .bool false, .bool false] 36)).heap.size = V.heap.size + 1 := by simp
  have b1 := (Below.refl V.heap.size V).alloc (Nat.le_refl _) (.cells #[.int .i64 1, .int .i64 0, .int .i64 3, .bool false, .bool false] 36)
  generalize V.alloc (.cells #[.int .i64 1, .int .i64 0, .int .i64 3, .bool false, .bool false] 36) = U at *
  have m2 := heap_alloc_new U (.cells #[.int .i64 1, .int .i64 0, .int .i64 3, .bool true, .bool false] 36)
  have z2 : (U.alloc (.cells #[.int .i64 1, .int .i64 0, .int .i64 3, .bool true, .bool false] 36)).heap.size = V.heap.size + 1 + 1 := by simp [z1]
  have b2 := (Below.refl U.heap.size U).alloc (Nat.le_refl _) (.cells #[.int .i64 1, .int .i64 0, .int .i64 3, .bool true, .bool false] 36)
  rw [z1] at m2
  generalize U.alloc (.cells #[.int .i64 1, .int .i64 0, .int .i64 3, .bool true, .bool false] 36) = T at *
  have m3 := mks_new T
  rw [z2] at m3
  have b3 := (Below.refl T.heap.size T).alloc (Nat.le_refl _) (.cells (mkc 0 0 0 none none) 56)
  have h3 := ((h.step b1).step b2).step b3
  exact ⟨h3.blk, below_blockOf b3 (Nat.le_refl _) (below_blockOf b2 (Nat.le_refl _) m1), below_blockOf b3 (Nat.le_refl _) m2, m3, l0, h3.bel⟩
end
theorem fmC_size (lang E : ByteArray) (n : Bool) (K : Nat) (hE : E.size ≤ 900) : (fmC lang true n E K).size ≤ 3700 := by
  have h1 : (fmS lang true E K).size ≤ 900 := by unfold fmS; rw [if_pos rfl, ByteArray.size_extract]; omega
  have h2 := ptC_size lang
  have h3 : (E.extract (E.size - K) E.size).size ≤ 900 := by rw [ByteArray.size_extract]; omega
  have h4 : (fmP lang true E K).size ≤ 1900 := by
    unfold fmP
    split
    · simp only [ByteArray.size_append]; omega
    · omega
  have h5 : (⟨#[45]⟩ : ByteArray).size = 1 := rfl
  unfold fmC
  split
  · simp only [ByteArray.size_append]; omega
  · omega
section
variable {w W : World} {g : Nat} {cnt k : Int} {n : Bool} {D : ByteArray}
theorem mks_lt {b : Nat} {c : Int} {W : World} (h : Mks b c W) : b < W.heap.size := by
  rcases h with ⟨h, _⟩ | ⟨p, g, h⟩
  · exact h.lt
  · exact h.ck.lt
structure Ns (w : World) (g gs : Nat) (cnt : Int) (n : Bool) (D : ByteArray) (k : Int) (E : ByteArray) (K : Int) (W : World) : Prop where
  np : Np w g cnt n D k W
  sb : W.heap[gs]? = some (.cells #[.bool n, .string E, .int .i64 K] 23 (0, 0))
  gn : gs ≠ g + 1 + 1
variable {gs : Nat} {E : ByteArray} {K : Int}
theorem Ns.start (h : Np w g cnt n D k W) (E : ByteArray) (K : Int) : Ns w g W.heap.size cnt n D k E K (W.alloc (.cells #[.bool n, .string E, .int .i64 K] 23)) :=
  ⟨h.step ((Below.refl _ _).alloc (Nat.le_refl _) _), heap_alloc_new W _, by have := mks_lt h.mks; omega⟩
theorem Ns.step {W1 : World} (h : Ns w g gs cnt n D k E K W) (c : Below W.heap.size W W1) : Ns w g gs cnt n D k E K W1 := ⟨h.np.step c, below_blockOf c (Nat.le_refl _) h.sb, h.gn⟩
theorem Ns.of {W1 : World} {c1 : Int} (h : Ns w g gs cnt n D k E K W) (hm : Mks (g + 1 + 1) c1 W1) (hg : W.grownBy W1 (some (g + 1 + 1))) : Ns w g gs c1 n D k E K W1 :=
  ⟨h.np.of hm hg, (hg.block _ (Array.getElem?_eq_some_iff.1 h.sb).1 (fun e => h.gn (Option.some.inj e))).trans h.sb, h.gn⟩
theorem Ns.get (h : Ns w g gs cnt n D k E K W) : W.cell? ⟨gs, 0, none⟩ = some (.bool n) ∧ W.cell? ⟨gs, 1, none⟩ = some (.string E) ∧ W.cell? ⟨gs, 2, none⟩ = some (.int .i64 K) :=
  ⟨(Lib.cell_of_heap h.sb 0).trans rfl, (Lib.cell_of_heap h.sb 1).trans rfl, (Lib.cell_of_heap h.sb 2).trans rfl⟩
end
end Go.Proofs.YtonjkoeacedaiaaDoor
namespace Go.Proofs.YtonjkoeacedaiaaDoor
open Go.RowKit Go.Proofs.YtonjkoeacedaiaaDoor.M
set_option linter.unusedVariables false
set_option linter.unusedSimpArgs false
structure Nq (w : World) (g : Nat) (cnt : Int) (n : Bool) (D : ByteArray) (k : Int) (W : World) : Prop where
  blk : W.heap[w.heap.size]? = some (.cells #[.bool n, .string D, .int .i64 k] 23 (0, 0))
  o : W.heap[g]? = some (.cells #[.int .i64 1, .int .i64 k, .int .i64 k, .bool true, .bool false] 36 (0, 0))
  mks : Mks (g + 1) cnt W
  lt : w.heap.size < g
  bel : Below w.heap.size w W
section
variable {w W : World} {g : Nat} {cnt k : Int} {n : Bool} {D : ByteArray}
theorem Nq.step {W1 : World} (h : Nq w g cnt n D k W) (c : Below W.heap.size W W1) : Nq w g cnt n D k W1 :=
  ⟨below_blockOf c (Nat.le_refl _) h.blk, below_blockOf c (Nat.le_refl _) h.o, h.mks.step c, h.lt, below_on h.bel c h.bel.size⟩
theorem Nq.of {W1 : World} {c1 : Int} (h : Nq w g cnt n D k W) (hm : Mks (g + 1) c1 W1) (hg : W.grownBy W1 (some (g + 1))) : Nq w g c1 n D k W1 :=
  ⟨(hg.block _ (Array.getElem?_eq_some_iff.1 h.blk).1 (fun e => by have := Option.some.inj e; have := h.lt; omega)).trans h.blk, (hg.block _ (Array.getElem?_eq_some_iff.1 h.o).1 (fun e => by have := Option.some.inj e; omega)).trans h.o,
    hm, h.lt, below_grown h.bel hg (by have := h.lt; omega) (Nat.le_refl _)⟩
theorem Nq.get (h : Nq w g cnt n D k W) : (W.cell? ⟨w.heap.size, 0, none⟩ = some (.bool n) ∧ W.cell? ⟨w.heap.size, 1, none⟩ = some (.string D) ∧ W.cell? ⟨w.heap.size, 2, none⟩ = some (.int .i64 k)) ∧
    (W.cell? ⟨g, 0, none⟩ = some (.int .i64 1) ∧ W.cell? ⟨g, 1, none⟩ = some (.int .i64 k) ∧ W.cell? ⟨g, 2, none⟩ = some (.int .i64 k) ∧ W.cell? ⟨g, 3, none⟩ = some (.bool true) ∧ W.cell? ⟨g, 4, none⟩ = some (.bool false)) :=
  ⟨⟨(Lib.cell_of_heap h.blk 0).trans rfl, (Lib.cell_of_heap h.blk 1).trans rfl, (Lib.cell_of_heap h.blk 2).trans rfl⟩, (Lib.cell_of_heap h.o 0).trans rfl, (Lib.cell_of_heap h.o 1).trans rfl, (Lib.cell_of_heap h.o 2).trans rfl, (Lib.cell_of_heap h.o 3).trans rfl, (Lib.cell_of_heap h.o 4).trans rfl⟩
theorem Nq.start {V : World} (h : Nb w n D k V) : Nq w V.heap.size 0 n D k ((V.alloc (.cells #[.int .i64 1, .int .i64 k, .int .i64 k, .bool true, .bool false] 36)).alloc (.cells (mkc 0 0 0 none none) 56)) := by
  have l0 := (Array.getElem?_eq_some_iff.1 h.blk).1
  have m1 := heap_alloc_new V (.cells #[.int .i64 1, .int .i64 k, .int .i64 k, .bool true, .bool false] 36)
  have z1 : (V.alloc (.cells #[.int .i64 1, .int .i64 k, .int .i64 k, .bool true, .bool false] 36)).heap.size = V.heap.size + 1 := by simp
  have b1 := (Below.refl V.heap.size V).alloc (Nat.le_refl _) (.cells #[.int .i64 1, .int .i64 k, .int .i64 k, .bool true, .bool false] 36)
  generalize V.alloc (.cells #[.int .i64 1, .int .i64 k, .int .i64 k, .bool true, .bool false] 36) = U at *
  have m2 := mks_new U
  rw [z1] at m2
  have b2 := (Below.refl U.heap.size U).alloc (Nat.le_refl _) (.cells (mkc 0 0 0 none none) 56)
  have h3 := (h.step b1).step b2
  exact ⟨h3.blk, below_blockOf b2 (Nat.le_refl _) m1, m2, l0, h3.bel⟩
end
def stP (E : ByteArray) (K : Nat) : ByteArray := if 0 < K then E.extract 0 (E.size - K) ++ (⟨#[46]⟩ ++ E.extract (E.size - K) E.size) else E.extract 0 (E.size - K)
def stC (n : Bool) (E : ByteArray) (K : Nat) : ByteArray := if n = true then ⟨#[45]⟩ ++ stP E K else stP E K
theorem cut1 (P : ByteArray) : (⟨#[45]⟩ ++ P : ByteArray).extract 1 (⟨#[45]⟩ ++ P : ByteArray).size = P := by
  apply ByteArray.ext
  rw [ByteArray.data_extract, ByteArray.data_append]
  apply Array.ext'
  rw [Array.toList_extract, Array.toList_append]
  show (45 :: P.data.toList).extract 1 _ = _
  rw [List.extract_eq_take_drop, List.drop_succ_cons, List.drop_zero]
  refine List.take_of_length_le ?_
  rw [ByteArray.size_append]
  show P.data.size ≤ 1 + P.data.size - 1
  omega
theorem stP_size (E : ByteArray) (K : Nat) (hE : E.size ≤ 900) : (stP E K).size ≤ 2000 := by
  have hX : (E.extract 0 (E.size - K)).size ≤ 900 := by rw [ByteArray.size_extract]; omega
  have hY : (E.extract (E.size - K) E.size).size ≤ 900 := by rw [ByteArray.size_extract]; omega
  have h5 : (⟨#[46]⟩ : ByteArray).size = 1 := rfl
  unfold stP
  split
  · simp only [ByteArray.size_append]; omega
  · omega
theorem same_form (n : Bool) (E : ByteArray) (K : Nat) : fmC ⟨#[101, 110]⟩ true n E K = if (n && !(Lib.trimB E.data.toList 48).isEmpty) = true then ⟨#[45]⟩ ++ stP E K else stP E K := by
  have hp : ptC ⟨#[101, 110]⟩ = ⟨#[46]⟩ := by kernel_rfl
  have h : fmP ⟨#[101, 110]⟩ true E K = stP E K := by
    unfold fmP stP fmS
    rw [hp]
    rfl
  unfold fmC
  rw [h]
set_option maxRecDepth 100000 in
set_option maxHeartbeats 4000000 in
theorem same_not (n : Bool) (D : ByteArray) (k : Int) (b : Bool) (hb : b = false ∨ 20 < k)
    (c1 : ∀ W, Calls Tryd.prog 18 #[decV n D k] W fun e w' => e = .returned (.bool b) ∧ Below W.heap.size W w') (w : World) :
    Calls Tryd.prog 11 #[decV n D k] w fun e w' => e = .returned (.bool true) ∧ Below w.heap.size w w' := by
  have h0 := Nb.start w n D k
  unfold decV at *
  go_enter Tryd.func11, Tryd.ntmps11
  go_upto_region 3 with (go_at_call 26; refine (head12_any _).mono ?_; rintro e W1 ⟨rfl, b1⟩; have h1 := h0.step b1)
  obtain ⟨p0, p1, p2⟩ := h1.get
  cases b with
  | false =>
    go_wp2_with (go_at_call 18; refine (c1 _).mono ?_; rintro e W2 ⟨rfl, b2⟩; have h2 := h1.step b2; obtain ⟨p0, p1, p2⟩ := h2.get)
    go_ret
    exact ⟨rfl, h2.bel⟩
  | true =>
    have g1 : decide (k > 20) = true := decide_eq_true (by rcases hb with h | h; (cases h); omega)
    go_wp2_with (go_at_call 18; refine (c1 _).mono ?_; rintro e W2 ⟨rfl, b2⟩; have h2 := h1.step b2; obtain ⟨p0, p1, p2⟩ := h2.get)
    go_ret
    exact ⟨rfl, h2.bel⟩
set_option maxRecDepth 100000 in
set_option maxHeartbeats 4000000 in
theorem same_yes (n : Bool) (E : ByteArray) (K : Nat) (hK : K < E.size) (hE : E.size ≤ 900) (h20 : K ≤ 20)
    (c1 : ∀ W, Calls Tryd.prog 18 #[decV n E K] W fun e w' => e = .returned (.bool true) ∧ Below W.heap.size W w')
    (cS : ∀ W, Calls Tryd.prog 29 #[optV 1 K K true false, decV n E K] W fun e w' => e = .returned (decV n E K) ∧ Below W.heap.size W w')
    (cT : ∀ W, Calls Tryd.prog 25 #[decV n E K] W fun e w' => e = .returned (.string (stC n E K)) ∧ Below W.heap.size W w') (w : World) :
    Calls Tryd.prog 11 #[decV n E K] w fun e w' => e = .returned (.bool true) ∧ Below w.heap.size w w' := by
  have h0 := Nb.start w n E K
  have cZ := fun W => zero_any n E K W (by omega)
  unfold decV optV at *
  have g1 : decide ((K : Int) > 20) = false := decide_eq_false (by omega)
  have hform := same_form n E K
  have hst : stC n E K = if n = true then ⟨#[45]⟩ ++ stP E K else stP E K := rfl
  have hP := stP_size E K hE
  have hcut := cut1 (stP E K)
  have hF9 := fmC_size ⟨#[101, 110]⟩ E n K hE
  have cF1 := fun g W (hm : Mks (g + 1) 0 W) hb => format_any (g + 1) 0 (by omega) (by omega) ⟨#[101, 110]⟩ 1 K K true false n E K E K hK hE cS W hm hb
  unfold decV optV at cF1
  generalize stP E K = P at *
  generalize fmC ⟨#[101, 110]⟩ true n E K = F at *
  generalize stC n E K = S at *
  generalize (Lib.trimB E.data.toList 48).isEmpty = z at *
  have f1 : n = false → F = S := fun h => by subst h; simpa using hform.trans (by simpa using hst.symm)
  have f2 : n = true → z = false → F = S := fun h h2 => by subst h h2; simpa using hform.trans (by simpa using hst.symm)
  have f3 : n = true → z = true → F = S.extract 1 S.size := fun h h2 => by
    subst h h2
    simp only [Bool.not_true, Bool.and_false, Bool.false_eq_true, if_false, if_true] at hform hst
    rw [hst, hcut, hform]
  have s1 : S.size ≤ 2001 := by
    rw [hst]
    have : (⟨#[45]⟩ : ByteArray).size = 1 := rfl
    split
    · simp only [ByteArray.size_append]; omega
    · omega
  have s2 : n = true → 1 ≤ S.size := fun h => by rw [hst, if_pos h, ByteArray.size_append]; have : (⟨#[45]⟩ : ByteArray).size = 1 := rfl; omega
  clear hst hform hcut hP P cS
  go_enter Tryd.func11, Tryd.ntmps11
  go_upto_region 3 with (go_at_call 26; refine (head12_any _).mono ?_; rintro e W1 ⟨rfl, b1⟩; have h1 := h0.step b1)
  obtain ⟨p0, p1, p2⟩ := h1.get
  go_upto_region 5 with (go_at_call 18; refine (c1 _).mono ?_; rintro e W2 ⟨rfl, b2⟩; have h2 := h1.step b2; obtain ⟨p0, p1, p2⟩ := h2.get)
  clear p0 p1 p2 h1 b2 h0 b1 c1
  obtain ⟨p0, p1, p2⟩ := h2.get
  go_upto_region 7 with (fail)
  have h4 := Nq.start h2
  unfold mkc at h4
  clear p0 p1 p2
  generalize hg : W2.heap.size = g at *
  generalize (W2.alloc (.cells #[.int .i64 1, .int .i64 (K : Int), .int .i64 (K : Int), .bool true, .bool false] 36)).alloc (.cells #[.int .u32 0, .int .i32 0, .int .u32 0, .int .i64 0, .map none, .map none] 56) = W4 at *
  clear hg h2
  obtain ⟨⟨p0, p1, p2⟩, ⟨o0, o1, o2, o3, o4⟩⟩ := h4.get
  go_upto_region 8 with (go_at_call 25; refine (cT _).mono ?_; rintro e W5 ⟨rfl, b5⟩; have h5 := h4.step b5)
  clear p0 p1 p2 o0 o1 o2 o3 o4 b5 h4 cT
  obtain ⟨⟨p0, p1, p2⟩, ⟨o0, o1, o2, o3, o4⟩⟩ := h5.get
  cases n with
  | false =>
    have hfin := f1 rfl
    clear f1 f2 f3 s2
    subst hfin
    go_upto_region 10 with (fail)
    go_wp2_with (first | (go_at_call 33; refine (cF1 g _ h5.mks (mks_lt h5.mks)).mono ?_; rintro e W10 ⟨rfl, m10, g10⟩; have h10 := h5.of m10 g10; clear p0 p1 p2 o0 o1 o2 o3 o4; obtain ⟨⟨p0, p1, p2⟩, ⟨o0, o1, o2, o3, o4⟩⟩ := h10.get) | (go_at_call 45; refine (asked_mks h10.mks).mono ?_; rintro e W11 ⟨rfl, rfl⟩))
    go_ret
    exact ⟨by first | rfl | simp, h10.bel⟩
  | true =>
    have h1S := s2 rfl
    cases z with
    | true =>
      have hfin := f3 rfl rfl
      clear f1 f2 f3 s2
      subst hfin
      go_upto_region 10 with (go_at_call 32; refine (cZ _).mono ?_; rintro e W6 ⟨rfl, b6⟩; have h6 := h5.step b6)
      clear p0 p1 p2 o0 o1 o2 o3 o4 b6 h5
      obtain ⟨⟨p0, p1, p2⟩, ⟨o0, o1, o2, o3, o4⟩⟩ := h6.get
      go_wp2_with (first | (go_at_call 33; refine (cF1 g _ h6.mks (mks_lt h6.mks)).mono ?_; rintro e W10 ⟨rfl, m10, g10⟩; have h10 := h6.of m10 g10; clear p0 p1 p2 o0 o1 o2 o3 o4; obtain ⟨⟨p0, p1, p2⟩, ⟨o0, o1, o2, o3, o4⟩⟩ := h10.get) | (go_at_call 45; refine (asked_mks h10.mks).mono ?_; rintro e W11 ⟨rfl, rfl⟩))
      go_ret
      exact ⟨by first | rfl | simp, h10.bel⟩
    | false =>
      have hfin := f2 rfl rfl
      clear f1 f2 f3 s2
      subst hfin
      go_upto_region 10 with (go_at_call 32; refine (cZ _).mono ?_; rintro e W6 ⟨rfl, b6⟩; have h6 := h5.step b6)
      clear p0 p1 p2 o0 o1 o2 o3 o4 b6 h5
      obtain ⟨⟨p0, p1, p2⟩, ⟨o0, o1, o2, o3, o4⟩⟩ := h6.get
      go_wp2_with (first | (go_at_call 33; refine (cF1 g _ h6.mks (mks_lt h6.mks)).mono ?_; rintro e W10 ⟨rfl, m10, g10⟩; have h10 := h6.of m10 g10; clear p0 p1 p2 o0 o1 o2 o3 o4; obtain ⟨⟨p0, p1, p2⟩, ⟨o0, o1, o2, o3, o4⟩⟩ := h10.get) | (go_at_call 45; refine (asked_mks h10.mks).mono ?_; rintro e W11 ⟨rfl, rfl⟩))
      go_ret
      exact ⟨by first | rfl | simp, h10.bel⟩
end Go.Proofs.YtonjkoeacedaiaaDoor
namespace Go.Proofs.YtonjkoeacedaiaaDoor.R
open Go.RowKit Go.Proofs.YtonjkoeacedaiaaDoor.G Go.Proofs.YtonjkoeacedaiaaDoor.U Go.Proofs.YtonjkoeacedaiaaDoorW.PrintWords Go.Proofs.YtonjkoeacedaiaaDoorW.PrintLast Go.Proofs.YtonjkoeacedaiaaDoorW.PrintMore
attribute [local go_sem] max2_int min2_int max_two min_two max_three min_three max_four min_four
set_option linter.unusedVariables false
set_option linter.unusedSimpArgs false
def errW : Option Int → Value
  | none => .nilIface
  | some c => .iface 0 (.int .i64 c)
theorem errW_none : errW none = .nilIface := rfl
theorem errW_some (c : Int) : errW (some c) = .iface 0 (.int .i64 c) := rfl
structure S23 where
  f0 : Bool
  f1 : ByteArray
  f2 : Int
end Go.Proofs.YtonjkoeacedaiaaDoor.R
namespace Go.Proofs.YtonjkoeacedaiaaDoor.R
open Go.RowKit Go.Proofs.YtonjkoeacedaiaaDoor.G Go.Proofs.YtonjkoeacedaiaaDoor.U Go.Proofs.YtonjkoeacedaiaaDoorW.PrintWords Go.Proofs.YtonjkoeacedaiaaDoorW.PrintLast Go.Proofs.YtonjkoeacedaiaaDoorW.PrintMore
attribute [local go_sem] max2_int min2_int max_two min_two max_three min_three max_four min_four
set_option linter.unusedVariables false
set_option linter.unusedSimpArgs false
theorem eqA23 (d : Nat) (w : World) (x0 y0 : Bool) (x1 y1 : ByteArray) (x2 y2 : Int) :
    (Op.equalIn (d + 2) 23 (.agg #[.bool x0, .string x1, .int .i64 x2]) (.agg #[.bool y0, .string y1, .int .i64 y2])).run Tryd.prog w = .ok (x0 == y0 && (x1.toList == y1.toList && (x2 == y2))) w := by
  refine eqA_of Tryd.underlying23 (by kernel_rfl) ?_
  refine eqf_cons (by rfl) (by go_simp; rfl) (by go_simp; rfl) (by go_simp) ?_
  refine eqf_cons (by rfl) (by go_simp; rfl) (by go_simp; rfl) (by go_simp) ?_
  exact eqf_last (by rfl) (by go_simp; rfl) (by go_simp; rfl) (by go_simp)
end Go.Proofs.YtonjkoeacedaiaaDoor.R
namespace Go.Proofs.YtonjkoeacedaiaaDoor.R
open Go.RowKit Go.Proofs.YtonjkoeacedaiaaDoor.G Go.Proofs.YtonjkoeacedaiaaDoor.U Go.Proofs.YtonjkoeacedaiaaDoorW.PrintWords Go.Proofs.YtonjkoeacedaiaaDoorW.PrintLast Go.Proofs.YtonjkoeacedaiaaDoorW.PrintMore
attribute [local go_sem] max2_int min2_int max_two min_two max_three min_three max_four min_four
set_option linter.unusedVariables false
set_option linter.unusedSimpArgs false
attribute [local go_sem high] eqA23
def dec_Dec_Whole.f (a0_0 : Bool) (a0_1 : ByteArray) (a0_2 : Int) : Option (ByteArray) := if 0 ≤ (wrap64 ((a0_1.size : Int) - a0_2)) then (if (wrap64 ((a0_1.size : Int) - a0_2)) ≤ (a0_1.size : Int) then (some (a0_1.extract 0 ((wrap64 ((a0_1.size : Int) - a0_2)) : Int).toNat)) else (none)) else (none)
set_option maxHeartbeats 8000000 in
set_option maxRecDepth 100000 in
theorem dec_Dec_Whole.calls (a0_0 : Bool) (a0_1 : ByteArray) (a0_2 : Int) (r : ByteArray) (w : World) (h : dec_Dec_Whole.f a0_0 a0_1 a0_2 = some r) :
    Calls Tryd.prog 30 #[.agg #[.bool a0_0, .string a0_1, .int .i64 a0_2]] w fun e w' => e = .returned (.string r) ∧ Below w.heap.size w w' := by
  have hu23 := Tryd.underlying23
  have HB := Aside0.mk (Below.refl w.heap.size w)
  have H : (if 0 ≤ (wrap64 ((a0_1.size : Int) - a0_2)) then (if (wrap64 ((a0_1.size : Int) - a0_2)) ≤ (a0_1.size : Int) then (some (a0_1.extract 0 ((wrap64 ((a0_1.size : Int) - a0_2)) : Int).toNat)) else (none)) else (none)) = some r := h
  clear h
  obtain ⟨ji2, hji2⟩ : ∃ j_ : Int, (wrap64 ((a0_1.size : Int) - a0_2)) = j_ := ⟨_, rfl⟩
  replace H : (if 0 ≤ (ji2) then (if (ji2) ≤ (a0_1.size : Int) then (some (a0_1.extract 0 ((ji2) : Int).toNat)) else (none)) else (none)) = some r := by first | (rw [hji2] at H; exact H) | (simp only [hji2] at H ⊢; exact H)
  have hji2w : (IntKind.i64.wrap ((a0_1.size : Int) - a0_2)) = ji2 := (i64_w _).trans hji2
  by_cases c3 : 0 ≤ (ji2)
  · rw [if_pos c3] at H
    have c3b0 := eq_true c3
    have c3b1 : decide (0 ≤ (ji2)) = true := decide_eq_true c3
    clear c3
    by_cases c4 : (ji2) ≤ (a0_1.size : Int)
    · rw [if_pos c4] at H
      have c4b0 := eq_true c4
      have c4b1 : decide ((ji2) ≤ (a0_1.size : Int)) = true := decide_eq_true c4
      clear c4
      obtain rfl := Option.some.inj H
      go_enter Tryd.func30, Tryd.ntmps30
      go_wp2_with (first | ((with_reducible refine gate_dst (N := 1) rfl ?_); refine box_event ?hg (N := 1) ?hd (cs := #[.bool a0_0, .string a0_1, .int .i64 a0_2]) (t := 23) ?hr ?_; (case hd => rfl); (case hg => rfl); (case hr => first | (go_simp; done) | (go_simp; rfl)); intro gb101 hg w5 hbox hb; have n0_ := Aside0.mk (below_step (by repeat (first | (with_reducible first | exact HB.out | apply below_alloc | apply pw_below_drewN | apply below_drew1) | exact HB.out)) hb); have n1_ := Aside0.mk (hbox); have n2_ := Aside0.mk ((by rw [hg]; exact (below_size (by repeat (first | (with_reducible first | exact HB.out | apply below_alloc | apply pw_below_drewN | apply below_drew1) | exact HB.out))) : w.heap.size ≤ gb101)); have n3_ := Aside0.mk ((by rw [hg]; exact (below_size (by repeat (first | (with_reducible first | exact HB.out | apply below_alloc | apply pw_below_drewN | apply below_drew1) | exact HB.out))) : w.heap.size ≤ gb101)); clear HB; have HB := n0_; have BK101 := n1_; have GW101 := n2_; have GE101 := n3_; clear n0_ n1_ n2_ n3_; clear hb hbox hg; have hcz6_0 : w5.cell? ⟨gb101, 0, none⟩ = some (.bool a0_0) := (blk_cell BK101.out 0).trans rfl; have hcz6_1 : w5.cell? ⟨gb101, 1, none⟩ = some (.string a0_1) := (blk_cell BK101.out 1).trans rfl; have hcz6_2 : w5.cell? ⟨gb101, 2, none⟩ = some (.int .i64 a0_2) := (blk_cell BK101.out 2).trans rfl; have hfz6_0 := blk_frozen BK101.out 0; have hfz6_1 := blk_frozen BK101.out 1; have hfz6_2 := blk_frozen BK101.out 2))
      go_ret
      exact ⟨by first | rfl | (simp [errW_none, errW_some] <;> rfl) | (simp only [← hji2]; first | rfl | (simp [errW_none, errW_some] <;> rfl)) | (simp [*, errW_none, errW_some] <;> rfl), by repeat (first | (with_reducible first | exact HB.out | apply below_alloc | apply pw_below_drewN | apply below_drew1 | refine below_set ?_ GE101.out) | exact HB.out)⟩
    · rw [if_neg c4] at H
      exact absurd H (by simp)
  · rw [if_neg c3] at H
    exact absurd H (by simp)
def dec_Dec_Part.f (a0_0 : Bool) (a0_1 : ByteArray) (a0_2 : Int) : Option (ByteArray) := if 0 ≤ (wrap64 ((a0_1.size : Int) - a0_2)) then (if (wrap64 ((a0_1.size : Int) - a0_2)) ≤ (a0_1.size : Int) then (some (a0_1.extract ((wrap64 ((a0_1.size : Int) - a0_2)) : Int).toNat a0_1.size)) else (none)) else (none)
set_option maxHeartbeats 8000000 in
set_option maxRecDepth 100000 in
theorem dec_Dec_Part.calls (a0_0 : Bool) (a0_1 : ByteArray) (a0_2 : Int) (r : ByteArray) (w : World) (h : dec_Dec_Part.f a0_0 a0_1 a0_2 = some r) :
    Calls Tryd.prog 31 #[.agg #[.bool a0_0, .string a0_1, .int .i64 a0_2]] w fun e w' => e = .returned (.string r) ∧ Below w.heap.size w w' := by
  have hu23 := Tryd.underlying23
  have HB := Aside0.mk (Below.refl w.heap.size w)
  have H : (if 0 ≤ (wrap64 ((a0_1.size : Int) - a0_2)) then (if (wrap64 ((a0_1.size : Int) - a0_2)) ≤ (a0_1.size : Int) then (some (a0_1.extract ((wrap64 ((a0_1.size : Int) - a0_2)) : Int).toNat a0_1.size)) else (none)) else (none)) = some r := h
  clear h
  obtain ⟨ji2, hji2⟩ : ∃ j_ : Int, (wrap64 ((a0_1.size : Int) - a0_2)) = j_ := ⟨_, rfl⟩
  replace H : (if 0 ≤ (ji2) then (if (ji2) ≤ (a0_1.size : Int) then (some (a0_1.extract ((ji2) : Int).toNat a0_1.size)) else (none)) else (none)) = some r := by first | (rw [hji2] at H; exact H) | (simp only [hji2] at H ⊢; exact H)
  have hji2w : (IntKind.i64.wrap ((a0_1.size : Int) - a0_2)) = ji2 := (i64_w _).trans hji2
  by_cases c3 : 0 ≤ (ji2)
  · rw [if_pos c3] at H
    have c3b0 := eq_true c3
    have c3b1 : decide (0 ≤ (ji2)) = true := decide_eq_true c3
    clear c3
    by_cases c4 : (ji2) ≤ (a0_1.size : Int)
    · rw [if_pos c4] at H
      have c4b0 := eq_true c4
      have c4b1 : decide ((ji2) ≤ (a0_1.size : Int)) = true := decide_eq_true c4
      clear c4
      obtain rfl := Option.some.inj H
      go_enter Tryd.func31, Tryd.ntmps31
      go_wp2_with (first | ((with_reducible refine gate_dst (N := 1) rfl ?_); refine box_event ?hg (N := 1) ?hd (cs := #[.bool a0_0, .string a0_1, .int .i64 a0_2]) (t := 23) ?hr ?_; (case hd => rfl); (case hg => rfl); (case hr => first | (go_simp; done) | (go_simp; rfl)); intro gb102 hg w5 hbox hb; have n0_ := Aside0.mk (below_step (by repeat (first | (with_reducible first | exact HB.out | apply below_alloc | apply pw_below_drewN | apply below_drew1) | exact HB.out)) hb); have n1_ := Aside0.mk (hbox); have n2_ := Aside0.mk ((by rw [hg]; exact (below_size (by repeat (first | (with_reducible first | exact HB.out | apply below_alloc | apply pw_below_drewN | apply below_drew1) | exact HB.out))) : w.heap.size ≤ gb102)); have n3_ := Aside0.mk ((by rw [hg]; exact (below_size (by repeat (first | (with_reducible first | exact HB.out | apply below_alloc | apply pw_below_drewN | apply below_drew1) | exact HB.out))) : w.heap.size ≤ gb102)); clear HB; have HB := n0_; have BK102 := n1_; have GW102 := n2_; have GE102 := n3_; clear n0_ n1_ n2_ n3_; clear hb hbox hg; have hcz6_0 : w5.cell? ⟨gb102, 0, none⟩ = some (.bool a0_0) := (blk_cell BK102.out 0).trans rfl; have hcz6_1 : w5.cell? ⟨gb102, 1, none⟩ = some (.string a0_1) := (blk_cell BK102.out 1).trans rfl; have hcz6_2 : w5.cell? ⟨gb102, 2, none⟩ = some (.int .i64 a0_2) := (blk_cell BK102.out 2).trans rfl; have hfz6_0 := blk_frozen BK102.out 0; have hfz6_1 := blk_frozen BK102.out 1; have hfz6_2 := blk_frozen BK102.out 2))
      go_ret
      exact ⟨by first | rfl | (simp [errW_none, errW_some] <;> rfl) | (simp only [← hji2]; first | rfl | (simp [errW_none, errW_some] <;> rfl)) | (simp [*, errW_none, errW_some] <;> rfl), by repeat (first | (with_reducible first | exact HB.out | apply below_alloc | apply pw_below_drewN | apply below_drew1 | refine below_set ?_ GE102.out) | exact HB.out)⟩
    · rw [if_neg c4] at H
      exact absurd H (by simp)
  · rw [if_neg c3] at H
    exact absurd H (by simp)
def dec_Dec_String.f (a0_0 : Bool) (a0_1 : ByteArray) (a0_2 : Int) : Option (ByteArray) := (dec_Dec_Whole.f a0_0 a0_1 a0_2).bind fun t104 => (if a0_2 > 0 then ((dec_Dec_Part.f a0_0 a0_1 a0_2).bind fun t105 => (if 1 + t105.size ≤ 9223372036854775807 then (if t104.size + ((⟨#[46]⟩ : ByteArray) ++ t105).size ≤ 9223372036854775807 then (if a0_0 = true then (if 1 + (t104 ++ ((⟨#[46]⟩ : ByteArray) ++ t105)).size ≤ 9223372036854775807 then (some ((⟨#[45]⟩ : ByteArray) ++ (t104 ++ ((⟨#[46]⟩ : ByteArray) ++ t105)))) else (none)) else (some (t104 ++ ((⟨#[46]⟩ : ByteArray) ++ t105)))) else (none)) else (none))) else (if a0_0 = true then (if 1 + t104.size ≤ 9223372036854775807 then (some ((⟨#[45]⟩ : ByteArray) ++ t104)) else (none)) else (some t104)))
set_option maxHeartbeats 8000000 in
set_option maxRecDepth 100000 in
theorem dec_Dec_String.calls (a0_0 : Bool) (a0_1 : ByteArray) (a0_2 : Int) (r : ByteArray) (w : World) (h : dec_Dec_String.f a0_0 a0_1 a0_2 = some r) :
    Calls Tryd.prog 25 #[.agg #[.bool a0_0, .string a0_1, .int .i64 a0_2]] w fun e w' => e = .returned (.string r) ∧ Below w.heap.size w w' := by
  have hu23 := Tryd.underlying23
  have HB := Aside0.mk (Below.refl w.heap.size w)
  have H : ((dec_Dec_Whole.f a0_0 a0_1 a0_2).bind fun t104 => (if a0_2 > 0 then ((dec_Dec_Part.f a0_0 a0_1 a0_2).bind fun t105 => (if 1 + t105.size ≤ 9223372036854775807 then (if t104.size + ((⟨#[46]⟩ : ByteArray) ++ t105).size ≤ 9223372036854775807 then (if a0_0 = true then (if 1 + (t104 ++ ((⟨#[46]⟩ : ByteArray) ++ t105)).size ≤ 9223372036854775807 then (some ((⟨#[45]⟩ : ByteArray) ++ (t104 ++ ((⟨#[46]⟩ : ByteArray) ++ t105)))) else (none)) else (some (t104 ++ ((⟨#[46]⟩ : ByteArray) ++ t105)))) else (none)) else (none))) else (if a0_0 = true then (if 1 + t104.size ≤ 9223372036854775807 then (some ((⟨#[45]⟩ : ByteArray) ++ t104)) else (none)) else (some t104)))) = some r := h
  clear h
  replace H := Option.bind_eq_some_iff.mp H
  obtain ⟨t104, A20, H⟩ := H
  replace H : (if a0_2 > 0 then ((dec_Dec_Part.f a0_0 a0_1 a0_2).bind fun t105 => (if 1 + t105.size ≤ 9223372036854775807 then (if t104.size + ((⟨#[46]⟩ : ByteArray) ++ t105).size ≤ 9223372036854775807 then (if a0_0 = true then (if 1 + (t104 ++ ((⟨#[46]⟩ : ByteArray) ++ t105)).size ≤ 9223372036854775807 then (some ((⟨#[45]⟩ : ByteArray) ++ (t104 ++ ((⟨#[46]⟩ : ByteArray) ++ t105)))) else (none)) else (some (t104 ++ ((⟨#[46]⟩ : ByteArray) ++ t105)))) else (none)) else (none))) else (if a0_0 = true then (if 1 + t104.size ≤ 9223372036854775807 then (some ((⟨#[45]⟩ : ByteArray) ++ t104)) else (none)) else (some t104))) = some r := H
  have A2 := Aside0.mk A20
  clear A20
  by_cases c3 : a0_2 > 0
  · rw [if_pos c3] at H
    have c3b0 : decide (0 < a0_2) = true := decide_eq_true c3
    clear c3
    replace H := Option.bind_eq_some_iff.mp H
    obtain ⟨t105, A40, H⟩ := H
    replace H : (if 1 + t105.size ≤ 9223372036854775807 then (if t104.size + ((⟨#[46]⟩ : ByteArray) ++ t105).size ≤ 9223372036854775807 then (if a0_0 = true then (if 1 + (t104 ++ ((⟨#[46]⟩ : ByteArray) ++ t105)).size ≤ 9223372036854775807 then (some ((⟨#[45]⟩ : ByteArray) ++ (t104 ++ ((⟨#[46]⟩ : ByteArray) ++ t105)))) else (none)) else (some (t104 ++ ((⟨#[46]⟩ : ByteArray) ++ t105)))) else (none)) else (none)) = some r := H
    have A4 := Aside0.mk A40
    clear A40
    by_cases c5 : 1 + t105.size ≤ 9223372036854775807
    · rw [if_pos c5] at H
      have c5b0 := eq_true c5
      have c5b1 : decide (1 + t105.size ≤ 9223372036854775807) = true := decide_eq_true c5
      try have c5b2 : (9223372036854775807 < 1 + t105.size) = False := eq_false (Nat.not_lt.2 c5)
      by_cases c6 : t104.size + ((⟨#[46]⟩ : ByteArray) ++ t105).size ≤ 9223372036854775807
      · rw [if_pos c6] at H
        have c6b0 := eq_true c6
        try have c6n := c6
        try simp only [ByteArray.size_append, show (⟨#[46]⟩ : ByteArray).size = 1 from rfl] at c6n
        try have c6m := eq_false (Nat.not_lt.2 c6n)
        try have c6k := eq_true c6n
        have c6b1 : decide (t104.size + ((⟨#[46]⟩ : ByteArray) ++ t105).size ≤ 9223372036854775807) = true := decide_eq_true c6
        try have c6b2 : (9223372036854775807 < t104.size + ((⟨#[46]⟩ : ByteArray) ++ t105).size) = False := eq_false (Nat.not_lt.2 c6)
        by_cases c7 : a0_0 = true
        · subst c7
          have H1 : (if 1 + (t104 ++ ((⟨#[46]⟩ : ByteArray) ++ t105)).size ≤ 9223372036854775807 then (some ((⟨#[45]⟩ : ByteArray) ++ (t104 ++ ((⟨#[46]⟩ : ByteArray) ++ t105)))) else (none)) = some r := by rw [if_pos rfl] at H; exact H
          clear H
          have H := H1
          clear H1
          by_cases c8 : 1 + (t104 ++ ((⟨#[46]⟩ : ByteArray) ++ t105)).size ≤ 9223372036854775807
          · rw [if_pos c8] at H
            have c8b0 := eq_true c8
            try have c8n := c8
            try simp only [ByteArray.size_append, show (⟨#[46]⟩ : ByteArray).size = 1 from rfl] at c8n
            try have c8m := eq_false (Nat.not_lt.2 c8n)
            try have c8k := eq_true c8n
            have c8b1 : decide (1 + (t104 ++ ((⟨#[46]⟩ : ByteArray) ++ t105)).size ≤ 9223372036854775807) = true := decide_eq_true c8
            try have c8b2 : (9223372036854775807 < 1 + (t104 ++ ((⟨#[46]⟩ : ByteArray) ++ t105)).size) = False := eq_false (Nat.not_lt.2 c8)
            obtain rfl := Option.some.inj H
            go_enter Tryd.func25, Tryd.ntmps25
            go_wp2_with (first | ((with_reducible refine gate_dst (N := 1) rfl ?_); refine box_event ?hg (N := 1) ?hd (cs := #[.bool true, .string a0_1, .int .i64 a0_2]) (t := 23) ?hr ?_; (case hd => rfl); (case hg => rfl); (case hr => first | (go_simp; done) | (go_simp; rfl)); intro gb103 hg w9 hbox hb; have n0_ := Aside0.mk (below_step (by repeat (first | (with_reducible first | exact HB.out | apply below_alloc | apply pw_below_drewN | apply below_drew1) | exact HB.out)) hb); have n1_ := Aside0.mk (hbox); have n2_ := Aside0.mk ((by rw [hg]; exact (below_size (by repeat (first | (with_reducible first | exact HB.out | apply below_alloc | apply pw_below_drewN | apply below_drew1) | exact HB.out))) : w.heap.size ≤ gb103)); have n3_ := Aside0.mk ((by rw [hg]; exact (below_size (by repeat (first | (with_reducible first | exact HB.out | apply below_alloc | apply pw_below_drewN | apply below_drew1) | exact HB.out))) : w.heap.size ≤ gb103)); clear HB; have HB := n0_; have BK103 := n1_; have GW103 := n2_; have GE103 := n3_; clear n0_ n1_ n2_ n3_; clear hb hbox hg; have hcz10_0 : w9.cell? ⟨gb103, 0, none⟩ = some (.bool true) := (blk_cell BK103.out 0).trans rfl; have hcz10_1 : w9.cell? ⟨gb103, 1, none⟩ = some (.string a0_1) := (blk_cell BK103.out 1).trans rfl; have hcz10_2 : w9.cell? ⟨gb103, 2, none⟩ = some (.int .i64 a0_2) := (blk_cell BK103.out 2).trans rfl; have hfz10_0 := blk_frozen BK103.out 0; have hfz10_1 := blk_frozen BK103.out 1; have hfz10_2 := blk_frozen BK103.out 2) | ((with_reducible refine gate_callee (f := 30) rfl ?_); refine goesL_ (some 5) rfl rfl Tryd.func30 (by kernel_rfl) rfl #[.agg #[.bool true, .string a0_1, .int .i64 a0_2]] rfl (by (try simp only [List.map_toArray, List.map_cons, List.map_nil]); first | done | rfl | (simp only [List.length_drop, List.length_take]; rfl)) ?_; (with_reducible refine (dec_Dec_Whole.calls true a0_1 a0_2 t104 _ A2.out).mono ?_); rintro e w11 ⟨rfl, hb⟩; refine ⟨_, rfl, ?_⟩; have n0_ := Aside0.mk (blk_below (g := gb103) (o := .cells #[.bool true, .string a0_1, .int .i64 a0_2] 23 (0, 0)) (by (with_reducible repeat (first | refine blk_drewN ?_ _ | refine blk_drew ?_ | refine blk_alloc ?_ _)); exact BK103.out) hb); have n1_ := Aside0.mk (below_step (by repeat (first | (with_reducible first | exact HB.out | apply below_alloc | apply pw_below_drewN | apply below_drew1 | refine below_set ?_ GE103.out) | exact HB.out)) hb); clear BK103; clear HB; have BK103 := n0_; have HB := n1_; clear n0_ n1_; (try clear hb); (try clear hb2); (try clear hk); (try clear hi); have hcz12_0 : w11.cell? ⟨gb103, 0, none⟩ = some (.bool true) := (blk_cell BK103.out 0).trans rfl; have hcz12_1 : w11.cell? ⟨gb103, 1, none⟩ = some (.string a0_1) := (blk_cell BK103.out 1).trans rfl; have hcz12_2 : w11.cell? ⟨gb103, 2, none⟩ = some (.int .i64 a0_2) := (blk_cell BK103.out 2).trans rfl; have hfz12_0 := blk_frozen BK103.out 0; have hfz12_1 := blk_frozen BK103.out 1; have hfz12_2 := blk_frozen BK103.out 2) | ((with_reducible refine gate_callee (f := 31) rfl ?_); refine goesL_ (some 11) rfl rfl Tryd.func31 (by kernel_rfl) rfl #[.agg #[.bool true, .string a0_1, .int .i64 a0_2]] rfl (by (try simp only [List.map_toArray, List.map_cons, List.map_nil]); first | done | rfl | (simp only [List.length_drop, List.length_take]; rfl)) ?_; (with_reducible refine (dec_Dec_Part.calls true a0_1 a0_2 t105 _ A4.out).mono ?_); rintro e w13 ⟨rfl, hb⟩; refine ⟨_, rfl, ?_⟩; have n0_ := Aside0.mk (blk_below (g := gb103) (o := .cells #[.bool true, .string a0_1, .int .i64 a0_2] 23 (0, 0)) (by (with_reducible repeat (first | refine blk_drewN ?_ _ | refine blk_drew ?_ | refine blk_alloc ?_ _)); exact BK103.out) hb); have n1_ := Aside0.mk (below_step (by repeat (first | (with_reducible first | exact HB.out | apply below_alloc | apply pw_below_drewN | apply below_drew1 | refine below_set ?_ GE103.out) | exact HB.out)) hb); clear BK103; clear HB; have BK103 := n0_; have HB := n1_; clear n0_ n1_; (try clear hb); (try clear hb2); (try clear hk); (try clear hi); have hcz14_0 : w13.cell? ⟨gb103, 0, none⟩ = some (.bool true) := (blk_cell BK103.out 0).trans rfl; have hcz14_1 : w13.cell? ⟨gb103, 1, none⟩ = some (.string a0_1) := (blk_cell BK103.out 1).trans rfl; have hcz14_2 : w13.cell? ⟨gb103, 2, none⟩ = some (.int .i64 a0_2) := (blk_cell BK103.out 2).trans rfl; have hfz14_0 := blk_frozen BK103.out 0; have hfz14_1 := blk_frozen BK103.out 1; have hfz14_2 := blk_frozen BK103.out 2))
            go_ret
            exact ⟨by first | rfl | (simp [errW_none, errW_some] <;> rfl) | (simp [*, errW_none, errW_some] <;> rfl), by repeat (first | (with_reducible first | exact HB.out | apply below_alloc | apply pw_below_drewN | apply below_drew1 | refine below_set ?_ GE103.out) | exact HB.out)⟩
          · rw [if_neg c8] at H
            exact absurd H (by simp)
        · replace c7 := Bool.eq_false_iff.mpr c7
          subst c7
          have H1 : (some (t104 ++ ((⟨#[46]⟩ : ByteArray) ++ t105))) = some r := by rw [if_neg (show ¬ (false = true) by decide)] at H; exact H
          clear H
          have H := H1
          clear H1
          obtain rfl := Option.some.inj H
          go_enter Tryd.func25, Tryd.ntmps25
          go_wp2_with (first | ((with_reducible refine gate_dst (N := 1) rfl ?_); refine box_event ?hg (N := 1) ?hd (cs := #[.bool false, .string a0_1, .int .i64 a0_2]) (t := 23) ?hr ?_; (case hd => rfl); (case hg => rfl); (case hr => first | (go_simp; done) | (go_simp; rfl)); intro gb103 hg w15 hbox hb; have n0_ := Aside0.mk (below_step (by repeat (first | (with_reducible first | exact HB.out | apply below_alloc | apply pw_below_drewN | apply below_drew1) | exact HB.out)) hb); have n1_ := Aside0.mk (hbox); have n2_ := Aside0.mk ((by rw [hg]; exact (below_size (by repeat (first | (with_reducible first | exact HB.out | apply below_alloc | apply pw_below_drewN | apply below_drew1) | exact HB.out))) : w.heap.size ≤ gb103)); have n3_ := Aside0.mk ((by rw [hg]; exact (below_size (by repeat (first | (with_reducible first | exact HB.out | apply below_alloc | apply pw_below_drewN | apply below_drew1) | exact HB.out))) : w.heap.size ≤ gb103)); clear HB; have HB := n0_; have BK103 := n1_; have GW103 := n2_; have GE103 := n3_; clear n0_ n1_ n2_ n3_; clear hb hbox hg; have hcz16_0 : w15.cell? ⟨gb103, 0, none⟩ = some (.bool false) := (blk_cell BK103.out 0).trans rfl; have hcz16_1 : w15.cell? ⟨gb103, 1, none⟩ = some (.string a0_1) := (blk_cell BK103.out 1).trans rfl; have hcz16_2 : w15.cell? ⟨gb103, 2, none⟩ = some (.int .i64 a0_2) := (blk_cell BK103.out 2).trans rfl; have hfz16_0 := blk_frozen BK103.out 0; have hfz16_1 := blk_frozen BK103.out 1; have hfz16_2 := blk_frozen BK103.out 2) | ((with_reducible refine gate_callee (f := 30) rfl ?_); refine goesL_ (some 5) rfl rfl Tryd.func30 (by kernel_rfl) rfl #[.agg #[.bool false, .string a0_1, .int .i64 a0_2]] rfl (by (try simp only [List.map_toArray, List.map_cons, List.map_nil]); first | done | rfl | (simp only [List.length_drop, List.length_take]; rfl)) ?_; (with_reducible refine (dec_Dec_Whole.calls false a0_1 a0_2 t104 _ A2.out).mono ?_); rintro e w17 ⟨rfl, hb⟩; refine ⟨_, rfl, ?_⟩; have n0_ := Aside0.mk (blk_below (g := gb103) (o := .cells #[.bool false, .string a0_1, .int .i64 a0_2] 23 (0, 0)) (by (with_reducible repeat (first | refine blk_drewN ?_ _ | refine blk_drew ?_ | refine blk_alloc ?_ _)); exact BK103.out) hb); have n1_ := Aside0.mk (below_step (by repeat (first | (with_reducible first | exact HB.out | apply below_alloc | apply pw_below_drewN | apply below_drew1 | refine below_set ?_ GE103.out) | exact HB.out)) hb); clear BK103; clear HB; have BK103 := n0_; have HB := n1_; clear n0_ n1_; (try clear hb); (try clear hb2); (try clear hk); (try clear hi); have hcz18_0 : w17.cell? ⟨gb103, 0, none⟩ = some (.bool false) := (blk_cell BK103.out 0).trans rfl; have hcz18_1 : w17.cell? ⟨gb103, 1, none⟩ = some (.string a0_1) := (blk_cell BK103.out 1).trans rfl; have hcz18_2 : w17.cell? ⟨gb103, 2, none⟩ = some (.int .i64 a0_2) := (blk_cell BK103.out 2).trans rfl; have hfz18_0 := blk_frozen BK103.out 0; have hfz18_1 := blk_frozen BK103.out 1; have hfz18_2 := blk_frozen BK103.out 2) | ((with_reducible refine gate_callee (f := 31) rfl ?_); refine goesL_ (some 11) rfl rfl Tryd.func31 (by kernel_rfl) rfl #[.agg #[.bool false, .string a0_1, .int .i64 a0_2]] rfl (by (try simp only [List.map_toArray, List.map_cons, List.map_nil]); first | done | rfl | (simp only [List.length_drop, List.length_take]; rfl)) ?_; (with_reducible refine (dec_Dec_Part.calls false a0_1 a0_2 t105 _ A4.out).mono ?_); rintro e w19 ⟨rfl, hb⟩; refine ⟨_, rfl, ?_⟩; have n0_ := Aside0.mk (blk_below (g := gb103) (o := .cells #[.bool false, .string a0_1, .int .i64 a0_2] 23 (0, 0)) (by (with_reducible repeat (first | refine blk_drewN ?_ _ | refine blk_drew ?_ | refine blk_alloc ?_ _)); exact BK103.out) hb); have n1_ := Aside0.mk (below_step (by repeat (first | (with_reducible first | exact HB.out | apply below_alloc | apply pw_below_drewN | apply below_drew1 | refine below_set ?_ GE103.out) | exact HB.out)) hb); clear BK103; clear HB; have BK103 := n0_; have HB := n1_; clear n0_ n1_; (try clear hb); (try clear hb2); (try clear hk); (try clear hi); have hcz20_0 : w19.cell? ⟨gb103, 0, none⟩ = some (.bool false) := (blk_cell BK103.out 0).trans rfl; have hcz20_1 : w19.cell? ⟨gb103, 1, none⟩ = some (.string a0_1) := (blk_cell BK103.out 1).trans rfl; have hcz20_2 : w19.cell? ⟨gb103, 2, none⟩ = some (.int .i64 a0_2) := (blk_cell BK103.out 2).trans rfl; have hfz20_0 := blk_frozen BK103.out 0; have hfz20_1 := blk_frozen BK103.out 1; have hfz20_2 := blk_frozen BK103.out 2))
          go_ret
          exact ⟨by first | rfl | (simp [errW_none, errW_some] <;> rfl) | (simp [*, errW_none, errW_some] <;> rfl), by repeat (first | (with_reducible first | exact HB.out | apply below_alloc | apply pw_below_drewN | apply below_drew1 | refine below_set ?_ GE103.out) | exact HB.out)⟩
      · rw [if_neg c6] at H
        exact absurd H (by simp)
    · rw [if_neg c5] at H
      exact absurd H (by simp)
  · rw [if_neg c3] at H
    have c3b0 : decide (0 < a0_2) = false := decide_eq_false c3
    clear c3
    by_cases c21 : a0_0 = true
    · subst c21
      have H1 : (if 1 + t104.size ≤ 9223372036854775807 then (some ((⟨#[45]⟩ : ByteArray) ++ t104)) else (none)) = some r := by rw [if_pos rfl] at H; exact H
      clear H
      have H := H1
      clear H1
      by_cases c22 : 1 + t104.size ≤ 9223372036854775807
      · rw [if_pos c22] at H
        have c22b0 := eq_true c22
        have c22b1 : decide (1 + t104.size ≤ 9223372036854775807) = true := decide_eq_true c22
        try have c22b2 : (9223372036854775807 < 1 + t104.size) = False := eq_false (Nat.not_lt.2 c22)
        obtain rfl := Option.some.inj H
        go_enter Tryd.func25, Tryd.ntmps25
        go_wp2_with (first | ((with_reducible refine gate_dst (N := 1) rfl ?_); refine box_event ?hg (N := 1) ?hd (cs := #[.bool true, .string a0_1, .int .i64 a0_2]) (t := 23) ?hr ?_; (case hd => rfl); (case hg => rfl); (case hr => first | (go_simp; done) | (go_simp; rfl)); intro gb103 hg w23 hbox hb; have n0_ := Aside0.mk (below_step (by repeat (first | (with_reducible first | exact HB.out | apply below_alloc | apply pw_below_drewN | apply below_drew1) | exact HB.out)) hb); have n1_ := Aside0.mk (hbox); have n2_ := Aside0.mk ((by rw [hg]; exact (below_size (by repeat (first | (with_reducible first | exact HB.out | apply below_alloc | apply pw_below_drewN | apply below_drew1) | exact HB.out))) : w.heap.size ≤ gb103)); have n3_ := Aside0.mk ((by rw [hg]; exact (below_size (by repeat (first | (with_reducible first | exact HB.out | apply below_alloc | apply pw_below_drewN | apply below_drew1) | exact HB.out))) : w.heap.size ≤ gb103)); clear HB; have HB := n0_; have BK103 := n1_; have GW103 := n2_; have GE103 := n3_; clear n0_ n1_ n2_ n3_; clear hb hbox hg; have hcz24_0 : w23.cell? ⟨gb103, 0, none⟩ = some (.bool true) := (blk_cell BK103.out 0).trans rfl; have hcz24_1 : w23.cell? ⟨gb103, 1, none⟩ = some (.string a0_1) := (blk_cell BK103.out 1).trans rfl; have hcz24_2 : w23.cell? ⟨gb103, 2, none⟩ = some (.int .i64 a0_2) := (blk_cell BK103.out 2).trans rfl; have hfz24_0 := blk_frozen BK103.out 0; have hfz24_1 := blk_frozen BK103.out 1; have hfz24_2 := blk_frozen BK103.out 2) | ((with_reducible refine gate_callee (f := 30) rfl ?_); refine goesL_ (some 5) rfl rfl Tryd.func30 (by kernel_rfl) rfl #[.agg #[.bool true, .string a0_1, .int .i64 a0_2]] rfl (by (try simp only [List.map_toArray, List.map_cons, List.map_nil]); first | done | rfl | (simp only [List.length_drop, List.length_take]; rfl)) ?_; (with_reducible refine (dec_Dec_Whole.calls true a0_1 a0_2 t104 _ A2.out).mono ?_); rintro e w25 ⟨rfl, hb⟩; refine ⟨_, rfl, ?_⟩; have n0_ := Aside0.mk (blk_below (g := gb103) (o := .cells #[.bool true, .string a0_1, .int .i64 a0_2] 23 (0, 0)) (by (with_reducible repeat (first | refine blk_drewN ?_ _ | refine blk_drew ?_ | refine blk_alloc ?_ _)); exact BK103.out) hb); have n1_ := Aside0.mk (below_step (by repeat (first | (with_reducible first | exact HB.out | apply below_alloc | apply pw_below_drewN | apply below_drew1 | refine below_set ?_ GE103.out) | exact HB.out)) hb); clear BK103; clear HB; have BK103 := n0_; have HB := n1_; clear n0_ n1_; (try clear hb); (try clear hb2); (try clear hk); (try clear hi); have hcz26_0 : w25.cell? ⟨gb103, 0, none⟩ = some (.bool true) := (blk_cell BK103.out 0).trans rfl; have hcz26_1 : w25.cell? ⟨gb103, 1, none⟩ = some (.string a0_1) := (blk_cell BK103.out 1).trans rfl; have hcz26_2 : w25.cell? ⟨gb103, 2, none⟩ = some (.int .i64 a0_2) := (blk_cell BK103.out 2).trans rfl; have hfz26_0 := blk_frozen BK103.out 0; have hfz26_1 := blk_frozen BK103.out 1; have hfz26_2 := blk_frozen BK103.out 2))
        go_ret
        exact ⟨by first | rfl | (simp [errW_none, errW_some] <;> rfl) | (simp [*, errW_none, errW_some] <;> rfl), by repeat (first | (with_reducible first | exact HB.out | apply below_alloc | apply pw_below_drewN | apply below_drew1 | refine below_set ?_ GE103.out) | exact HB.out)⟩
      · rw [if_neg c22] at H
        exact absurd H (by simp)
    · replace c21 := Bool.eq_false_iff.mpr c21
      subst c21
      have H1 : (some t104) = some r := by rw [if_neg (show ¬ (false = true) by decide)] at H; exact H
      clear H
      have H := H1
      clear H1
      obtain rfl := Option.some.inj H
      go_enter Tryd.func25, Tryd.ntmps25
      go_wp2_with (first | ((with_reducible refine gate_dst (N := 1) rfl ?_); refine box_event ?hg (N := 1) ?hd (cs := #[.bool false, .string a0_1, .int .i64 a0_2]) (t := 23) ?hr ?_; (case hd => rfl); (case hg => rfl); (case hr => first | (go_simp; done) | (go_simp; rfl)); intro gb103 hg w27 hbox hb; have n0_ := Aside0.mk (below_step (by repeat (first | (with_reducible first | exact HB.out | apply below_alloc | apply pw_below_drewN | apply below_drew1) | exact HB.out)) hb); have n1_ := Aside0.mk (hbox); have n2_ := Aside0.mk ((by rw [hg]; exact (below_size (by repeat (first | (with_reducible first | exact HB.out | apply below_alloc | apply pw_below_drewN | apply below_drew1) | exact HB.out))) : w.heap.size ≤ gb103)); have n3_ := Aside0.mk ((by rw [hg]; exact (below_size (by repeat (first | (with_reducible first | exact HB.out | apply below_alloc | apply pw_below_drewN | apply below_drew1) | exact HB.out))) : w.heap.size ≤ gb103)); clear HB; have HB := n0_; have BK103 := n1_; have GW103 := n2_; have GE103 := n3_; clear n0_ n1_ n2_ n3_; clear hb hbox hg; have hcz28_0 : w27.cell? ⟨gb103, 0, none⟩ = some (.bool false) := (blk_cell BK103.out 0).trans rfl; have hcz28_1 : w27.cell? ⟨gb103, 1, none⟩ = some (.string a0_1) := (blk_cell BK103.out 1).trans rfl; have hcz28_2 : w27.cell? ⟨gb103, 2, none⟩ = some (.int .i64 a0_2) := (blk_cell BK103.out 2).trans rfl; have hfz28_0 := blk_frozen BK103.out 0; have hfz28_1 := blk_frozen BK103.out 1; have hfz28_2 := blk_frozen BK103.out 2) | ((with_reducible refine gate_callee (f := 30) rfl ?_); refine goesL_ (some 5) rfl rfl Tryd.func30 (by kernel_rfl) rfl #[.agg #[.bool false, .string a0_1, .int .i64 a0_2]] rfl (by (try simp only [List.map_toArray, List.map_cons, List.map_nil]); first | done | rfl | (simp only [List.length_drop, List.length_take]; rfl)) ?_; (with_reducible refine (dec_Dec_Whole.calls false a0_1 a0_2 t104 _ A2.out).mono ?_); rintro e w29 ⟨rfl, hb⟩; refine ⟨_, rfl, ?_⟩; have n0_ := Aside0.mk (blk_below (g := gb103) (o := .cells #[.bool false, .string a0_1, .int .i64 a0_2] 23 (0, 0)) (by (with_reducible repeat (first | refine blk_drewN ?_ _ | refine blk_drew ?_ | refine blk_alloc ?_ _)); exact BK103.out) hb); have n1_ := Aside0.mk (below_step (by repeat (first | (with_reducible first | exact HB.out | apply below_alloc | apply pw_below_drewN | apply below_drew1 | refine below_set ?_ GE103.out) | exact HB.out)) hb); clear BK103; clear HB; have BK103 := n0_; have HB := n1_; clear n0_ n1_; (try clear hb); (try clear hb2); (try clear hk); (try clear hi); have hcz30_0 : w29.cell? ⟨gb103, 0, none⟩ = some (.bool false) := (blk_cell BK103.out 0).trans rfl; have hcz30_1 : w29.cell? ⟨gb103, 1, none⟩ = some (.string a0_1) := (blk_cell BK103.out 1).trans rfl; have hcz30_2 : w29.cell? ⟨gb103, 2, none⟩ = some (.int .i64 a0_2) := (blk_cell BK103.out 2).trans rfl; have hfz30_0 := blk_frozen BK103.out 0; have hfz30_1 := blk_frozen BK103.out 1; have hfz30_2 := blk_frozen BK103.out 2))
      go_ret
      exact ⟨by first | rfl | (simp [errW_none, errW_some] <;> rfl) | (simp [*, errW_none, errW_some] <;> rfl), by repeat (first | (with_reducible first | exact HB.out | apply below_alloc | apply pw_below_drewN | apply below_drew1 | refine below_set ?_ GE103.out) | exact HB.out)⟩
def polyglotlaw02_digit.f (a0 : Int) : Option (Bool) := if a0 ≥ 48 then (some (decide (a0 ≤ 57))) else (some false)
set_option maxHeartbeats 8000000 in
set_option maxRecDepth 100000 in
theorem polyglotlaw02_digit.calls (a0 : Int) (r : Bool) (w : World) (h : polyglotlaw02_digit.f a0 = some r) :
    Calls Tryd.prog 35 #[.int .u8 a0] w fun e w' => e = .returned (.bool r) ∧ Drawn0 w w' := by
  have H : (if a0 ≥ 48 then (some (decide (a0 ≤ 57))) else (some false)) = some r := h
  clear h
  by_cases c2 : a0 ≥ 48
  · rw [if_pos c2] at H
    have c2b0 : decide (48 ≤ a0) = true := decide_eq_true c2
    clear c2
    obtain rfl := Option.some.inj H
    go_enter Tryd.func35, Tryd.ntmps35
    go_wp2
    go_ret
    exact ⟨by first | rfl | (simp; done) | (simp [*]; done), by repeat (first | exact Drawn0.refl _ | apply Drawn0.step)⟩
  · rw [if_neg c2] at H
    have c2b0 : decide (48 ≤ a0) = false := decide_eq_false c2
    clear c2
    obtain rfl := Option.some.inj H
    go_enter Tryd.func35, Tryd.ntmps35
    go_wp2
    go_ret
    exact ⟨by first | rfl | (simp; done) | (simp [*]; done), by repeat (first | exact Drawn0.refl _ | apply Drawn0.step)⟩
end Go.Proofs.YtonjkoeacedaiaaDoor.R
namespace Go.Proofs.YtonjkoeacedaiaaDoor.R
open Go.RowKit Go.Proofs.YtonjkoeacedaiaaDoor.G Go.Proofs.YtonjkoeacedaiaaDoor.U Go.Proofs.YtonjkoeacedaiaaDoorW.PrintWords Go.Proofs.YtonjkoeacedaiaaDoorW.PrintLast Go.Proofs.YtonjkoeacedaiaaDoorW.PrintMore
attribute [local go_sem] max2_int min2_int max_two min_two max_three min_three max_four min_four
set_option linter.unusedVariables false
set_option linter.unusedSimpArgs false
mutual
def polyglotlaw02_Right.j0 : Nat → Bool → Bool → ByteArray → Int → Option (Bool)
  | 0, _, _, _, _ => none
  | k + 1, x20, x142000, x142001, x142002 => if x20 = true then (some false) else (polyglotlaw02_Right.l0 k 0 x142000 x142001 x142002)
def polyglotlaw02_Right.l0 : Nat → Int → Bool → ByteArray → Int → Option (Bool)
  | 0, _, _, _, _ => none
  | k + 1, x3, x142000, x142001, x142002 => if x3 < (x142001.size : Int) then (if 0 ≤ x3 then ((polyglotlaw02_digit.f (bt x142001 x3)).bind fun t142 => (if t142 = true then (polyglotlaw02_Right.l0 k (wrap64 (x3 + 1)) x142000 x142001 x142002) else (some false))) else (none)) else (if 0 < (x142001.size : Int) then (if (bt x142001 0) = 48 then (some ((x142001.size : Int) == (wrap64 (x142002 + 1)))) else (some true)) else (none))
end
def polyglotlaw02_Right.f (k : Nat) (a0_0 : Bool) (a0_1 : ByteArray) (a0_2 : Int) : Option (Bool) := if a0_2 < 0 then (polyglotlaw02_Right.j0 k true a0_0 a0_1 a0_2) else (if a0_2 ≥ (a0_1.size : Int) then (polyglotlaw02_Right.j0 k true a0_0 a0_1 a0_2) else (polyglotlaw02_Right.j0 k (decide ((a0_1.size : Int) > 60)) a0_0 a0_1 a0_2))
set_option maxHeartbeats 8000000 in
set_option maxRecDepth 100000 in
theorem polyglotlaw02_Right.calls (k : Nat) (a0_0 : Bool) (a0_1 : ByteArray) (a0_2 : Int) (r : Bool) (w : World) (h : polyglotlaw02_Right.f k a0_0 a0_1 a0_2 = some r) :
    Calls Tryd.prog 18 #[.agg #[.bool a0_0, .string a0_1, .int .i64 a0_2]] w fun e w' => e = .returned (.bool r) ∧ Below w.heap.size w w' := by
  have hu23 := Tryd.underlying23
  have HB := Aside0.mk (Below.refl w.heap.size w)
  have H : (if a0_2 < 0 then (polyglotlaw02_Right.j0 k true a0_0 a0_1 a0_2) else (if a0_2 ≥ (a0_1.size : Int) then (polyglotlaw02_Right.j0 k true a0_0 a0_1 a0_2) else (polyglotlaw02_Right.j0 k (decide ((a0_1.size : Int) > 60)) a0_0 a0_1 a0_2))) = some r := h
  clear h
  have HC2 := Aside0.mk H
  clear H
  go_enter Tryd.func18, Tryd.ntmps18
  go_upto_region 1 with (first | ((with_reducible refine gate_dst (N := 1) rfl ?_); (try (refine gate_guard (by rfl) ?_; dsimp only)); refine box_event ?hg (N := 1) ?hd (cs := #[.bool a0_0, .string a0_1, .int .i64 a0_2]) (t := 23) ?hr ?_; (case hd => rfl); (case hg => rfl); (case hr => first | (go_simp; done) | (go_simp; rfl)); intro gb141 hg w3 hbox hb; have n0_ := Aside0.mk (below_step (by repeat (first | (with_reducible first | exact HB.out | apply below_alloc | apply pw_below_drewN | apply below_drew1) | exact HB.out)) hb); have n1_ := Aside0.mk (hbox); have n2_ := Aside0.mk ((by rw [hg]; exact (below_size (by repeat (first | (with_reducible first | exact HB.out | apply below_alloc | apply pw_below_drewN | apply below_drew1) | exact HB.out))) : w.heap.size ≤ gb141)); have n3_ := Aside0.mk ((by rw [hg]; exact (below_size (by repeat (first | (with_reducible first | exact HB.out | apply below_alloc | apply pw_below_drewN | apply below_drew1) | exact HB.out))) : w.heap.size ≤ gb141)); clear HB; have HB := n0_; have BK141 := n1_; have GW141 := n2_; have GE141 := n3_; clear n0_ n1_ n2_ n3_; clear hb hbox hg))
  (try simp only [Act.put, List.setIfInBounds_toArray, List.set_cons_zero, List.set_cons_succ])
  go_cut [20] (fun v20 wc => ∃ (kq : Nat) (x20_1 : Bool), v20 = .bool x20_1 ∧ Aside0 (polyglotlaw02_Right.j0 kq x20_1 a0_0 a0_1 a0_2 = some r) ∧ Aside0 (kq ≤ k) ∧ Aside0 (wc.heap[gb141]? = some (.cells #[.bool a0_0, .string a0_1, .int .i64 a0_2] 23 (0, 0))) ∧ Aside0 (Below w.heap.size w wc))
  case first =>
    have H := HC2.out
    clear HC2
    by_cases c4 : a0_2 < 0
    · rw [if_pos c4] at H
      have c4b0 : decide (a0_2 < 0) = true := decide_eq_true c4
      clear c4
      (first | rw [c4b0] | (simp only [i64_w, i32_w]; rw [c4b0]) | skip)
      have H' := Aside0.mk H
      clear H
      have hcz5_0 : w3.cell? ⟨gb141, 0, none⟩ = some (.bool a0_0) := (blk_cell BK141.out 0).trans rfl
      have hcz5_1 : w3.cell? ⟨gb141, 1, none⟩ = some (.string a0_1) := (blk_cell BK141.out 1).trans rfl
      have hcz5_2 : w3.cell? ⟨gb141, 2, none⟩ = some (.int .i64 a0_2) := (blk_cell BK141.out 2).trans rfl
      have hfz5_0 := blk_frozen BK141.out 0
      have hfz5_1 := blk_frozen BK141.out 1
      have hfz5_2 := blk_frozen BK141.out 2
      go_wp2
      go_meet
      case rel => exact ⟨_, (true), (by first | rfl | (simp; done) | (simp [*]; done)), H', ⟨by first | omega | exact Nat.le_refl _⟩, ⟨by (with_reducible repeat (first | refine blk_drewN ?_ _ | refine blk_drew ?_ | refine blk_alloc ?_ _)); exact BK141.out⟩, ⟨by repeat (first | (with_reducible first | exact HB.out | apply below_alloc | apply pw_below_drewN | apply below_drew1 | refine below_set ?_ GE141.out) | exact HB.out)⟩⟩
    · rw [if_neg c4] at H
      have c4b0 : decide (a0_2 < 0) = false := decide_eq_false c4
      clear c4
      (first | rw [c4b0] | (simp only [i64_w, i32_w]; rw [c4b0]) | skip)
      by_cases c6 : a0_2 ≥ (a0_1.size : Int)
      · rw [if_pos c6] at H
        have c6b0 : decide ((a0_1.size : Int) ≤ a0_2) = true := decide_eq_true c6
        clear c6
        have H' := Aside0.mk H
        clear H
        have hcz7_0 : w3.cell? ⟨gb141, 0, none⟩ = some (.bool a0_0) := (blk_cell BK141.out 0).trans rfl
        have hcz7_1 : w3.cell? ⟨gb141, 1, none⟩ = some (.string a0_1) := (blk_cell BK141.out 1).trans rfl
        have hcz7_2 : w3.cell? ⟨gb141, 2, none⟩ = some (.int .i64 a0_2) := (blk_cell BK141.out 2).trans rfl
        have hfz7_0 := blk_frozen BK141.out 0
        have hfz7_1 := blk_frozen BK141.out 1
        have hfz7_2 := blk_frozen BK141.out 2
        go_wp2
        go_meet
        case rel => exact ⟨_, (true), (by first | rfl | (simp; done) | (simp [*]; done)), H', ⟨by first | omega | exact Nat.le_refl _⟩, ⟨by (with_reducible repeat (first | refine blk_drewN ?_ _ | refine blk_drew ?_ | refine blk_alloc ?_ _)); exact BK141.out⟩, ⟨by repeat (first | (with_reducible first | exact HB.out | apply below_alloc | apply pw_below_drewN | apply below_drew1 | refine below_set ?_ GE141.out) | exact HB.out)⟩⟩
      · rw [if_neg c6] at H
        have c6b0 : decide ((a0_1.size : Int) ≤ a0_2) = false := decide_eq_false c6
        clear c6
        have H' := Aside0.mk H
        clear H
        have hcz8_0 : w3.cell? ⟨gb141, 0, none⟩ = some (.bool a0_0) := (blk_cell BK141.out 0).trans rfl
        have hcz8_1 : w3.cell? ⟨gb141, 1, none⟩ = some (.string a0_1) := (blk_cell BK141.out 1).trans rfl
        have hcz8_2 : w3.cell? ⟨gb141, 2, none⟩ = some (.int .i64 a0_2) := (blk_cell BK141.out 2).trans rfl
        have hfz8_0 := blk_frozen BK141.out 0
        have hfz8_1 := blk_frozen BK141.out 1
        have hfz8_2 := blk_frozen BK141.out 2
        go_wp2
        go_meet
        case rel => exact ⟨_, (decide ((a0_1.size : Int) > 60)), (by first | rfl | (simp; done) | (simp [*]; done)), H', ⟨by first | omega | exact Nat.le_refl _⟩, ⟨by (with_reducible repeat (first | refine blk_drewN ?_ _ | refine blk_drew ?_ | refine blk_alloc ?_ _)); exact BK141.out⟩, ⟨by repeat (first | (with_reducible first | exact HB.out | apply below_alloc | apply pw_below_drewN | apply below_drew1 | refine below_set ?_ GE141.out) | exact HB.out)⟩⟩
  case rest =>
    clear HC2
    try clear c1
    try clear p2
    try clear c4
    try clear c4b0
    try clear c6
    try clear c6b0
    try clear hcz5_0
    try clear hcz5_1
    try clear hcz5_2
    try clear hcz7_0
    try clear hcz7_1
    try clear hcz7_2
    try clear hcz8_0
    try clear hcz8_1
    try clear hcz8_2
    try clear hfz5_0
    try clear hfz5_1
    try clear hfz5_2
    try clear hfz7_0
    try clear hfz7_1
    try clear hfz7_2
    try clear hfz8_0
    try clear hfz8_1
    try clear hfz8_2
    obtain ⟨kq, x20_1, rfl, HA, HJ1, BK141, HB⟩ := hcut
    cases kq with
    | zero => exact absurd HA.out (by simp [polyglotlaw02_Right.j0])
    | succ kj1 =>
      have H := HA.out
      clear HA
      simp only [polyglotlaw02_Right.j0] at H
      by_cases c9 : x20_1 = true
      · subst c9
        have H1 : (some false) = some r := by rw [if_pos rfl] at H; exact H
        clear H
        have H := H1
        clear H1
        obtain rfl := Option.some.inj H
        go_wp2
        go_ret
        exact ⟨by first | rfl | (simp [errW_none, errW_some] <;> rfl) | (simp [*, errW_none, errW_some] <;> rfl), by repeat (first | (with_reducible first | exact HB.out | apply below_alloc | apply pw_below_drewN | apply below_drew1 | refine below_set ?_ GE141.out) | exact HB.out)⟩
      · replace c9 := Bool.eq_false_iff.mpr c9
        subst c9
        have H1 : (polyglotlaw02_Right.l0 kj1 0 a0_0 a0_1 a0_2) = some r := by rw [if_neg (show ¬ (false = true) by decide)] at H; exact H
        clear H
        have H := H1
        clear H1
        have H' := Aside0.mk H
        clear H
        go_wp2
        go_loopg [3] kj1 (fun kq v3 w' => ∃ (x3_2 : Int), v3 = .int .i64 x3_2 ∧ Aside0 (polyglotlaw02_Right.l0 kq x3_2 a0_0 a0_1 a0_2 = some r) ∧ Aside0 (kq ≤ kj1) ∧ Aside0 (w'.heap[gb141]? = some (.cells #[.bool a0_0, .string a0_1, .int .i64 a0_2] 23 (0, 0))) ∧ Aside0 (Below w.heap.size w w'))
        case atStart => exact ⟨(0), (by first | rfl | (simp; done) | (simp [*]; done)), H', ⟨Nat.le_refl _⟩, ⟨by (with_reducible repeat (first | refine blk_drewN ?_ _ | refine blk_drew ?_ | refine blk_alloc ?_ _)); exact BK141.out⟩, ⟨by repeat (first | (with_reducible first | exact HB.out | apply below_alloc | apply pw_below_drewN | apply below_drew1 | refine below_set ?_ GE141.out) | exact HB.out)⟩⟩
        case round =>
          clear H'
          try clear c1
          try clear p2
          try clear c4
          try clear c4b0
          try clear c6
          try clear c6b0
          try clear c9
          try clear hcz5_0
          try clear hcz5_1
          try clear hcz5_2
          try clear hcz7_0
          try clear hcz7_1
          try clear hcz7_2
          try clear hcz8_0
          try clear hcz8_1
          try clear hcz8_2
          try clear hfz5_0
          try clear hfz5_1
          try clear hfz5_2
          try clear hfz7_0
          try clear hfz7_1
          try clear hfz7_2
          try clear hfz8_0
          try clear hfz8_1
          try clear hfz8_2
          try clear p2
          obtain ⟨x3_2, rfl, HA, HK2, BK141, HB⟩ := hrel
          cases gk with
          | zero => exact absurd HA.out (by simp [polyglotlaw02_Right.l0])
          | succ k2 =>
            have H := HA.out
            clear HA
            simp only [polyglotlaw02_Right.l0] at H
            by_cases c10 : x3_2 < (a0_1.size : Int)
            · rw [if_pos c10] at H
              have c10b0 : decide (x3_2 < (a0_1.size : Int)) = true := decide_eq_true c10
              clear c10
              by_cases c11 : 0 ≤ x3_2
              · rw [if_pos c11] at H
                have c11b0 : decide (0 ≤ x3_2) = true := decide_eq_true c11
                clear c11
                replace H := Option.bind_eq_some_iff.mp H
                obtain ⟨t142, A130, H⟩ := H
                replace H : (if t142 = true then (polyglotlaw02_Right.l0 k2 (wrap64 (x3_2 + 1)) a0_0 a0_1 a0_2) else (some false)) = some r := H
                have A13 := Aside0.mk A130
                clear A130
                by_cases c14 : t142 = true
                · subst c14
                  have H1 : (polyglotlaw02_Right.l0 k2 (wrap64 (x3_2 + 1)) a0_0 a0_1 a0_2) = some r := by rw [if_pos rfl] at H; exact H
                  clear H
                  have H := H1
                  clear H1
                  have H' := Aside0.mk H
                  clear H
                  have hcz15_0 : wr.cell? ⟨gb141, 0, none⟩ = some (.bool a0_0) := (blk_cell BK141.out 0).trans rfl
                  have hcz15_1 : wr.cell? ⟨gb141, 1, none⟩ = some (.string a0_1) := (blk_cell BK141.out 1).trans rfl
                  have hcz15_2 : wr.cell? ⟨gb141, 2, none⟩ = some (.int .i64 a0_2) := (blk_cell BK141.out 2).trans rfl
                  have hfz15_0 := blk_frozen BK141.out 0
                  have hfz15_1 := blk_frozen BK141.out 1
                  have hfz15_2 := blk_frozen BK141.out 2
                  have p12 : 0 ≤ (x3_2 : Int) := of_decide_eq_true (by first | (with_reducible assumption) | assumption)
                  have q12 : x3_2 < (a0_1.size : Int) := of_decide_eq_true (by first | (with_reducible assumption) | assumption)
                  have hx12 := bt_at a0_1 x3_2
                  replace p12 := eq_true p12
                  replace q12 := eq_true q12
                  go_wp2_with (first | ((with_reducible refine gate_callee (f := 35) rfl ?_); refine goesL_ (some 32) rfl rfl Tryd.func35 (by kernel_rfl) rfl #[.int .u8 (bt a0_1 x3_2)] rfl (by (try simp only [List.map_toArray, List.map_cons, List.map_nil]); first | done | rfl | (simp only [List.length_drop, List.length_take]; rfl)) ?_; (with_reducible refine (polyglotlaw02_digit.calls (bt a0_1 x3_2) true _ A13.out).mono ?_); rintro e w' ⟨rfl, ⟨nd, rfl⟩⟩; refine ⟨_, rfl, ?_⟩))
                  go_roundg k2
                  case measure => have := HJ1.out; have := HK2.out; omega
                  case rel => exact ⟨(wrap64 (x3_2 + 1)), (by first | rfl | (simp; done) | (simp [*]; done)), H', ⟨by have := HJ1.out; have := HK2.out; omega⟩, ⟨by (with_reducible repeat (first | refine blk_drewN ?_ _ | refine blk_drew ?_ | refine blk_alloc ?_ _)); exact BK141.out⟩, ⟨by repeat (first | (with_reducible first | exact HB.out | apply below_alloc | apply pw_below_drewN | apply below_drew1 | refine below_set ?_ GE141.out) | exact HB.out)⟩⟩
                · replace c14 := Bool.eq_false_iff.mpr c14
                  subst c14
                  have H1 : (some false) = some r := by rw [if_neg (show ¬ (false = true) by decide)] at H; exact H
                  clear H
                  have H := H1
                  clear H1
                  obtain rfl := Option.some.inj H
                  have hcz16_0 : wr.cell? ⟨gb141, 0, none⟩ = some (.bool a0_0) := (blk_cell BK141.out 0).trans rfl
                  have hcz16_1 : wr.cell? ⟨gb141, 1, none⟩ = some (.string a0_1) := (blk_cell BK141.out 1).trans rfl
                  have hcz16_2 : wr.cell? ⟨gb141, 2, none⟩ = some (.int .i64 a0_2) := (blk_cell BK141.out 2).trans rfl
                  have hfz16_0 := blk_frozen BK141.out 0
                  have hfz16_1 := blk_frozen BK141.out 1
                  have hfz16_2 := blk_frozen BK141.out 2
                  have p12 : 0 ≤ (x3_2 : Int) := of_decide_eq_true (by first | (with_reducible assumption) | assumption)
                  have q12 : x3_2 < (a0_1.size : Int) := of_decide_eq_true (by first | (with_reducible assumption) | assumption)
                  have hx12 := bt_at a0_1 x3_2
                  replace p12 := eq_true p12
                  replace q12 := eq_true q12
                  go_wp2_with (first | ((with_reducible refine gate_callee (f := 35) rfl ?_); refine goesL_ (some 32) rfl rfl Tryd.func35 (by kernel_rfl) rfl #[.int .u8 (bt a0_1 x3_2)] rfl (by (try simp only [List.map_toArray, List.map_cons, List.map_nil]); first | done | rfl | (simp only [List.length_drop, List.length_take]; rfl)) ?_; (with_reducible refine (polyglotlaw02_digit.calls (bt a0_1 x3_2) false _ A13.out).mono ?_); rintro e w' ⟨rfl, ⟨nd, rfl⟩⟩; refine ⟨_, rfl, ?_⟩))
                  go_ret
                  exact ⟨by first | rfl | (simp [errW_none, errW_some] <;> rfl) | (simp [*, errW_none, errW_some] <;> rfl), by repeat (first | (with_reducible first | exact HB.out | apply below_alloc | apply pw_below_drewN | apply below_drew1 | refine below_set ?_ GE141.out) | exact HB.out)⟩
              · rw [if_neg c11] at H
                exact absurd H (by simp)
            · rw [if_neg c10] at H
              have c10b0 : decide (x3_2 < (a0_1.size : Int)) = false := decide_eq_false c10
              clear c10
              by_cases c17 : 0 < (a0_1.size : Int)
              · rw [if_pos c17] at H
                have c17b0 : decide (0 < (a0_1.size : Int)) = true := decide_eq_true c17
                have c17b1 : decide (0 < a0_1.size) = true := decide_eq_true (by omega)
                clear c17
                by_cases c19 : (bt a0_1 0) = 48
                · rw [if_pos c19] at H
                  have c19b0 : ((bt a0_1 0) == 48) = true := beq_iff_eq.mpr c19
                  have c19b1 : ((bt a0_1 0) != 48) = false := bne_eq_false_iff_eq.mpr c19
                  clear c19
                  obtain rfl := Option.some.inj H
                  have hcz20_0 : wr.cell? ⟨gb141, 0, none⟩ = some (.bool a0_0) := (blk_cell BK141.out 0).trans rfl
                  have hcz20_1 : wr.cell? ⟨gb141, 1, none⟩ = some (.string a0_1) := (blk_cell BK141.out 1).trans rfl
                  have hcz20_2 : wr.cell? ⟨gb141, 2, none⟩ = some (.int .i64 a0_2) := (blk_cell BK141.out 2).trans rfl
                  have hfz20_0 := blk_frozen BK141.out 0
                  have hfz20_1 := blk_frozen BK141.out 1
                  have hfz20_2 := blk_frozen BK141.out 2
                  have p18 : 0 ≤ (0 : Int) := (by omega)
                  have q18 : 0 < a0_1.size := (by have : (0 : Int) < (a0_1.size : Int) := of_decide_eq_true (by first | (with_reducible assumption) | assumption); omega)
                  have hx18 : ∀ h : 0 < a0_1.size, ((a0_1[0]'h).toNat : Int) = bt a0_1 0 := bt_at a0_1 0
                  clear p18
                  have qi18 : (0 < (a0_1.size : Int)) = True := eq_true (of_decide_eq_true (by first | (with_reducible assumption) | assumption))
                  replace q18 := eq_true q18
                  go_wp2
                  go_ret
                  exact ⟨by first | rfl | (simp [errW_none, errW_some] <;> rfl) | (simp [*, errW_none, errW_some] <;> rfl), by repeat (first | (with_reducible first | exact HB.out | apply below_alloc | apply pw_below_drewN | apply below_drew1 | refine below_set ?_ GE141.out) | exact HB.out)⟩
                · rw [if_neg c19] at H
                  have c19b0 : ((bt a0_1 0) == 48) = false := beq_eq_false_iff_ne.mpr c19
                  have c19b1 : ((bt a0_1 0) != 48) = true := bne_iff_ne.mpr c19
                  obtain rfl := Option.some.inj H
                  have hcz21_0 : wr.cell? ⟨gb141, 0, none⟩ = some (.bool a0_0) := (blk_cell BK141.out 0).trans rfl
                  have hcz21_1 : wr.cell? ⟨gb141, 1, none⟩ = some (.string a0_1) := (blk_cell BK141.out 1).trans rfl
                  have hcz21_2 : wr.cell? ⟨gb141, 2, none⟩ = some (.int .i64 a0_2) := (blk_cell BK141.out 2).trans rfl
                  have hfz21_0 := blk_frozen BK141.out 0
                  have hfz21_1 := blk_frozen BK141.out 1
                  have hfz21_2 := blk_frozen BK141.out 2
                  have p18 : 0 ≤ (0 : Int) := (by omega)
                  have q18 : 0 < a0_1.size := (by have : (0 : Int) < (a0_1.size : Int) := of_decide_eq_true (by first | (with_reducible assumption) | assumption); omega)
                  have hx18 : ∀ h : 0 < a0_1.size, ((a0_1[0]'h).toNat : Int) = bt a0_1 0 := bt_at a0_1 0
                  clear p18
                  have qi18 : (0 < (a0_1.size : Int)) = True := eq_true (of_decide_eq_true (by first | (with_reducible assumption) | assumption))
                  replace q18 := eq_true q18
                  go_wp2
                  go_ret
                  exact ⟨by first | rfl | (simp [errW_none, errW_some] <;> rfl) | (simp [*, errW_none, errW_some] <;> rfl), by repeat (first | (with_reducible first | exact HB.out | apply below_alloc | apply pw_below_drewN | apply below_drew1 | refine below_set ?_ GE141.out) | exact HB.out)⟩
              · rw [if_neg c17] at H
                exact absurd H (by simp)
end Go.Proofs.YtonjkoeacedaiaaDoor.R
namespace Go.Proofs.YtonjkoeacedaiaaDoor.R
open Go.RowKit Go.Proofs.YtonjkoeacedaiaaDoor.G Go.Proofs.YtonjkoeacedaiaaDoor.U Go.Proofs.YtonjkoeacedaiaaDoorW.PrintWords Go.Proofs.YtonjkoeacedaiaaDoorW.PrintLast Go.Proofs.YtonjkoeacedaiaaDoorW.PrintMore
attribute [local go_sem] max2_int min2_int max_two min_two max_three min_three max_four min_four
set_option linter.unusedVariables false
set_option linter.unusedSimpArgs false
end Go.Proofs.YtonjkoeacedaiaaDoor.R
namespace Go.Proofs.YtonjkoeacedaiaaDoor.R
open Go.RowKit Go.Proofs.YtonjkoeacedaiaaDoor.G Go.Proofs.YtonjkoeacedaiaaDoor.U Go.Proofs.YtonjkoeacedaiaaDoorW.PrintWords Go.Proofs.YtonjkoeacedaiaaDoorW.PrintLast Go.Proofs.YtonjkoeacedaiaaDoorW.PrintMore
attribute [local go_sem] max2_int min2_int max_two min_two max_three min_three max_four min_four
set_option linter.unusedVariables false
set_option linter.unusedSimpArgs false
end Go.Proofs.YtonjkoeacedaiaaDoor.R

namespace Go.Proofs.YtonjkoeacedaiaaDoor.PU
open Go.RowKit Go.Proofs.YtonjkoeacedaiaaDoor Go.Proofs.YtonjkoeacedaiaaDoor.G Go.Proofs.YtonjkoeacedaiaaDoor.U Go.Proofs.YtonjkoeacedaiaaDoor.R Go.Proofs.YtonjkoeacedaiaaDoorW.PrintWords
set_option linter.unusedVariables false
set_option linter.unusedSimpArgs false
abbrev bl (s : ByteArray) : List UInt8 := s.data.toList
theorem sz (s : ByteArray) : s.size = (bl s).length := Lib.size_eq s
theorem ba_ext {a b : ByteArray} (h : bl a = bl b) : a = b := by
  cases a; cases b; congr 1; exact Array.ext' h
theorem mk_bl (s : ByteArray) : (⟨(bl s).toArray⟩ : ByteArray) = s := ba_ext rfl
theorem w64 (x : Int) (h0 : -9223372036854775808 ≤ x) (h1 : x ≤ 9223372036854775807) : wrap64 x = x := by unfold wrap64; omega
theorem bt_nat (s : ByteArray) (i : Nat) (c : UInt8) (h : (bl s)[i]? = some c) : bt s (i : Int) = c.toNat := by
  obtain ⟨hl, e⟩ := List.getElem?_eq_some_iff.1 h
  have hl' : i < s.size := by rw [sz]; exact hl
  unfold bt
  rw [Int.toNat_natCast, dif_pos hl']
  rw [← e]
  rfl
def isDig (c : UInt8) : Bool := decide (48 ≤ c.toNat) && decide (c.toNat ≤ 57)
theorem digit_f (c : UInt8) : polyglotlaw02_digit.f (c.toNat : Int) = some (isDig c) := by
  unfold polyglotlaw02_digit.f isDig
  by_cases h : 48 ≤ c.toNat
  · rw [if_pos (by omega)]
    simp [h]
    omega
  · rw [if_neg (by omega)]
    simp [h]
end Go.Proofs.YtonjkoeacedaiaaDoor.PU
namespace Go.Proofs.YtonjkoeacedaiaaDoor.S
open Go.RowKit Go.Proofs.YtonjkoeacedaiaaDoor Go.Proofs.YtonjkoeacedaiaaDoor.G Go.Proofs.YtonjkoeacedaiaaDoor.U Go.Proofs.YtonjkoeacedaiaaDoor.R Go.Proofs.YtonjkoeacedaiaaDoor.PU Go.Proofs.YtonjkoeacedaiaaDoorW.PrintWords
set_option linter.unusedVariables false
set_option linter.unusedSimpArgs false
abbrev digs (l : List UInt8) : Bool := l.all isDig
end Go.Proofs.YtonjkoeacedaiaaDoor.S
namespace Go.Proofs.YtonjkoeacedaiaaDoor.S
open Go.RowKit Go.Proofs.YtonjkoeacedaiaaDoor Go.Proofs.YtonjkoeacedaiaaDoor.G Go.Proofs.YtonjkoeacedaiaaDoor.U Go.Proofs.YtonjkoeacedaiaaDoor.R Go.Proofs.YtonjkoeacedaiaaDoor.PU Go.Proofs.YtonjkoeacedaiaaDoorW.PrintWords Go.Proofs.YtonjkoeacedaiaaDoorW.PrintMore
set_option linter.unusedVariables false
set_option linter.unusedSimpArgs false
def dv (c : UInt8) : Nat := c.toNat - 48
def val (l : List UInt8) : Nat := l.foldl (fun n c => n * 10 + dv c) 0
theorem digs_of {a : List UInt8} (h : ∀ c ∈ a, isDig c = true) : digs a = true := List.all_eq_true.2 h
structure Num (D : List UInt8) (sc : Nat) : Prop where
  dig : digs D = true
  lt : sc < D.length
  max : D.length ≤ 150
def V (D : List UInt8) (sc : Nat) : Nat := val D * 10 ^ (200 - sc)
def S (neg : Bool) (v : Nat) : Int := if neg = true then -(v : Int) else v
theorem right_loop (n : Bool) (A : List UInt8) (sc : Int) (hA : A.length ≤ 60) (h0 : 0 < A.length) : ∀ (d i : Nat), A.length - i ≤ d → i ≤ A.length → (∀ c ∈ A.take i, isDig c = true) →
    ∃ b, polyglotlaw02_Right.l0 (d + 1) (i : Int) n ⟨A.toArray⟩ sc = some b ∧ (b = true → digs A = true) := by
  have hz : (⟨A.toArray⟩ : ByteArray).size = A.length := sz _
  have fin : ∀ (i k : Nat), A.length ≤ i → i ≤ A.length → (∀ c ∈ A.take i, isDig c = true) → ∃ b, polyglotlaw02_Right.l0 (k + 1) (i : Int) n ⟨A.toArray⟩ sc = some b ∧ (b = true → digs A = true) := by
    intro i k h1 h2 h3
    have hd : digs A = true := digs_of (by rw [List.take_of_length_le h1] at h3; exact h3)
    rw [polyglotlaw02_Right.l0, hz, if_neg (by omega), if_pos (by omega)]
    split
    · exact ⟨_, rfl, fun _ => hd⟩
    · exact ⟨_, rfl, fun _ => hd⟩
  intro d
  induction d with
  | zero => intro i h1 h2 h3; exact fin i 0 (by omega) h2 h3
  | succ d ih =>
    intro i h1 h2 h3
    by_cases hi : i < A.length
    · have hc : (bl ⟨A.toArray⟩)[i]? = some A[i] := List.getElem?_eq_getElem hi
      rw [polyglotlaw02_Right.l0, hz, if_pos (by omega), if_pos (by omega), bt_nat _ i _ hc, digit_f, Option.bind_some]
      by_cases hg : isDig A[i] = true
      · rw [if_pos hg, w64 _ (by omega) (by omega), show (i : Int) + 1 = ((i + 1 : Nat) : Int) by omega]
        refine ih (i + 1) (by omega) (by omega) ?_
        intro c hcm
        rw [List.take_add_one, List.mem_append] at hcm
        rcases hcm with h | h
        · exact h3 c h
        · rw [List.getElem?_eq_getElem hi] at h
          have : c = A[i] := by simpa using h
          rw [this]; exact hg
      · rw [if_neg hg]
        exact ⟨false, rfl, fun h => by cases h⟩
    · exact fin i (d + 1) (by omega) h2 h3
theorem right_any (n : Bool) (A : List UInt8) (sc : Int) (k : Nat) (hk : 100 ≤ k) : ∃ b, polyglotlaw02_Right.f k n ⟨A.toArray⟩ sc = some b ∧ (b = true → ∃ s : Nat, sc = s ∧ Num A s ∧ A.length ≤ 60) := by
  have hz : (⟨A.toArray⟩ : ByteArray).size = A.length := sz _
  obtain ⟨j, rfl⟩ : ∃ j, k = j + 61 + 1 := ⟨k - 62, by omega⟩
  have hj : ∀ x, polyglotlaw02_Right.j0 (j + 61 + 1) true n ⟨A.toArray⟩ x = some false := fun x => by rw [polyglotlaw02_Right.j0, if_pos rfl]
  unfold polyglotlaw02_Right.f
  rw [hz]
  by_cases h1 : sc < 0
  · rw [if_pos h1, hj]; exact ⟨false, rfl, fun h => by cases h⟩
  rw [if_neg h1]
  by_cases h2 : sc ≥ A.length
  · rw [if_pos h2, hj]; exact ⟨false, rfl, fun h => by cases h⟩
  rw [if_neg h2]
  by_cases h3 : A.length > 60
  · rw [show decide ((A.length : Int) > 60) = true from decide_eq_true (by omega), hj]; exact ⟨false, rfl, fun h => by cases h⟩
  rw [show decide ((A.length : Int) > 60) = false from decide_eq_false (by omega), polyglotlaw02_Right.j0, if_neg (by decide)]
  obtain ⟨b, hb, hd⟩ := right_loop n A sc (by omega) (by omega) (j + 60) 0 (by omega) (by omega) (by simp)
  exact ⟨b, hb, fun h => ⟨sc.toNat, by omega, ⟨hd h, by omega, by omega⟩, by omega⟩⟩
def q (v u : Nat) : Nat := if u < 2 * (v % u) ∨ 2 * (v % u) = u ∧ v / u % 2 = 1 then v / u + 1 else v / u
end Go.Proofs.YtonjkoeacedaiaaDoor.S
namespace Go.Proofs.YtonjkoeacedaiaaDoor.S
open Go.RowKit Go.Proofs.YtonjkoeacedaiaaDoor Go.Proofs.YtonjkoeacedaiaaDoor.G Go.Proofs.YtonjkoeacedaiaaDoor.U Go.Proofs.YtonjkoeacedaiaaDoor.R Go.Proofs.YtonjkoeacedaiaaDoor.PU Go.Proofs.YtonjkoeacedaiaaDoorW.PrintWords Go.Proofs.YtonjkoeacedaiaaDoorW.PrintMore
set_option linter.unusedVariables false
set_option linter.unusedSimpArgs false
theorem str_form (n : Bool) (E : ByteArray) (K : Nat) (hK : K < E.size) (hE : E.size ≤ 900) : dec_Dec_String.f n E K = some (stC n E K) := by
  have hW : dec_Dec_Whole.f n E K = some (E.extract 0 (E.size - K)) := by
    unfold dec_Dec_Whole.f
    rw [w64 _ (by omega) (by omega), if_pos (by omega), if_pos (by omega), show ((E.size : Int) - (K : Int)).toNat = E.size - K by omega]
  have hP : dec_Dec_Part.f n E K = some (E.extract (E.size - K) E.size) := by
    unfold dec_Dec_Part.f
    rw [w64 _ (by omega) (by omega), if_pos (by omega), if_pos (by omega), show ((E.size : Int) - (K : Int)).toNat = E.size - K by omega]
  have z1 : (E.extract 0 (E.size - K)).size ≤ 900 := by rw [ByteArray.size_extract]; omega
  have z2 : (E.extract (E.size - K) E.size).size ≤ 900 := by rw [ByteArray.size_extract]; omega
  have z3 : (⟨#[46]⟩ : ByteArray).size = 1 := rfl
  unfold dec_Dec_String.f stC stP
  rw [hW, Option.bind_some]
  by_cases h0 : 0 < K
  · rw [if_pos (by omega), hP, Option.bind_some, if_pos (by omega), if_pos (by rw [ByteArray.size_append, z3]; omega), if_pos h0]
    cases n with
    | true => rw [if_pos rfl, if_pos (by rw [ByteArray.size_append, ByteArray.size_append, z3]; omega), if_pos rfl]
    | false => rw [if_neg (by decide), if_neg (by decide)]
  · rw [if_neg (by omega), if_neg h0]
    cases n with
    | true => rw [if_pos rfl, if_pos (by omega), if_pos rfl]
    | false => rw [if_neg (by decide), if_neg (by decide)]
theorem ext_all (E : ByteArray) : E.extract 0 E.size = E := by
  apply ByteArray.ext
  rw [ByteArray.data_extract]
  exact Array.extract_size
theorem add_none (E : ByteArray) : E ++ zs 0 = E := by
  apply ByteArray.ext
  rw [ByteArray.data_append]
  simp [zs]
theorem same_shape (E : ByteArray) (K : Nat) (hK : K < E.size) : shD 1 K E K = E ∧ shK K E K = K := by
  have t : shT K E K = E.size := by unfold shT; rw [Nat.sub_self]; rfl
  have j : shJ K E K = K := by unfold shJ; rw [t]; omega
  have e : shE K E K = E := by
    unfold shE
    rw [t, j, Nat.sub_self, ext_all, add_none]
  have k : shK K E K = K := by unfold shK; rw [j]; omega
  refine ⟨?_, k⟩
  unfold shD
  rw [e, k, show 1 - (E.size - K) = 0 by omega, zs_none]
theorem same_walk (n : Bool) (A : ByteArray) (sa : Int) (w : World) : Calls Tryd.prog 11 #[.agg #[.bool n, .string A, .int .i64 sa]] w fun e w' => e = .returned (.bool true) ∧ Below w.heap.size w w' := by
  obtain ⟨A, rfl⟩ : ∃ l : List UInt8, A = ⟨l.toArray⟩ := ⟨bl A, (mk_bl A).symm⟩
  obtain ⟨ba, ea, fa⟩ := right_any n A sa 200 (by decide)
  have c1 := fun W => polyglotlaw02_Right.calls 200 n ⟨A.toArray⟩ sa ba W ea
  cases ba with
  | false => exact same_not n ⟨A.toArray⟩ sa false (.inl rfl) c1 w
  | true =>
    obtain ⟨a, rfl, hA, hAl⟩ := fa rfl
    by_cases h20 : a ≤ 20
    · have hz : (⟨A.toArray⟩ : ByteArray).size = A.length := sz _
      have hlt := hA.lt
      have hK : a < (⟨A.toArray⟩ : ByteArray).size := by rw [hz]; exact hlt
      have hE : (⟨A.toArray⟩ : ByteArray).size ≤ 900 := by rw [hz]; omega
      obtain ⟨s1, s2⟩ := same_shape ⟨A.toArray⟩ a hK
      have cR := fun W => round_same n ⟨A.toArray⟩ (a : Int) a a W (by rw [if_neg (by omega)]) (Int.le_refl _)
      have cS := fun W => shape_any 1 a a true false n ⟨A.toArray⟩ a ⟨A.toArray⟩ a cR hK (by omega) (by omega) (by omega) W
      rw [s1, s2] at cS
      exact same_yes n ⟨A.toArray⟩ a hK hE h20 c1 cS (fun W => dec_Dec_String.calls n ⟨A.toArray⟩ a (stC n ⟨A.toArray⟩ a) W (str_form n ⟨A.toArray⟩ a hK hE)) w
    · exact same_not n ⟨A.toArray⟩ a true (.inr (by omega)) c1 w
end Go.Proofs.YtonjkoeacedaiaaDoor.S
namespace Go.Proofs.YtonjkoeacedaiaaDoor.numberSame
open Go.ChangeShapes Go.WideShapes Go.ChangeAt Go.RowKit Go.Proofs.YtonjkoeacedaiaaDoor.E
open Go.ChangeMaps (open_string shut_string)
set_option linter.unusedVariables false
set_option linter.unusedSimpArgs false
theorem laid_met (os : Os) : laidMet Tryd.prog Rows.numberSameRow.laid ((laidWorld os).forCall (fun _ _ => 0) ⟨#[], #[.agg #[.bool false, .string ByteArray.empty, .int .i64 0]], []⟩).memory :=
  laidMet_of_run3 8 (by kernel_rfl) (by kernel_rfl) (by kernel_rfl)
set_option maxRecDepth 100000 in
theorem reads (os : Os) {H : Type} (enc : TypeId × Value → H) : ∃ places, DataW.whole enc Tryd.prog ((laidWorld os).forCall (fun _ _ => 0) ⟨#[], #[.agg #[.bool false, .string ByteArray.empty, .int .i64 0]], []⟩).memory Tryd.f11.params.toList Rows.numberSameSpec.vars false #[Value.agg #[.bool false, .string ByteArray.empty, .int .i64 0]].toList 8 = some ([.agg [.lit (.bool false), .lit (.string []), .lit (.int .i64 0)]], [], places) :=
  ⟨[], by kernel_rfl⟩
set_option maxRecDepth 100000 in
theorem contract (H : Type) (enc : TypeId × Value → H) (W : World) (base : Nat) (args : Array Value) (ds gs : List (DataW H)) (before : List MemPlace)
    (hval : ∀ (j : Nat) t v, Tryd.f11.params[j]? = some t → args[j]? = some v → Value.okWide Tryd.prog W .any base t v)
    (hW : DataW.Whole enc Tryd.prog Tryd.f11.params.toList Rows.numberSameSpec.vars false W args.toList ds gs before) (hL : laidMetH Tryd.prog Rows.numberSameRow.laid W) (hS : W.ShapedOpen Tryd.prog) :
    Calls Tryd.prog 11 args W fun e W' => ∃ v, e = .returned v ∧ Rows.numberSameSpec.post enc Tryd.prog Tryd.f11 false true false false W args v W' := by
  have hW' := hW
  obtain ⟨p, q, hA0, hV, rfl, hfz, hnd⟩ := hW
  have hA : DataW.TrodAll enc Tryd.prog W 0 (fun _ => true) true Tryd.f11.params.toList args.toList ds p := hA0
  rw [Tryd.params11] at hA hval
  have hAk := hA
  have hlt : ∀ x ∈ p, x.block < W.heap.size := fun x hx => by simpa using hW'.lt x (List.mem_append.2 (Or.inl hx))
  obtain ⟨v0, vs0, d0, ds0, p0, q0, hargs, rfl, rfl, h0, r0⟩ := trodAll_cons hA
  obtain ⟨rfl, rfl, rfl⟩ := trodAll_nil r0
  obtain rfl : args = #[v0] := by cases args; simp_all
  obtain ⟨rfl, rfl⟩ := trodVars_none hV
  obtain ⟨n0, s0, k0, rfl, rfl, rfl⟩ := open_dec (hval 0 23 v0 rfl rfl) h0
  clear hA0
  simp only [List.append_nil] at hW' hAk hlt
  have hT := tab_of hS
  refine (S.same_walk n0 s0 k0 W).mono fun e W' ⟨he, hb⟩ => ?_
  subst he
  exact ⟨_, rfl, _, _, _, [], _, [], hW', trodAll_mk1 (shut_bool Tryd.underlying4 _), args_below laidOut hb _ _ _ _ (by decide +kernel) hAk hlt, rfl, hb.frame _, fun h => by cases h⟩
set_option maxRecDepth 100000 in
theorem lifted (os : Os) (started : os.Started) (H : Type) (enc : TypeId × Value → H) (F : Stop.Interp) :
    ReturnsInHanded {} Tryd.checked os 11 .any ((OpenSpec.ofChange Rows.numberSameSpec).preRow enc Tryd.prog Tryd.f11 Rows.numberSameRow.domain false Rows.numberSameRow.laid) (((OpenSpec.ofChange Rows.numberSameSpec).at F).post enc Tryd.prog Tryd.f11 false true false false) := by
  obtain ⟨places, hx⟩ := reads os enc
  refine returnsInHanded_of_row (C := Tryd.checked) (s := OpenSpec.ofChange Rows.numberSameSpec) own started (by kernel_rfl) Tryd.func11
    (witness_row_atRef (enc := enc) (C := Tryd.checked) false (laidWorld os) #[.agg #[.bool false, .string ByteArray.empty, .int .i64 0]] rfl (by kernel_rfl) (by kernel_rfl) (by kernel_rfl)
      (OpenSpec.preRow_of_cond 8 hx (by kernel_rfl) (fun k hk => by cases hk) (by kernel_rfl) (laid_met os))) ?_
  intro W base args ds gs before hval hW _ _ _ hL hS _
  exact contract H enc W base args ds gs before hval hW hL hS
theorem said : Rows.NumberSameSaid :=
  OpenClaim.holds_of_cond 11 Tryd.f11 rfl rfl rfl rfl rfl rfl rfl ⟨rfl, rfl, rfl, rfl, rfl⟩ rfl rfl rfl rfl rfl (by kernel_rfl) Tryd.func11 (by kernel_rfl)
    (of_decide_eq_true (by kernel_rfl)) (by unfold Func.isWrapper; first | (rw [if_pos (by decide +kernel)]; kernel_rfl) | (rw [if_neg (by decide +kernel)]; exact ⟨rfl, rfl⟩))
    (fun os started H enc _ F => by rw [OpenClaim.pre_eq_preRow]; exact lifted os started H enc F)
theorem plain (f : FuncId) (fn : Func) (hf : Tryd.pinned.checked.prog.funcNamed "polyglot/polyglotlaw12.NumberSame" = some f) (hfn : Tryd.pinned.checked.prog.funcs[f]? = some fn) :
    false = Tryd.pinned.checked.prog.looks [] ∧ ∀ (j : Nat) t, fn.params[j]? = some t → Tryd.pinned.checked.prog.wantsStandIn t = false := by
  obtain rfl : f = 11 := Option.some.inj ((show Tryd.prog.funcNamed "polyglot/polyglotlaw12.NumberSame" = some 11 by kernel_rfl).symm.trans hf) |>.symm
  obtain rfl : fn = Tryd.f11 := (Option.some.inj (Tryd.func11.symm.trans hfn)).symm
  refine ⟨by kernel_rfl, fun j t ht => ?_⟩
  rw [Tryd.params11] at ht
  have hmem := Array.mem_of_getElem? ht
  have hall : ∀ t ∈ (#[23] : Array TypeId), Tryd.prog.wantsStandIn t = false := by
    intro t ht
    simp at ht
    subst ht
    kernel_rfl
  exact hall t hmem
end Go.Proofs.YtonjkoeacedaiaaDoor.numberSame
namespace Go.Proofs.YtonjkoeacedaiaaDoor
theorem numberSame_holds : Rows.NumberSameCardSaid :=
  Claim7.holds_tied_plain_at .later [] _ _ _ _ numberSame.said (fun _ h => by cases h) (by kernel_rfl) (fun _ h => by cases h) numberSame_row_tie rfl ⟨rfl, rfl⟩ (by kernel_rfl) rfl numberSame.plain (by kernel_rfl)
end Go.Proofs.YtonjkoeacedaiaaDoor
