/- a number that is written as it is, is written as its digits (Text 2 of 3: what the law's proof rests on, joined; walks printed by the kit's print over given contracts, walks and plain laws by hand.) -/
import Derived.IntWalk
import Derived.Lib.Hide
import Derived.Outline
import Derived.Deep.LoopGhost
import Derived.MapKept
import Derived.WideKeyEntry
import Derived.Tactics2
import Derived.Defers
import Derived.Laws.Pointers
import Derived.Laws.LoneSync
import Derived.Laws.NewBlocks
import Derived.RegionTactic
import Derived.RegionCalls
import Derived.ChangeAlike
import Derived.Maps.Range
import Derived.Carry
import Derived.StillTailTactics
import Derived.Deep.QuietTactic
import Derived.BigQuiet
import Derived.Laws.Cover1
import Derived.Laws.StructEq
import Derived.Test.YtonjkoeacedaiaaDoorProg
import Derived.Below
import Derived.Deep.Draws
import Derived.Deep.AppendLies
import Derived.Maps.AppendAt
import Derived.OwnWalk
import Derived.Laws.BytesArg
import Derived.Laws.MakeOwn
import Derived.Laws.OwnMore
import Derived.Deep.OwnRows
import Derived.Tactics
import Derived.Lib.ConvBytes
import Derived.Laws.Slices
import Derived.WalkKit
import Derived.KernelRfl
import Derived.RowKit3
import Derived.WideLaws
import Derived.Deep.DeepCutAuto
import Derived.Deep.CutBlock
import Derived.Deep.RegionHeld3
import Derived.Laws.Rows
import Derived.Lib.AppendStr
import Derived.ArgAppend
import Derived.Laws.IdiomCopy
import Derived.OrdersHeld
import Derived.Laws.BitsLemmas
import Derived.RowKit
import Derived.Deep.RegionWith
import Derived.Deep.DrawnRows
import Derived.Handy
import Derived.Test.YtonjkoeacedaiaaDoorNsm0
namespace Go.Proofs.YtonjkoeacedaiaaDoor
open Go.RowKit Go.Proofs.YtonjkoeacedaiaaDoorW.PrintWords Go.Proofs.YtonjkoeacedaiaaDoorW.PrintLast
set_option linter.unusedVariables false
set_option linter.unusedSimpArgs false
def shape_four.T : Bool × List (List Nat × List Nat) := (true, [([], []), ([0], [0]), ([], []), ([2], [2]), ([], []), ([4], [4]), ([3, 5], [3, 5]), ([], []), ([7], [7]), ([1, 6, 8], [1, 6, 8]), ([9, 3, 0, 1, 2, 3, 4, 5, 6, 7, 8, 9], [9])])
def shape_four.B : List Nat := [0, 1, 0, 4, 0, 16, 60, 0, 128, 511, 1023]
theorem shape_four.tab : rtab .any (opsOf Tryd.f29 4) = shape_four.T := by kernel_rfl
theorem shape_four.bits : waitsOk shape_four.T.2 shape_four.B = true := by kernel_rfl
set_option maxRecDepth 100000 in
set_option maxHeartbeats 4000000 in
theorem shape_four (w0 : World) (mi mf xf : Int) (pl rk n : Bool) (D Z : ByteArray) (k z : Int) (hD : D.size ≤ 1000) (hZ : Z.size ≤ 1000) (cZ : ∀ W, Calls Tryd.prog 64 #[.string ⟨#[48]⟩, .int .i64 z] W fun e w' => e = .returned (.string Z) ∧ Below W.heap.size W w') (a0 : Act) (s3 : a0.tmps[3]? = some (.pointer (some ⟨w0.heap.size + 1, 0, none⟩))) (s4 : a0.tmps[4]? = some (.pointer (some ⟨w0.heap.size + 1 + 1, 0, none⟩))) (s5 : a0.tmps[5]? = some (.int .i64 z)) (hsz : a0.tmps.size = Tryd.f29.ntmps) (W : World) (hI : Sh w0 mi mf xf pl rk n D k (if (fun _ => false) 10 = true then n else false) (if (fun _ => false) 10 = true then Z ++ D else ⟨#[]⟩) (if (fun _ => false) 10 = true then k else 0) W.drew) (Q : Exit → Act → World → Prop) (hend : ∀ (a9 : Act) w', Sh w0 mi mf xf pl rk n D k (if (fun _ => true) 10 = true then n else false) (if (fun _ => true) 10 = true then Z ++ D else ⟨#[]⟩) (if (fun _ => true) 10 = true then k else 0) w' → a9 = putSel a0 (fun _ => true) [(0, 24, .pointer (some ⟨w0.heap.size + 1, 0, none⟩)), (1, 25, .bool n), (2, 26, .int .i64 z), (3, 27, .string Z), (4, 28, .pointer (some ⟨w0.heap.size + 1, 1, none⟩)), (5, 29, .string D), (6, 30, .string (Z ++ D)), (7, 31, .pointer (some ⟨w0.heap.size + 1, 2, none⟩)), (8, 32, .int .i64 k), (9, 33, .agg #[.bool n, .string (Z ++ D), .int .i64 k])] → a9.defers = a0.defers → Q .normal a9 w') :
    (Code.region 4 #[{ dst := some 24, op := Op.fieldAddr 23 (Operand.tmp 3) 0, type := 0, pos := "number.go:77", after := #[], guard := none }, { dst := some 25, op := Op.load 4 (Operand.tmp 24), type := 4, pos := "number.go:77", after := #[{ on := 0, ground := Ground.data }], guard := none }, { dst := some 26, op := Op.move (Operand.tmp 5), type := 3, pos := "number.go:77", after := #[], guard := none }, { dst := some 27, op := Op.call { callee := Callee.value (Operand.func 64), args := #[Operand.const (Value.string { data := #[48] }), Operand.tmp 26], argTypes := #[9, 3] }, type := 9, pos := "number.go:77", after := #[{ on := 2, ground := Ground.data }], guard := none }, { dst := some 28, op := Op.fieldAddr 23 (Operand.tmp 3) 1, type := 0, pos := "number.go:77", after := #[], guard := none }, { dst := some 29, op := Op.load 9 (Operand.tmp 28), type := 9, pos := "number.go:77", after := #[{ on := 4, ground := Ground.data }], guard := none }, { dst := some 30, op := Op.binOp BinOp.add 9 (Operand.tmp 27) (Operand.tmp 29) 9, type := 9, pos := "number.go:77", after := #[{ on := 3, ground := Ground.data }, { on := 5, ground := Ground.data }], guard := none }, { dst := some 31, op := Op.fieldAddr 23 (Operand.tmp 3) 2, type := 0, pos := "number.go:77", after := #[], guard := none }, { dst := some 32, op := Op.load 3 (Operand.tmp 31), type := 3, pos := "number.go:77", after := #[{ on := 7, ground := Ground.data }], guard := none }, { dst := some 33, op := Op.build 23 #[(0, Operand.tmp 25), (1, Operand.tmp 30), (2, Operand.tmp 32)], type := 23, pos := "number.go:77", after := #[{ on := 1, ground := Ground.data }, { on := 6, ground := Ground.data }, { on := 8, ground := Ground.data }], guard := none }, { dst := none, op := Op.store 23 (Operand.tmp 4) (Operand.tmp 33), type := 0, pos := "number.go:77", after := #[{ on := 9, ground := Ground.data }, { on := 3, ground := Ground.chain }, { on := 0, ground := Ground.phase }, { on := 1, ground := Ground.phase }, { on := 2, ground := Ground.phase }, { on := 3, ground := Ground.phase }, { on := 4, ground := Ground.phase }, { on := 5, ground := Ground.phase }, { on := 6, ground := Ground.phase }, { on := 7, ground := Ground.phase }, { on := 8, ground := Ground.phase }, { on := 9, ground := Ground.phase }], guard := none }] true).wp Tryd.prog Q a0 W := by
  refine start_ (n := 11) (S := fun w' => True) (ds := []) #[false, false, false, false, false, false, false, false, false, false, false] (by kernel_rfl) rfl rfl trivial (fun hHeld => ?_)
  refine with_tabW shape_four.tab shape_four.bits (fun HT_ HW_ => ?_)
  refine inv_at [0, 1, 2, 3, 4, 5, 6, 7, 8, 9, 10] (fun a0_ b a w' => a = putSel a0_ b [(0, 24, .pointer (some ⟨w0.heap.size + 1, 0, none⟩)), (1, 25, .bool n), (2, 26, .int .i64 z), (3, 27, .string Z), (4, 28, .pointer (some ⟨w0.heap.size + 1, 1, none⟩)), (5, 29, .string D), (6, 30, .string (Z ++ D)), (7, 31, .pointer (some ⟨w0.heap.size + 1, 2, none⟩)), (8, 32, .int .i64 k), (9, 33, .agg #[.bool n, .string (Z ++ D), .int .i64 k])] ∧ (Sh w0 mi mf xf pl rk n D k (if b 10 = true then n else false) (if b 10 = true then Z ++ D else ⟨#[]⟩) (if b 10 = true then k else 0) w')) HT_.out HW_.out (by kernel_rfl) (by kernel_rfl) ?_ ?_ ?_
  · exact ⟨(by simp only [putSel, Bool.false_eq_true, if_false]), hI⟩
  · clear hI hend hHeld
    refine steps_cons ?_ ?_
    · rintro b a w' ⟨ha, hI⟩ hb_ hon hoff
      refine ⟨_, rfl, fun K hK => ?_⟩
      have e3 : a.tmps[3]? = some (.pointer (some ⟨w0.heap.size + 1, 0, none⟩)) := by rw [ha]; exact (putSel_off rfl).trans s3
      replace ha := Aside0.mk ha
      obtain ⟨p0, p1, p2, p3, p4, p5⟩ := hI.get
      obtain ⟨r0, r1, r2⟩ := hI.getr
      have z0 := hI.fr 0
      have z1 := hI.fr 1
      have z2 := hI.fr 2
      refine value_ (w1 := w') (v := .pointer (some ⟨w0.heap.size + 1, 0, none⟩)) (by rfl) rfl ?_ ?_
      · go_simp; try rfl
        all_goals (try (simp only [IntKind.wrap_i64]; omega))
      exact hK.out _ _ ⟨(by rw [ha.out]; exact putSel_upk 0 hb_ rfl rfl rfl), hI⟩
    refine steps_cons ?_ ?_
    · rintro b a w' ⟨ha, hI⟩ hb_ hon hoff
      refine ⟨_, rfl, fun K hK => ?_⟩
      have e24 : a.tmps[24]? = some (.pointer (some ⟨w0.heap.size + 1, 0, none⟩)) := by rw [ha]; exact putSel_on (e := (0, 24, .pointer (some ⟨w0.heap.size + 1, 0, none⟩))) 0 rfl rfl (hon 0 (by kernel_rfl)) (by rw [hsz]; rfl)
      replace ha := Aside0.mk ha
      obtain ⟨p0, p1, p2, p3, p4, p5⟩ := hI.get
      obtain ⟨r0, r1, r2⟩ := hI.getr
      have z0 := hI.fr 0
      have z1 := hI.fr 1
      have z2 := hI.fr 2
      refine value_ (w1 := w') (v := .bool n) (by rfl) rfl ?_ ?_
      · go_simp; try rfl
        all_goals (try (simp only [IntKind.wrap_i64]; omega))
      exact hK.out _ _ ⟨(by rw [ha.out]; exact putSel_upk 1 hb_ rfl rfl rfl), hI⟩
    refine steps_cons ?_ ?_
    · rintro b a w' ⟨ha, hI⟩ hb_ hon hoff
      refine ⟨_, rfl, fun K hK => ?_⟩
      have e5 : a.tmps[5]? = some (.int .i64 z) := by rw [ha]; exact (putSel_off rfl).trans s5
      replace ha := Aside0.mk ha
      obtain ⟨p0, p1, p2, p3, p4, p5⟩ := hI.get
      obtain ⟨r0, r1, r2⟩ := hI.getr
      have z0 := hI.fr 0
      have z1 := hI.fr 1
      have z2 := hI.fr 2
      refine value_ (w1 := w') (v := .int .i64 z) (by rfl) rfl ?_ ?_
      · go_simp; try rfl
        all_goals (try (simp only [IntKind.wrap_i64]; omega))
      exact hK.out _ _ ⟨(by rw [ha.out]; exact putSel_upk 2 hb_ rfl rfl rfl), hI⟩
    refine steps_cons ?_ ?_
    · rintro b a w' ⟨ha, hI⟩ hb_ hon hoff
      refine ⟨_, rfl, fun K hK => ?_⟩
      have e26 : a.tmps[26]? = some (.int .i64 z) := by rw [ha]; exact putSel_on (e := (2, 26, .int .i64 z)) 2 rfl rfl (hon 2 (by kernel_rfl)) (by rw [hsz]; rfl)
      replace ha := Aside0.mk ha
      obtain ⟨p0, p1, p2, p3, p4, p5⟩ := hI.get
      obtain ⟨r0, r1, r2⟩ := hI.getr
      have z0 := hI.fr 0
      have z1 := hI.fr 1
      have z2 := hI.fr 2
      refine goes_ Tryd.func64 (by kernel_rfl) rfl #[Go.Value.string { data := #[48] }, .int .i64 z] (by rfl) rfl rfl (by first | (simp only [List.map_toArray, List.map_cons, List.map_nil, Act.eval, Array.getD_eq_getD_getElem?, Option.getD_some, e26]; done) | (simp only [List.map_toArray, List.map_cons, List.map_nil, Act.eval, Array.getD_eq_getD_getElem?, Option.getD_some, e26]; rfl)) ?_
      refine (cZ w').mono ?_
      rintro e w1 ⟨rfl, b1⟩; have hI1 := hI.step b1
      exact ⟨_, rfl, hK.out _ _ ⟨(by rw [ha.out]; exact putSel_upk 3 hb_ rfl rfl rfl), hI1⟩⟩
    refine steps_cons ?_ ?_
    · rintro b a w' ⟨ha, hI⟩ hb_ hon hoff
      refine ⟨_, rfl, fun K hK => ?_⟩
      have e3 : a.tmps[3]? = some (.pointer (some ⟨w0.heap.size + 1, 0, none⟩)) := by rw [ha]; exact (putSel_off rfl).trans s3
      replace ha := Aside0.mk ha
      obtain ⟨p0, p1, p2, p3, p4, p5⟩ := hI.get
      obtain ⟨r0, r1, r2⟩ := hI.getr
      have z0 := hI.fr 0
      have z1 := hI.fr 1
      have z2 := hI.fr 2
      refine value_ (w1 := w') (v := .pointer (some ⟨w0.heap.size + 1, 1, none⟩)) (by rfl) rfl ?_ ?_
      · go_simp; try rfl
        all_goals (try (simp only [IntKind.wrap_i64]; omega))
      exact hK.out _ _ ⟨(by rw [ha.out]; exact putSel_upk 4 hb_ rfl rfl rfl), hI⟩
    refine steps_cons ?_ ?_
    · rintro b a w' ⟨ha, hI⟩ hb_ hon hoff
      refine ⟨_, rfl, fun K hK => ?_⟩
      have e28 : a.tmps[28]? = some (.pointer (some ⟨w0.heap.size + 1, 1, none⟩)) := by rw [ha]; exact putSel_on (e := (4, 28, .pointer (some ⟨w0.heap.size + 1, 1, none⟩))) 4 rfl rfl (hon 4 (by kernel_rfl)) (by rw [hsz]; rfl)
      replace ha := Aside0.mk ha
      obtain ⟨p0, p1, p2, p3, p4, p5⟩ := hI.get
      obtain ⟨r0, r1, r2⟩ := hI.getr
      have z0 := hI.fr 0
      have z1 := hI.fr 1
      have z2 := hI.fr 2
      refine value_ (w1 := w') (v := .string D) (by rfl) rfl ?_ ?_
      · go_simp; try rfl
        all_goals (try (simp only [IntKind.wrap_i64]; omega))
      exact hK.out _ _ ⟨(by rw [ha.out]; exact putSel_upk 5 hb_ rfl rfl rfl), hI⟩
    refine steps_cons ?_ ?_
    · rintro b a w' ⟨ha, hI⟩ hb_ hon hoff
      refine ⟨_, rfl, fun K hK => ?_⟩
      have e27 : a.tmps[27]? = some (.string Z) := by rw [ha]; exact putSel_on (e := (3, 27, .string Z)) 3 rfl rfl (hon 3 (by kernel_rfl)) (by rw [hsz]; rfl)
      have e29 : a.tmps[29]? = some (.string D) := by rw [ha]; exact putSel_on (e := (5, 29, .string D)) 5 rfl rfl (hon 5 (by kernel_rfl)) (by rw [hsz]; rfl)
      replace ha := Aside0.mk ha
      obtain ⟨p0, p1, p2, p3, p4, p5⟩ := hI.get
      obtain ⟨r0, r1, r2⟩ := hI.getr
      have z0 := hI.fr 0
      have z1 := hI.fr 1
      have z2 := hI.fr 2
      refine value_ (w1 := w') (v := .string (Z ++ D)) (by rfl) rfl ?_ ?_
      · exact exec_cat _ rfl (eval_of e27) (eval_of e29) (by omega)
      exact hK.out _ _ ⟨(by rw [ha.out]; exact putSel_upk 6 hb_ rfl rfl rfl), hI⟩
    refine steps_cons ?_ ?_
    · rintro b a w' ⟨ha, hI⟩ hb_ hon hoff
      refine ⟨_, rfl, fun K hK => ?_⟩
      have e3 : a.tmps[3]? = some (.pointer (some ⟨w0.heap.size + 1, 0, none⟩)) := by rw [ha]; exact (putSel_off rfl).trans s3
      replace ha := Aside0.mk ha
      obtain ⟨p0, p1, p2, p3, p4, p5⟩ := hI.get
      obtain ⟨r0, r1, r2⟩ := hI.getr
      have z0 := hI.fr 0
      have z1 := hI.fr 1
      have z2 := hI.fr 2
      refine value_ (w1 := w') (v := .pointer (some ⟨w0.heap.size + 1, 2, none⟩)) (by rfl) rfl ?_ ?_
      · go_simp; try rfl
        all_goals (try (simp only [IntKind.wrap_i64]; omega))
      exact hK.out _ _ ⟨(by rw [ha.out]; exact putSel_upk 7 hb_ rfl rfl rfl), hI⟩
    refine steps_cons ?_ ?_
    · rintro b a w' ⟨ha, hI⟩ hb_ hon hoff
      refine ⟨_, rfl, fun K hK => ?_⟩
      have e31 : a.tmps[31]? = some (.pointer (some ⟨w0.heap.size + 1, 2, none⟩)) := by rw [ha]; exact putSel_on (e := (7, 31, .pointer (some ⟨w0.heap.size + 1, 2, none⟩))) 7 rfl rfl (hon 7 (by kernel_rfl)) (by rw [hsz]; rfl)
      replace ha := Aside0.mk ha
      obtain ⟨p0, p1, p2, p3, p4, p5⟩ := hI.get
      obtain ⟨r0, r1, r2⟩ := hI.getr
      have z0 := hI.fr 0
      have z1 := hI.fr 1
      have z2 := hI.fr 2
      refine value_ (w1 := w') (v := .int .i64 k) (by rfl) rfl ?_ ?_
      · go_simp; try rfl
        all_goals (try (simp only [IntKind.wrap_i64]; omega))
      exact hK.out _ _ ⟨(by rw [ha.out]; exact putSel_upk 8 hb_ rfl rfl rfl), hI⟩
    refine steps_cons ?_ ?_
    · rintro b a w' ⟨ha, hI⟩ hb_ hon hoff
      refine ⟨_, rfl, fun K hK => ?_⟩
      have e25 : a.tmps[25]? = some (.bool n) := by rw [ha]; exact putSel_on (e := (1, 25, .bool n)) 1 rfl rfl (hon 1 (by kernel_rfl)) (by rw [hsz]; rfl)
      have e30 : a.tmps[30]? = some (.string (Z ++ D)) := by rw [ha]; exact putSel_on (e := (6, 30, .string (Z ++ D))) 6 rfl rfl (hon 6 (by kernel_rfl)) (by rw [hsz]; rfl)
      have e32 : a.tmps[32]? = some (.int .i64 k) := by rw [ha]; exact putSel_on (e := (8, 32, .int .i64 k)) 8 rfl rfl (hon 8 (by kernel_rfl)) (by rw [hsz]; rfl)
      replace ha := Aside0.mk ha
      obtain ⟨p0, p1, p2, p3, p4, p5⟩ := hI.get
      obtain ⟨r0, r1, r2⟩ := hI.getr
      have z0 := hI.fr 0
      have z1 := hI.fr 1
      have z2 := hI.fr 2
      refine value_ (w1 := w') (v := .agg #[.bool n, .string (Z ++ D), .int .i64 k]) (by rfl) rfl ?_ ?_
      · go_simp; try rfl
        all_goals (try (simp only [IntKind.wrap_i64]; omega))
      exact hK.out _ _ ⟨(by rw [ha.out]; exact putSel_upk 9 hb_ rfl rfl rfl), hI⟩
    refine steps_cons ?_ ?_
    · rintro b a w' ⟨ha, hI⟩ hb_ hon hoff
      refine ⟨_, rfl, fun K hK => ?_⟩
      have e4 : a.tmps[4]? = some (.pointer (some ⟨w0.heap.size + 1 + 1, 0, none⟩)) := by rw [ha]; exact (putSel_off rfl).trans s4
      have e33 : a.tmps[33]? = some (.agg #[.bool n, .string (Z ++ D), .int .i64 k]) := by rw [ha]; exact putSel_on (e := (9, 33, .agg #[.bool n, .string (Z ++ D), .int .i64 k])) 9 rfl rfl (hon 9 (by kernel_rfl)) (by rw [hsz]; rfl)
      replace ha := Aside0.mk ha
      obtain ⟨p0, p1, p2, p3, p4, p5⟩ := hI.get
      obtain ⟨r0, r1, r2⟩ := hI.getr
      have z0 := hI.fr 0
      have z1 := hI.fr 1
      have z2 := hI.fr 2
      refine skip_ (w1 := ((w'.setCell ⟨w0.heap.size + 1 + 1, 0, none⟩ (.bool n)).setCell ⟨w0.heap.size + 1 + 1, 1, none⟩ (.string (Z ++ D))).setCell ⟨w0.heap.size + 1 + 1, 2, none⟩ (.int .i64 k)) (by rfl) rfl ?_ ?_
      · go_simp
      exact hK.out _ _ ⟨(by rw [ha.out]; exact (putSel_same rfl).symm), hI.putr n (Z ++ D) k⟩
    exact steps_nil
  rintro b a w1 hall ⟨ha, hI1⟩
  simp only [hall 10 (by kernel_rfl)] at hI1
  exact hend a w1 hI1 (by rw [ha]; simp only [putSel, if_true, hall 0 (by kernel_rfl), hall 1 (by kernel_rfl), hall 2 (by kernel_rfl), hall 3 (by kernel_rfl), hall 4 (by kernel_rfl), hall 5 (by kernel_rfl), hall 6 (by kernel_rfl), hall 7 (by kernel_rfl), hall 8 (by kernel_rfl), hall 9 (by kernel_rfl)]) (by rw [ha]; exact (putSel_size b _ a0).2)
end Go.Proofs.YtonjkoeacedaiaaDoor
namespace Go.Proofs.YtonjkoeacedaiaaDoor
open Go.RowKit
set_option linter.unusedVariables false
set_option linter.unusedSimpArgs false
theorem whole_any (n : Bool) (d : ByteArray) (k : Nat) (w : World) (hk : k ≤ d.size) (hs : d.size ≤ 4611686018427387904) :
    Calls Tryd.prog 30 #[decV n d k] w fun e w' => e = .returned (.string (d.extract 0 (d.size - k))) ∧ Below w.heap.size w w' := by
  unfold decV
  have bA := (Below.refl w.heap.size w).alloc (Nat.le_refl _) (.cells #[.bool n, .string d, .int .i64 k] 23)
  have h1 : ((d.size : Int) - k).toNat = d.size - k := by omega
  go_enter Tryd.func30, Tryd.ntmps30
  go_wp2
  go_ret
  exact ⟨rfl, bA⟩
theorem part_any (n : Bool) (d : ByteArray) (k : Nat) (w : World) (hk : k ≤ d.size) (hs : d.size ≤ 4611686018427387904) :
    Calls Tryd.prog 31 #[decV n d k] w fun e w' => e = .returned (.string (d.extract (d.size - k) d.size)) ∧ Below w.heap.size w w' := by
  unfold decV
  have bA := (Below.refl w.heap.size w).alloc (Nat.le_refl _) (.cells #[.bool n, .string d, .int .i64 k] 23)
  have h1 : ((d.size : Int) - k).toNat = d.size - k := by omega
  go_enter Tryd.func31, Tryd.ntmps31
  go_wp2
  go_ret
  exact ⟨rfl, bA⟩
theorem trim0 (d : ByteArray) (w : World) (hs : d.size ≤ 4611686018427387904) :
    Calls Tryd.prog 65 #[.string d, .string ⟨#[48]⟩] w fun e w' => e = .returned (.string ⟨(Lib.trimB d.data.toList 48).toArray⟩) ∧ Below w.heap.size w w' :=
  (Tryd.strings_Trim_one d 48 (by decide) w (by omega)).mono fun e w' ⟨he, hw⟩ => ⟨he, by rcases hw with rfl | rfl; exact Below.refl _ _; exact (Below.refl _ _).drew⟩
theorem zero_any (n : Bool) (d : ByteArray) (k : Int) (w : World) (hs : d.size ≤ 4611686018427387904) :
    Calls Tryd.prog 32 #[decV n d k] w fun e w' => e = .returned (.bool (Lib.trimB d.data.toList 48).isEmpty) ∧ Below w.heap.size w w' := by
  unfold decV
  have bA := (Below.refl w.heap.size w).alloc (Nat.le_refl _) (.cells #[.bool n, .string d, .int .i64 k] 23)
  have hsz := bA.size
  obtain ⟨L, hL⟩ : ∃ L, Lib.trimB d.data.toList 48 = L := ⟨_, rfl⟩
  have cT := fun w => trim0 d w hs
  rw [hL] at cT ⊢
  clear hL
  go_enter Tryd.func32, Tryd.ntmps32
  go_wp2_with (go_at_call 65; refine (cT _).mono ?_; rintro e W1 ⟨rfl, b1⟩)
  go_ret
  exact ⟨rfl, bA.trans (b1.mono hsz)⟩
end Go.Proofs.YtonjkoeacedaiaaDoor
namespace Go.Proofs.YtonjkoeacedaiaaDoor
open Go.RowKit
open Go.Proofs.YtonjkoeacedaiaaDoorW.PrintWords Go.Proofs.YtonjkoeacedaiaaDoorW.PrintLast Go.Proofs.YtonjkoeacedaiaaDoorW.PrintMore
set_option linter.unusedVariables false
set_option linter.unusedSimpArgs false
theorem tz_ge (d : ByteArray) : ∀ f i, i - f ≤ tz d f i
  | 0, i => Nat.le_refl _
  | f + 1, i => by
    unfold tz
    split
    · have := tz_ge d f (i - 1); omega
    · omega
def shT (mf : Nat) (r : ByteArray) (k : Nat) : Nat := tz r (k - mf) r.size
def shJ (mf : Nat) (r : ByteArray) (k : Nat) : Nat := k - (r.size - shT mf r k)
def shE (mf : Nat) (r : ByteArray) (k : Nat) : ByteArray := r.extract 0 (shT mf r k) ++ zs (mf - shJ mf r k)
def shK (mf : Nat) (r : ByteArray) (k : Nat) : Nat := shJ mf r k + (mf - shJ mf r k)
def shD (mi mf : Nat) (r : ByteArray) (k : Nat) : ByteArray := zs (mi - ((shE mf r k).size - shK mf r k)) ++ shE mf r k
theorem zs_none (d : ByteArray) : zs 0 ++ d = d := by
  apply ByteArray.ext
  rw [ByteArray.data_append]
  simp [zs]
set_option maxRecDepth 100000 in
set_option maxHeartbeats 4000000 in
theorem shape_any (mi mf : Nat) (xf : Int) (pl rk n : Bool) (D : ByteArray) (k : Int) (r : ByteArray) (k1 : Nat)
    (hR : ∀ W, Calls Tryd.prog 40 #[decV n D k, .int .i64 xf] W fun e w' => e = .returned (decV n r k1) ∧ Below W.heap.size W w')
    (hk : k1 < r.size) (hr : r.size ≤ 800) (hmf : mf ≤ 20) (hmi : mi ≤ 20) (w : World) :
    Calls Tryd.prog 29 #[optV mi mf xf pl rk, decV n D k] w fun e w' => e = .returned (decV n (shD mi mf r k1) (shK mf r k1)) ∧ Below w.heap.size w w' := by
  have t1 : shT mf r k1 ≤ r.size := tz_le _ _ _
  have t2 : r.size - (k1 - mf) ≤ shT mf r k1 := tz_ge _ _ _
  have cT := fun W => trim_any n r k1 mf W hk (by omega) (by omega)
  have e2 : (k1 : Int) - (r.size - tz r (k1 - mf) r.size : Nat) = (shJ mf r k1 : Nat) := by unfold shJ; unfold shT at *; omega
  rw [e2] at cT
  have j1 : shJ mf r k1 < shT mf r k1 := by unfold shJ; omega
  have s2 := extract_size r _ t1
  have cP := fun W => pad_any n (r.extract 0 (shT mf r k1)) (shJ mf r k1) mf W (by rw [s2]; exact j1) (by rw [s2]; omega) (by omega)
  have e3 : ((shJ mf r k1 : Nat) : Int) + (mf - shJ mf r k1 : Nat) = (shK mf r k1 : Nat) := by unfold shK; omega
  rw [e3] at cP
  have s3 : (shE mf r k1).size = shT mf r k1 + (mf - shJ mf r k1) := by unfold shE; rw [ByteArray.size_append, s2, zs_size]
  have k3 : shK mf r k1 < (shE mf r k1).size := by rw [s3]; unfold shK; omega
  have cW := fun W => whole_any n (shE mf r k1) (shK mf r k1) W (by omega) (by omega)
  have s4 := extract_size (shE mf r k1) ((shE mf r k1).size - shK mf r k1) (by omega)
  have hS := Sh.start w mi mf xf pl rk n D k
  have cP' : ∀ W, Calls Tryd.prog 47 #[decV n (r.extract 0 (shT mf r k1)) (shJ mf r k1), .int .i64 (mf : Int)] W fun e w' => e = .returned (decV n (shE mf r k1) (shK mf r k1)) ∧ Below W.heap.size W w' := cP
  have cT' : ∀ W, Calls Tryd.prog 46 #[decV n r k1, .int .i64 (mf : Int)] W fun e w' => e = .returned (decV n (r.extract 0 (shT mf r k1)) (shJ mf r k1)) ∧ Below W.heap.size W w' := cT
  have hD : shD mi mf r k1 = zs (mi - ((shE mf r k1).size - shK mf r k1)) ++ shE mf r k1 := rfl
  clear cP cT e2 e3
  generalize shD mi mf r k1 = DD at *
  generalize r.extract 0 (shT mf r k1) = D2 at *
  generalize shE mf r k1 = E at *
  generalize shK mf r k1 = K at *
  unfold decV at *
  unfold optV
  go_enter Tryd.func29, Tryd.ntmps29
  go_wp2
  refine shape_one w mi mf xf pl rk n D r D2 E k k1 (shJ mf r k1) K hR cT' cP' _ rfl rfl rfl _ hS.drew _ ?_
  intro a9 w9 h9 ha9 hd9
  have h8 : Sh w mi mf xf pl rk n E K false ⟨#[]⟩ 0 w9 := h9
  rw [ha9]
  simp only [putSel, if_true, Act.put, List.setIfInBounds_toArray, List.set_cons_zero, List.set_cons_succ]
  clear ha9 hd9 h9 hS hR cT' cP'
  go_wp2
  refine shape_two w mi mf xf pl rk n E (E.extract 0 (E.size - K)) K (by omega) (by omega) (by omega) cW _ rfl rfl rfl _ h8.drew _ ?_
  intro b9 v9 g9 hb9 hbd9 hb5
  rw [hb9]
  simp only [putSel, if_true, Act.put, List.setIfInBounds_toArray, List.set_cons_zero, List.set_cons_succ]
  clear hb9 hbd9 hb5 h8 cW
  rw [s4]
  by_cases hc : E.size - K < mi
  · have g1 : decide ((mi : Int) - (E.size - K : Nat) > 0) = true := decide_eq_true (by omega)
    have cZ := fun W => rep_any (mi - (E.size - K)) (by omega) W
    have ez : ((mi - (E.size - K) : Nat) : Int) = (mi : Int) - (E.size - K : Nat) := by omega
    rw [ez] at cZ
    go_wp2
    refine shape_four w mi mf xf pl rk n E (zs (mi - (E.size - K))) K ((mi : Int) - (E.size - K : Nat)) (by omega) (by rw [zs_size]; omega) cZ _ rfl rfl rfl rfl _ g9.drew _ ?_
    intro c9 u9 f9 hc9 hcd9
    have f8 : Sh w mi mf xf pl rk n E K n (zs (mi - (E.size - K)) ++ E) K u9 := f9
    obtain ⟨r0, r1, r2⟩ := f8.getr
    have bel := f8.bel
    rw [hc9]
    simp only [putSel, if_true, Act.put, List.setIfInBounds_toArray, List.set_cons_zero, List.set_cons_succ]
    clear hc9 hcd9 f9 f8 g9
    rw [← hD] at r1
    go_wp2
    refine bodyPost_ret (v := .agg #[.bool n, .string DD, .int .i64 K]) (by simp [results, Tryd.results29, go_sem, r0, r1, r2]) rfl ?_
    exact ⟨rfl, bel⟩
  · have g1 : decide ((mi : Int) - (E.size - K : Nat) > 0) = false := decide_eq_false (by omega)
    rw [show mi - (E.size - K) = 0 by omega, zs_none] at hD
    subst hD
    obtain ⟨p0, p1, p2, p3, p4, p5⟩ := g9.get
    obtain ⟨r0, r1, r2⟩ := g9.getr
    have z0 := g9.fr 0
    have z1 := g9.fr 1
    have z2 := g9.fr 2
    have f8 := g9.putr n DD K
    obtain ⟨t0, t1, t2⟩ := f8.getr
    have bel := f8.bel
    go_wp2
    refine bodyPost_ret (v := .agg #[.bool n, .string DD, .int .i64 K]) (by simp [results, Tryd.results29, go_sem, t0, t1, t2]) rfl ?_
    exact ⟨rfl, bel⟩
end Go.Proofs.YtonjkoeacedaiaaDoor
namespace Go.Proofs.YtonjkoeacedaiaaDoor.M
open Go.RowKit
set_option linter.unusedVariables false
set_option linter.unusedSimpArgs false
def ent : List (ByteArray × ByteArray) → Nat → List MapEntry
  | [], _ => []
  | p :: r, n => ⟨.string p.1, .string p.2, n⟩ :: ent r (n + 1)
def look : List (ByteArray × ByteArray) → ByteArray → Option ByteArray
  | [], _ => none
  | p :: r, k => if (k == p.1) = true then some p.2 else look r k
theorem ent_length : ∀ (l : List (ByteArray × ByteArray)) (n : Nat), (ent l n).length = l.length
  | [], _ => rfl
  | p :: r, n => by simp [ent, ent_length r]
theorem ent_app : ∀ (l m : List (ByteArray × ByteArray)) (n : Nat), ent (l ++ m) n = ent l n ++ ent m (n + l.length)
  | [], m, n => by simp [ent]
  | p :: r, m, n => by simp [ent, ent_app r m (n + 1), Nat.add_assoc, Nat.add_comm 1]
theorem find_ent (k : ByteArray) : ∀ (l : List (ByteArray × ByteArray)) (n i : Nat),
    (look l k = none ∧ Instr.findNow .string (.string k) (ent l n) i = some none) ∨ ∃ v j, look l k = some v ∧ Instr.findNow .string (.string k) (ent l n) i = some (some (j, .string v))
  | [], n, i => .inl ⟨rfl, rfl⟩
  | p :: r, n, i => by
    cases h : (k == p.1) with
    | true => exact .inr ⟨p.2, i, by simp [look, h], by simp [ent, Instr.findNow, Instr.sameNow, h]⟩
    | false =>
      rcases find_ent k r (n + 1) (i + 1) with ⟨h1, h2⟩ | ⟨v, j, h1, h2⟩
      · exact .inl ⟨by simp [look, h, h1], by simp [ent, Instr.findNow, Instr.sameNow, h, h2]⟩
      · exact .inr ⟨v, j, by simp [look, h, h1], by simp [ent, Instr.findNow, Instr.sameNow, h, h2]⟩
def obj (l : List (ByteArray × ByteArray)) : Obj := .map (ent l 0).toArray l.length
def half (l : List (ByteArray × ByteArray)) (k : ByteArray) : Obj := .map ((ent l 0).toArray.push ⟨.string k, .string ⟨#[]⟩, l.length⟩) (l.length + 1)
def setObj (w : World) (r : Nat) (o : Obj) : World := { w with heap := w.heap.setIfInBounds r o }
section
variable {P : Program} {t kt et : TypeId} {w : World} {r : Nat} {l : List (ByteArray × ByteArray)}
theorem run_look (hm : P.underlying t = some (.map kt et)) (hk : P.underlying kt = some .string) (hz : ∀ u : World, (zeroValue et).run P u = .ok (.string ⟨#[]⟩) u) (hb : w.heap[r]? = some (obj l)) (k : ByteArray) (c : Bool) :
    (Instr.lookup t (.map (some r)) (.string k) c).run P w = .ok (if c then .tuple #[.string ((look l k).getD ⟨#[]⟩), .bool (look l k).isSome] else .string ((look l k).getD ⟨#[]⟩)) w := by
  have hc : ∀ e, (Instr.checkKey e 10000 kt (.string k)).run P w = .ok () w := fun e => MapKept.run_checkKey (k := .string k) hk (show MapKept.IsKey .string (.string k) from trivial) e 9999
  rcases find_ent k l 0 0 with ⟨h1, h2⟩ | ⟨v, j, h1, h2⟩
  · simp [Instr.lookup, run_underlying hm, MapKept.run_getObj_map hb, hc, MapKept.run_findKey hk h2, hz, h1, Result.andThen]
  · simp [Instr.lookup, run_underlying hm, MapKept.run_getObj_map hb, hc, MapKept.run_findKey hk h2, h1, Result.andThen]
theorem run_entry (hm : P.underlying t = some (.map kt et)) (hk : P.underlying kt = some .string) (hz : ∀ u : World, (zeroValue et).run P u = .ok (.string ⟨#[]⟩) u) (hb : w.heap[r]? = some (obj l)) {k : ByteArray} (hn : look l k = none) :
    (Instr.mapEntry t (.map (some r)) (.string k)).run P w = .ok (.tuple #[.string ⟨#[]⟩, goInt l.length]) (setObj w r (half l k)) := by
  have hc : ∀ e, (Instr.checkKey e 10000 kt (.string k)).run P w = .ok () w := fun e => MapKept.run_checkKey (k := .string k) hk (show MapKept.IsKey .string (.string k) from trivial) e 9999
  rcases find_ent k l 0 0 with ⟨h1, h2⟩ | ⟨v, j, h1, h2⟩
  · simp [Instr.mapEntry, run_underlying hm, MapKept.run_getObj_map hb, hc, MapKept.run_findKey hk h2, hz, Result.andThen, MapKept.run_setObj_map _ hb, setObj, half]
  · rw [hn] at h1; cases h1
theorem born_ent : ∀ (l : List (ByteArray × ByteArray)) (n : Nat) (x : MapEntry), (ent l n ++ [{ x with born := n + l.length }]).findIdx? (fun e : MapEntry => ((e.born : Nat) : Int) == ((n + l.length : Nat) : Int)) = some l.length
  | [], n, x => by simp [ent, List.findIdx?_cons]
  | p :: r, n, x => by
    have h := born_ent r (n + 1) x
    have e1 : n + (p :: r).length = n + 1 + r.length := by simp; omega
    rw [e1]
    simp only [ent, List.cons_append, List.findIdx?_cons]
    have e2 : (((n : Nat) : Int) == ((n + 1 + r.length : Nat) : Int)) = false := by simp; omega
    rw [e2, h]
    simp
theorem run_put {k : ByteArray} (hb : w.heap[r]? = some (half l k)) (v : ByteArray) :
    (Instr.entryStore t (.map (some r)) (goInt l.length) (.string v)).run P w = .ok () (setObj w r (obj (l ++ [(k, v)]))) := by
  have h1 := born_ent l 0 ⟨.string k, .string ⟨#[]⟩, 0⟩
  have h2 : ((ent l 0).toArray.push ⟨.string k, .string ⟨#[]⟩, l.length⟩).findIdx? (fun e : MapEntry => ((e.born : Nat) : Int) == ((l.length : Nat) : Int)) = some l.length := by
    rw [WideElems.findIdx_arr]
    simpa using h1
  have h3 : ((ent l 0).toArray.push ⟨.string k, .string ⟨#[]⟩, l.length⟩).modify l.length (fun e => { e with val := .string v }) = (ent (l ++ [(k, v)]) 0).toArray := by
    apply Array.ext'
    rw [Array.toList_modify, Array.toList_push, ent_app]
    have h := WideElems.modify_last (fun e : MapEntry => { e with val := .string v }) ⟨.string k, .string ⟨#[]⟩, l.length⟩ (ent l 0)
    rw [ent_length] at h
    simpa [ent] using h
  have hb' : w.heap[r]? = some (.map ((ent l 0).toArray.push ⟨.string k, .string ⟨#[]⟩, l.length⟩) (l.length + 1)) := hb
  simp only [Instr.entryStore, goInt, asInt, asIntOf, Sem.run_bind, Sem.run_pure, MapKept.run_getObj_map hb', Result.andThen_ok, h2, h3, MapKept.run_setObj_map _ hb', setObj, obj, List.length_append, List.length_cons, List.length_nil]
end
theorem setObj_same {w : World} {r : Nat} {o0 : Obj} (h : w.heap[r]? = some o0) (o : Obj) : (setObj w r o).heap[r]? = some o := (MapKept.heap_set h).1
theorem setObj_far {w : World} {r k : Nat} (o : Obj) (hne : k ≠ r) : (setObj w r o).heap[k]? = w.heap[k]? := by simp [setObj, Ne.symm hne]
theorem setObj_grown (w : World) (r : Nat) (o : Obj) : w.grownBy (setObj w r o) (some r) :=
  ⟨rfl, rfl, rfl, by simp [setObj], fun k _ hk => setObj_far o (fun e => hk (by rw [e]))⟩
end Go.Proofs.YtonjkoeacedaiaaDoor.M
namespace Go.Proofs.YtonjkoeacedaiaaDoor.M
open Go.RowKit
set_option linter.unusedVariables false
set_option linter.unusedSimpArgs false
theorem heap_setCell {W : World} {b i : Nat} {v : Value} {cs : Array Value} {T : TypeId} {fr : Nat × Nat} (h : W.heap[b]? = some (.cells cs T fr)) : (W.setCell ⟨b, i, none⟩ v).heap[b]? = some (.cells (cs.setIfInBounds i v) T fr) := by
  simp [World.setCell, Array.getElem?_modify, h]
theorem heap_setCell_far {W : World} {b i k : Nat} {v : Value} (h : k ≠ b) : (W.setCell ⟨b, i, none⟩ v).heap[k]? = W.heap[k]? := by
  simp [World.setCell, Array.getElem?_modify, Ne.symm h]
theorem grown_setCell (w : World) (b i : Nat) (u : Value) : w.grownBy (w.setCell ⟨b, i, none⟩ u) (some b) :=
  ⟨rfl, rfl, rfl, by simp [World.setCell], fun k _ hk => heap_setCell_far (fun e => hk (by rw [e]))⟩
theorem grown_refl (w : World) (row : Option Nat) : w.grownBy w row := ⟨rfl, rfl, rfl, Nat.le_refl _, fun _ _ _ => rfl⟩
theorem grown_drew (w : World) (row : Option Nat) : w.grownBy w.drew row := ⟨rfl, rfl, rfl, Nat.le_refl _, fun _ _ _ => rfl⟩
theorem grown_below {w w' : World} {row : Option Nat} {B : Nat} (h : Below B w w') (hB : w.heap.size ≤ B) : w.grownBy w' row :=
  ⟨h.os, h.tape, h.output, h.size, fun i hi _ => h.block i (Nat.lt_of_lt_of_le hi hB)⟩
def mkc (d s a : Int) (p g : Option Nat) : Array Value := #[.int .u32 d, .int .i32 s, .int .u32 0, .int .i64 a, .map p, .map g]
structure Mk (b : Nat) (d s a : Int) (p g : Option Nat) (W : World) : Prop where
  blk : W.heap[b]? = some (.cells (mkc d s a p g) 56 (0, 0))
section
variable {b : Nat} {d s a : Int} {p g : Option Nat} {W : World}
theorem Mk.c0 (h : Mk b d s a p g W) : W.cell? ⟨b, 0, none⟩ = some (.int .u32 d) := (Lib.cell_of_heap h.blk 0).trans rfl
theorem Mk.c1 (h : Mk b d s a p g W) : W.cell? ⟨b, 1, none⟩ = some (.int .i32 s) := (Lib.cell_of_heap h.blk 1).trans rfl
theorem Mk.c2 (h : Mk b d s a p g W) : W.cell? ⟨b, 2, none⟩ = some (.int .u32 0) := (Lib.cell_of_heap h.blk 2).trans rfl
theorem Mk.c3 (h : Mk b d s a p g W) : W.cell? ⟨b, 3, none⟩ = some (.int .i64 a) := (Lib.cell_of_heap h.blk 3).trans rfl
theorem Mk.c4 (h : Mk b d s a p g W) : W.cell? ⟨b, 4, none⟩ = some (.map p) := (Lib.cell_of_heap h.blk 4).trans rfl
theorem Mk.c5 (h : Mk b d s a p g W) : W.cell? ⟨b, 5, none⟩ = some (.map g) := (Lib.cell_of_heap h.blk 5).trans rfl
theorem Mk.fz (h : Mk b d s a p g W) (i : Nat) : W.frozen? ⟨b, i, none⟩ = false := by simp [World.frozen?, h.blk]
theorem Mk.s0 (h : Mk b d s a p g W) (x : Int) : Mk b x s a p g (W.setCell ⟨b, 0, none⟩ (.int .u32 x)) := ⟨(heap_setCell h.blk).trans rfl⟩
theorem Mk.s1 (h : Mk b d s a p g W) (x : Int) : Mk b d x a p g (W.setCell ⟨b, 1, none⟩ (.int .i32 x)) := ⟨(heap_setCell h.blk).trans rfl⟩
theorem Mk.s3 (h : Mk b d s a p g W) (x : Int) : Mk b d s x p g (W.setCell ⟨b, 3, none⟩ (.int .i64 x)) := ⟨(heap_setCell h.blk).trans rfl⟩
theorem Mk.s4 (h : Mk b d s a p g W) (x : Option Nat) : Mk b d s a x g (W.setCell ⟨b, 4, none⟩ (.map x)) := ⟨(heap_setCell h.blk).trans rfl⟩
theorem Mk.s5 (h : Mk b d s a p g W) (x : Option Nat) : Mk b d s a p x (W.setCell ⟨b, 5, none⟩ (.map x)) := ⟨(heap_setCell h.blk).trans rfl⟩
theorem Mk.drew (h : Mk b d s a p g W) : Mk b d s a p g W.drew := ⟨h.blk⟩
theorem Mk.lt (h : Mk b d s a p g W) : b < W.heap.size := (Array.getElem?_eq_some_iff.1 h.blk).1
theorem Mk.kept {W1 : World} {row : Option Nat} (h : Mk b d s a p g W) (hg : W.grownBy W1 row) (hne : some b ≠ row) : Mk b d s a p g W1 := ⟨(hg.block b h.lt hne).trans h.blk⟩
end
theorem disable (w : World) : (callFunc 160 #[]).run Tryd.prog w = .ok (.value (.tuple #[])) w := run_call_mark0 Tryd.func160 (by kernel_rfl) (by kernel_rfl) (by kernel_rfl) .disable (by kernel_rfl) w
theorem enable (w : World) : (callFunc 162 #[]).run Tryd.prog w = .ok (.value (.tuple #[])) w := run_call_mark0 Tryd.func162 (by kernel_rfl) (by kernel_rfl) (by kernel_rfl) .enable (by kernel_rfl) w
theorem acquire (a : Addr) (w : World) : (callFunc 163 #[.pointer (some a)]).run Tryd.prog w = .ok (.value (.tuple #[])) w := run_call_marked Tryd.func163 (by kernel_rfl) (by kernel_rfl) (by kernel_rfl) .acquire (by kernel_rfl) a w
theorem releaseMerge (a : Addr) (w : World) : (callFunc 165 #[.pointer (some a)]).run Tryd.prog w = .ok (.value (.tuple #[])) w := run_call_marked Tryd.func165 (by kernel_rfl) (by kernel_rfl) (by kernel_rfl) .releaseMerge (by kernel_rfl) a w
theorem not_run (x : Bool) (w : World) : (Op.unary .not (.bool x)).run Tryd.prog w = .ok (.bool (!x)) w := rfl
theorem load_any (a : Addr) (d : Int) (w : World) (h0 : w.cell? a = some (.int .u32 d)) :
    Calls Tryd.prog 89 #[.pointer (some a)] w fun e w' => e = .returned (.bool (d != 0)) ∧ w' = w := by
  have hl := run_call_load (P := Tryd.prog) Tryd.func119 (by kernel_rfl) (by kernel_rfl) (by kernel_rfl) .u32 (by kernel_rfl) h0
  go_enter Tryd.func89, Tryd.ntmps89
  go_wp2
  go_ret
  exact ⟨rfl, rfl⟩
set_option maxRecDepth 100000 in
set_option maxHeartbeats 1600000 in
theorem inner_lock (a : Addr) (w : World) (hc : w.cell? a = some (.int .i32 0)) (hz : w.frozen? a = false) :
    Calls Tryd.prog 144 #[.pointer (some a)] w fun e w' => e = .returned (.tuple #[]) ∧ w' = w.setCell a (.int .i32 1) := by
  have hd := disable
  have he := enable
  have ha := acquire
  have hcas := run_call_cas_hit (P := Tryd.prog) Tryd.func161 (by kernel_rfl) (by kernel_rfl) (by kernel_rfl) .i32 (by kernel_rfl) (y := 1) hc hz
  have hc' : (w.setCell a (.int .i32 1)).cell? a = some (.int .i32 1) := World.cell?_setCell_same w a _ hc
  have hcv := run_convert_to_unsafe (P := Tryd.prog) (src := 202) (dst := 194) Tryd.underlying202 Tryd.underlying194 (by kernel_rfl) hc'
  go_enter Tryd.func144, Tryd.ntmps144
  go_wp2
  first | go_end0 | (simp only [Exit.inBlock, Exit.then]; refine bodyPost_ret (results_none rfl _ _ _) rfl ?_) | refine bodyPost_ret (results_none rfl _ _ _) rfl ?_
  all_goals (try go_wp2)
  all_goals (try go_end0)
  all_goals exact ⟨rfl, rfl⟩
theorem lock_free (a : Addr) (w : World) (hc : w.cell? a = some (.int .i32 0)) (hz : w.frozen? a = false) :
    Calls Tryd.prog 120 #[.pointer (some a)] w fun e w' => e = .returned (.tuple #[]) ∧ w' = w.setCell a (.int .i32 1) := by
  go_enter Tryd.func120, Tryd.ntmps120
  go_wp2_with (go_at_call 144; refine (inner_lock a _ hc hz).mono ?_; rintro e w' ⟨rfl, rfl⟩)
  go_end0
  exact ⟨rfl, rfl⟩
set_option maxRecDepth 100000 in
set_option maxHeartbeats 1600000 in
theorem inner_unlock (a : Addr) (w : World) (hc : w.cell? a = some (.int .i32 1)) (hz : w.frozen? a = false) :
    Calls Tryd.prog 145 #[.pointer (some a)] w fun e w' => e = .returned (.tuple #[]) ∧ w' = w.setCell a (.int .i32 0) := by
  have hd := disable
  have he := enable
  have hr := releaseMerge
  have hadd := run_call_add (P := Tryd.prog) Tryd.func166 (by kernel_rfl) (by kernel_rfl) (by kernel_rfl) .i32 (by kernel_rfl) (y := -1) (s := 0) hc hz (by simp [go_sem]; rfl)
  have hcv := run_convert_to_unsafe (P := Tryd.prog) (src := 202) (dst := 194) Tryd.underlying202 Tryd.underlying194 (by kernel_rfl) hc
  go_enter Tryd.func145, Tryd.ntmps145
  go_wp2
  go_end0
  all_goals (try go_wp2)
  all_goals (try go_end0)
  all_goals exact ⟨rfl, rfl⟩
theorem unlock_deferred (a : Addr) (u : FrameMode) (w : World) (hc : w.cell? a = some (.int .i32 1)) (hz : w.frozen? a = false) :
    CallsD Tryd.prog 121 #[.pointer (some a)] u w fun e u' w' => u' = u ∧ (e = .returned (.tuple #[]) ∧ w' = w.setCell a (.int .i32 0)) := by
  go_enter_d Tryd.func121, Tryd.ntmps121
  go_wp2_with (go_at_call 145; refine (inner_unlock a _ hc hz).mono ?_; rintro e w' ⟨rfl, rfl⟩)
  go_end0
  exact ⟨rfl, rfl⟩
theorem store_deferred (a : Addr) (x : Value) (u : FrameMode) (w : World) (hc : w.cell? a = some x) (hz : w.frozen? a = false) :
    CallsD Tryd.prog 122 #[.pointer (some a), .bool true] u w fun e u' w' => u' = u ∧ (e = .returned (.tuple #[]) ∧ w' = w.drew.setCell a (.int .u32 1)) := by
  have hc' : w.drew.cell? a = some x := by go_simp
  have hz' : w.drew.frozen? a = false := by go_simp
  have hst := run_call_store (P := Tryd.prog) Tryd.func146 (by kernel_rfl) (by kernel_rfl) (by kernel_rfl) (by kernel_rfl) (k := .u32) (y := 1) hc' hz'
  go_enter_d Tryd.func122, Tryd.ntmps122
  go_wp2
  go_region_calls
  all_goals (go_end0; exact ⟨rfl, rfl⟩)
end Go.Proofs.YtonjkoeacedaiaaDoor.M
namespace Go.Proofs.YtonjkoeacedaiaaDoor.M
open Go.RowKit
set_option linter.unusedVariables false
set_option linter.unusedSimpArgs false
def ptsL : List (ByteArray × ByteArray) := [(⟨#[100, 101]⟩, ⟨#[44]⟩), (⟨#[110, 108]⟩, ⟨#[44]⟩), (⟨#[101, 115]⟩, ⟨#[44]⟩), (⟨#[102, 114]⟩, ⟨#[44]⟩), (⟨#[114, 117]⟩, ⟨#[44]⟩), (⟨#[99, 115]⟩, ⟨#[44]⟩), (⟨#[112, 108]⟩, ⟨#[44]⟩), (⟨#[115, 118]⟩, ⟨#[44]⟩)]
def grsL : List (ByteArray × ByteArray) := [(⟨#[100, 101]⟩, ⟨#[46]⟩), (⟨#[110, 108]⟩, ⟨#[46]⟩), (⟨#[101, 115]⟩, ⟨#[46]⟩), (⟨#[102, 114]⟩, ⟨#[226, 128, 175]⟩), (⟨#[114, 117]⟩, ⟨#[194, 160]⟩), (⟨#[99, 115]⟩, ⟨#[194, 160]⟩), (⟨#[112, 108]⟩, ⟨#[194, 160]⟩), (⟨#[115, 118]⟩, ⟨#[194, 160]⟩)]
structure Full (b : Nat) (d s a : Int) (p g : Nat) (W : World) : Prop where
  ck : Mk b d s a (some p) (some g) W
  pt : W.heap[p]? = some (obj ptsL)
  gr : W.heap[g]? = some (obj grsL)
section
variable {b : Nat} {d s a : Int} {p g : Nat} {W : World}
theorem Full.pb (h : Full b d s a p g W) : p ≠ b := fun e => by have := h.pt; rw [e, h.ck.blk] at this; cases this
theorem Full.gb (h : Full b d s a p g W) : g ≠ b := fun e => by have := h.gr; rw [e, h.ck.blk] at this; cases this
theorem Full.s0 (h : Full b d s a p g W) (x : Int) : Full b x s a p g (W.setCell ⟨b, 0, none⟩ (.int .u32 x)) := ⟨h.ck.s0 x, (heap_setCell_far h.pb).trans h.pt, (heap_setCell_far h.gb).trans h.gr⟩
theorem Full.s1 (h : Full b d s a p g W) (x : Int) : Full b d x a p g (W.setCell ⟨b, 1, none⟩ (.int .i32 x)) := ⟨h.ck.s1 x, (heap_setCell_far h.pb).trans h.pt, (heap_setCell_far h.gb).trans h.gr⟩
theorem Full.s3 (h : Full b d s a p g W) (x : Int) : Full b d s x p g (W.setCell ⟨b, 3, none⟩ (.int .i64 x)) := ⟨h.ck.s3 x, (heap_setCell_far h.pb).trans h.pt, (heap_setCell_far h.gb).trans h.gr⟩
theorem Full.drew (h : Full b d s a p g W) : Full b d s a p g W.drew := ⟨h.ck.drew, h.pt, h.gr⟩
theorem Full.kept {W1 : World} {row : Option Nat} (h : Full b d s a p g W) (hg : W.grownBy W1 row) (hr : ∀ k, row = some k → k ≠ b ∧ k ≠ p ∧ k ≠ g) : Full b d s a p g W1 :=
  ⟨h.ck.kept hg (fun e => (hr b e.symm).1 rfl), (hg.block p (Array.getElem?_eq_some_iff.1 h.pt).1 (fun e => (hr p e.symm).2.1 rfl)).trans h.pt, (hg.block g (Array.getElem?_eq_some_iff.1 h.gr).1 (fun e => (hr g e.symm).2.2 rfl)).trans h.gr⟩
end
def Fills : Prop := ∀ (b : Nat) (d s a : Int) (W : World), Mk b d s a none none W → Calls Tryd.prog 62 #[.pointer (some ⟨b, 0, none⟩)] W fun e w' => e = .returned (.tuple #[]) ∧ ∃ p g, Full b d s a p g w' ∧ W.grownBy w' (some b)
set_option maxRecDepth 100000 in
set_option maxHeartbeats 1600000 in
theorem slow_any (hF : Fills) (b : Nat) (a : Int) (w : World) (h : Mk b 0 0 a none none w) :
    Calls Tryd.prog 90 #[.pointer (some ⟨b, 0, none⟩), .func (.func 62) #[.pointer (some ⟨b, 0, none⟩)] #[]] w fun e w' => e = .returned (.tuple #[]) ∧ ∃ p g, Full b 1 0 a p g w' ∧ w.grownBy w' (some b) := by
  have c1 := h.c1
  have f1 := h.fz 1
  have h1 := h.s1 1
  have k1 := h1.c0
  have hnot := not_run
  go_enter_defers Tryd.func90, Tryd.ntmps90
  go_wp2_with (first
    | (go_at_call 120; refine (lock_free ⟨b, 1, none⟩ _ c1 f1).mono ?_; rintro e w' ⟨rfl, rfl⟩)
    | (go_at_call 89; refine (load_any ⟨b, 0, none⟩ 0 _ k1).mono ?_; rintro e w' ⟨rfl, rfl⟩)
    | (go_at_call 62; refine (hF b 0 1 a _ h1).mono ?_; rintro e w' ⟨rfl, p, g, hf, hg⟩))
  refine leaves_cons (f := 122) (args := #[.pointer (some ⟨b, 0, none⟩), .bool true]) (by simp) (by simp [go_sem]) ?_
  refine (store_deferred ⟨b, 0, none⟩ (.int .u32 0) .returning _ hf.ck.c0 (hf.ck.fz 0)).mono ?_
  rintro e u' w'' ⟨rfl, rfl, rfl⟩
  have hf1 := hf.drew.s0 1
  refine leaves_cons (f := 121) (args := #[.pointer (some ⟨b, 1, none⟩)]) (by simp [settle]) (by simp [go_sem]) ?_
  refine (unlock_deferred ⟨b, 1, none⟩ _ _ hf1.ck.c1 (hf1.ck.fz 1)).mono ?_
  rintro e u' w'' ⟨rfl, rfl, rfl⟩
  have hg2 : w.grownBy (((w'.drew).setCell ⟨b, 0, none⟩ (.int .u32 1)).setCell ⟨b, 1, none⟩ (.int .i32 0)) (some b) := ((((grown_setCell w b 1 _).trans hg).trans (grown_drew _ _)).trans (grown_setCell _ b 0 _)).trans (grown_setCell _ b 1 _)
  simp [Leaves, settle, results, Tryd.results90]
  exact ⟨⟨p, g, hf1.s1 0⟩, hg2⟩
set_option maxRecDepth 100000 in
set_option maxHeartbeats 1600000 in
theorem do_first (hF : Fills) (b : Nat) (a : Int) (w : World) (h : Mk b 0 0 a none none w) :
    Calls Tryd.prog 61 #[.pointer (some ⟨b, 0, none⟩), .func (.func 62) #[.pointer (some ⟨b, 0, none⟩)] #[]] w fun e w' => e = .returned (.tuple #[]) ∧ ∃ p g, Full b 1 0 a p g w' ∧ w.grownBy w' (some b) := by
  have c0 := h.c0
  have hnot := not_run
  go_enter Tryd.func61, Tryd.ntmps61
  go_wp2_with (first
    | (go_at_call 89; refine (load_any ⟨b, 0, none⟩ 0 _ c0).mono ?_; rintro e w' ⟨rfl, rfl⟩)
    | (go_at_call 90; refine (slow_any hF b a _ h).mono ?_; rintro e w' ⟨rfl, p, g, hf, hg⟩))
  go_end0
  exact ⟨rfl, p, g, hf, hg⟩
theorem do_done (b : Nat) (a : Int) (p g : Option Nat) (fv : Value) (w : World) (h : Mk b 1 0 a p g w) :
    Calls Tryd.prog 61 #[.pointer (some ⟨b, 0, none⟩), fv] w fun e w' => e = .returned (.tuple #[]) ∧ w' = w := by
  have c0 := h.c0
  have hnot := not_run
  go_enter Tryd.func61, Tryd.ntmps61
  go_wp2_with (go_at_call 89; refine (load_any ⟨b, 0, none⟩ 1 _ c0).mono ?_; rintro e w' ⟨rfl, rfl⟩)
  go_end0
  exact ⟨rfl, rfl⟩
theorem add_any (b : Nat) (d s a : Int) (p g : Option Nat) (ha : 0 ≤ a) (ha9 : a ≤ 1000) (w : World) (h : Mk b d s a p g w) :
    Calls Tryd.prog 63 #[.pointer (some ⟨b, 3, none⟩), .int .i64 1] w fun e w' => e = .returned (.int .i64 (a + 1)) ∧ w' = w.setCell ⟨b, 3, none⟩ (.int .i64 (a + 1)) := by
  have hadd := run_call_add (P := Tryd.prog) Tryd.func91 (by kernel_rfl) (by kernel_rfl) (by kernel_rfl) .i64 (by kernel_rfl) (y := 1) (s := a + 1) h.c3 (h.fz 3) (by simp only [Op.intArith, IntKind.wrap_i64]; rw [show (a + 1 + 9223372036854775808) % 18446744073709551616 - 9223372036854775808 = a + 1 by omega]; rfl)
  go_enter Tryd.func63, Tryd.ntmps63
  go_wp2
  go_ret
  exact ⟨rfl, rfl⟩
theorem asked_load (b : Nat) (d s a : Int) (p g : Option Nat) (w : World) (h : Mk b d s a p g w) :
    Calls Tryd.prog 75 #[.pointer (some ⟨b, 3, none⟩)] w fun e w' => e = .returned (.int .i64 a) ∧ w' = w := by
  have hl := run_call_load (P := Tryd.prog) Tryd.func110 (by kernel_rfl) (by kernel_rfl) (by kernel_rfl) .i64 (by kernel_rfl) h.c3
  go_enter Tryd.func75, Tryd.ntmps75
  go_wp2
  go_ret
  exact ⟨rfl, rfl⟩
theorem asked_any (b : Nat) (d s a : Int) (p g : Option Nat) (w : World) (h : Mk b d s a p g w) :
    Calls Tryd.prog 45 #[.pointer (some ⟨b, 0, none⟩)] w fun e w' => e = .returned (.int .i64 a) ∧ w' = w := by
  go_enter Tryd.func45, Tryd.ntmps45
  go_wp2_with (go_at_call 75; refine (asked_load b d s a p g _ h).mono ?_; rintro e w' ⟨rfl, rfl⟩)
  go_ret
  exact ⟨rfl, rfl⟩
end Go.Proofs.YtonjkoeacedaiaaDoor.M
namespace Go.Proofs.YtonjkoeacedaiaaDoor.M
open Go.RowKit
set_option linter.unusedVariables false
set_option linter.unusedSimpArgs false
def oM (l : List (ByteArray × ByteArray)) (k v : ByteArray) (e s : Bool) : Obj := if s = true then obj (l ++ [(k, v)]) else if e = true then half l k else obj l
def rowL : Array Value := #[.string ⟨#[100, 101, 44, 46]⟩, .string ⟨#[110, 108, 44, 46]⟩, .string ⟨#[101, 115, 44, 46]⟩, .string ⟨#[102, 114, 44, 226, 128, 175]⟩, .string ⟨#[114, 117, 44, 194, 160]⟩, .string ⟨#[99, 115, 44, 194, 160]⟩, .string ⟨#[112, 108, 44, 194, 160]⟩, .string ⟨#[115, 118, 44, 194, 160]⟩]
structure St (w0 : World) (b : Nat) (d s a : Int) (p g q : Nat) (lp lg : List (ByteArray × ByteArray)) (k x y : ByteArray) (e1 s1 e2 s2 : Bool) (W : World) : Prop where
  ck : Mk b d s a (some p) (some g) W
  pt : W.heap[p]? = some (oM lp k x e1 s1)
  gr : W.heap[g]? = some (oM lg k y e2 s2)
  rw : W.heap[q]? = some (.cells rowL 9 (0, 0))
  gw : w0.grownBy W (some b)
  np : w0.heap.size ≤ p
  ng : w0.heap.size ≤ g
  pg : p ≠ g
section
variable {w0 : World} {b : Nat} {d s a : Int} {p g q : Nat} {lp lg : List (ByteArray × ByteArray)} {k x y : ByteArray} {e1 s1 e2 s2 : Bool} {W : World}
theorem oM_map (l : List (ByteArray × ByteArray)) (k v : ByteArray) (e s : Bool) : ∃ es c, oM l k v e s = .map es c := by
  unfold oM; split
  · exact ⟨_, _, rfl⟩
  · split <;> exact ⟨_, _, rfl⟩
theorem St.pb (h : St w0 b d s a p g q lp lg k x y e1 s1 e2 s2 W) : p ≠ b := fun e => by
  have h1 := h.pt; obtain ⟨es, c, h2⟩ := oM_map lp k x e1 s1; rw [e, h.ck.blk, h2] at h1; cases h1
theorem St.gb (h : St w0 b d s a p g q lp lg k x y e1 s1 e2 s2 W) : g ≠ b := fun e => by
  have h1 := h.gr; obtain ⟨es, c, h2⟩ := oM_map lg k y e2 s2; rw [e, h.ck.blk, h2] at h1; cases h1
theorem St.pq (h : St w0 b d s a p g q lp lg k x y e1 s1 e2 s2 W) : q ≠ p := fun e => by
  have h1 := h.pt; obtain ⟨es, c, h2⟩ := oM_map lp k x e1 s1; rw [← e, h.rw, h2] at h1; cases h1
theorem St.gq (h : St w0 b d s a p g q lp lg k x y e1 s1 e2 s2 W) : q ≠ g := fun e => by
  have h1 := h.gr; obtain ⟨es, c, h2⟩ := oM_map lg k y e2 s2; rw [← e, h.rw, h2] at h1; cases h1
theorem St.drew (h : St w0 b d s a p g q lp lg k x y e1 s1 e2 s2 W) : St w0 b d s a p g q lp lg k x y e1 s1 e2 s2 W.drew := ⟨h.ck.drew, h.pt, h.gr, h.rw, h.gw.trans (grown_drew _ _), h.np, h.ng, h.pg⟩
theorem St.toP (h : St w0 b d s a p g q lp lg k x y e1 s1 e2 s2 W) {e1' s1' : Bool} {o : Obj} (ho : o = oM lp k x e1' s1') : St w0 b d s a p g q lp lg k x y e1' s1' e2 s2 (setObj W p o) :=
  ⟨⟨(setObj_far o (Ne.symm h.pb)).trans h.ck.blk⟩, (setObj_same h.pt o).trans (by rw [ho]), (setObj_far o (Ne.symm h.pg)).trans h.gr, (setObj_far o h.pq).trans h.rw, h.gw.andThen (setObj_grown W p o) (fun j hj => by cases hj; exact .inl h.np), h.np, h.ng, h.pg⟩
theorem St.toG (h : St w0 b d s a p g q lp lg k x y e1 s1 e2 s2 W) {e2' s2' : Bool} {o : Obj} (ho : o = oM lg k y e2' s2') : St w0 b d s a p g q lp lg k x y e1 s1 e2' s2' (setObj W g o) :=
  ⟨⟨(setObj_far o (Ne.symm h.gb)).trans h.ck.blk⟩, (setObj_far o h.pg).trans h.pt, (setObj_same h.gr o).trans (by rw [ho]), (setObj_far o h.gq).trans h.rw, h.gw.andThen (setObj_grown W g o) (fun j hj => by cases hj; exact .inl h.ng), h.np, h.ng, h.pg⟩
theorem St.get (h : St w0 b d s a p g q lp lg k x y e1 s1 e2 s2 W) : W.cell? ⟨b, 4, none⟩ = some (.map (some p)) ∧ W.cell? ⟨b, 5, none⟩ = some (.map (some g)) := ⟨h.ck.c4, h.ck.c5⟩
end
theorem zstr (u : World) : (zeroValue 9).run Tryd.prog u = .ok (.string ⟨#[]⟩) u := by kernel_rfl
section
variable {a : Operand → Value} {o : Oper} {W W1 : World} {r : Nat} {m x y : Operand} {k v : ByteArray} {l : List (ByteArray × ByteArray)}
theorem exec_entry (ho : o.op = .mapEntry 54 m x) (hm : a m = .map (some r)) (hx : a x = .string k) (hb : W.heap[r]? = some (obj l)) (hn : look l k = none) :
    (execOp a o).run Tryd.prog W = .ok (.value (.tuple #[.string ⟨#[]⟩, .int .i64 l.length])) (setObj W r (half l k)) := by
  unfold execOp
  simp only [ho, hm, hx, Sem.run_bind, run_entry Tryd.underlying54 Tryd.underlying9 zstr hb hn, Result.andThen_ok, Sem.run_pure, goInt]
theorem exec_put (ho : o.op = .entryStore 54 m x y) (hm : a m = .map (some r)) (hx : a x = .int .i64 l.length) (hy : a y = .string v) (hb : W.heap[r]? = some (half l k)) :
    (execOp a o).run Tryd.prog W = .ok .skip (setObj W r (obj (l ++ [(k, v)]))) := by
  have h := run_put (P := Tryd.prog) (t := 54) hb v
  unfold goInt at h
  unfold execOp
  simp only [ho, hm, hx, hy, Sem.run_bind, h, Result.andThen_ok, Sem.run_pure]
end
section
variable {a : Act} {o : Oper} {W : World} {x : Operand} {s : ByteArray}
theorem exec_to (h : Nat) (ho : o.op = .slice 9 x none (some (.const (.int .i64 h))) none) (hx : a.eval x = .string s) (hs : h ≤ s.size) : (execOp a.eval o).run Tryd.prog W = .ok (.value (.string (s.extract 0 h))) W := by
  have hr := run_slice_string_h (P := Tryd.prog) W 9 s Tryd.underlying9 .i64 h (by omega) (by omega)
  unfold execOp
  simp only [ho, Option.map_none, Option.map_some, hx, show a.eval (.const (.int .i64 h)) = .int .i64 h from rfl, run_sliceAt_string (P := Tryd.prog) (h := Tryd.underlying9), Sem.run_bind, hr, Result.andThen_ok, Sem.run_pure, Int.toNat_natCast]
theorem exec_from (l : Nat) (ho : o.op = .slice 9 x (some (.const (.int .i64 l))) none none) (hx : a.eval x = .string s) (hs : l ≤ s.size) : (execOp a.eval o).run Tryd.prog W = .ok (.value (.string (s.extract l s.size))) W := by
  have hr := run_slice_string_l (P := Tryd.prog) W 9 s Tryd.underlying9 .i64 l (by omega) (by omega)
  unfold execOp
  simp only [ho, Option.map_none, Option.map_some, hx, show a.eval (.const (.int .i64 l)) = .int .i64 l from rfl, run_sliceAt_string (P := Tryd.prog) (h := Tryd.underlying9), Sem.run_bind, hr, Result.andThen_ok, Sem.run_pure, Int.toNat_natCast]
theorem exec_part (l h : Nat) (ho : o.op = .slice 9 x (some (.const (.int .i64 l))) (some (.const (.int .i64 h))) none) (hx : a.eval x = .string s) (hl : l ≤ h) (hs : h ≤ s.size) : (execOp a.eval o).run Tryd.prog W = .ok (.value (.string (s.extract l h))) W := by
  have hr : (Instr.slice 9 (.string s) (some (.int .i64 l)) (some (.int .i64 h)) none).run Tryd.prog W = .ok (.string (s.extract (l : Int).toNat (h : Int).toNat)) W := by rw [run_slice_string (h := Tryd.underlying9)] <;> omega
  unfold execOp
  simp only [ho, Option.map_none, Option.map_some, hx, show a.eval (.const (.int .i64 l)) = .int .i64 l from rfl, show a.eval (.const (.int .i64 h)) = .int .i64 h from rfl, run_sliceAt_string (P := Tryd.prog) (h := Tryd.underlying9), Sem.run_bind, hr, Result.andThen_ok, Sem.run_pure, Int.toNat_natCast]
end
end Go.Proofs.YtonjkoeacedaiaaDoor.M
namespace Go.Proofs.YtonjkoeacedaiaaDoor.M
open Go.RowKit Go.Proofs.YtonjkoeacedaiaaDoorW.PrintWords Go.Proofs.YtonjkoeacedaiaaDoorW.PrintLast
set_option linter.unusedVariables false
set_option linter.unusedSimpArgs false
def fill_round.T : Bool × List (List Nat × List Nat) := (true, [([], []), ([0], [0]), ([1], [1]), ([2], [2]), ([], []), ([4], [4]), ([], []), ([6], [6]), ([7], [7]), ([8], [8]), ([], []), ([10], [10]), ([], []), ([12], [12]), ([], []), ([14], [14]), ([3, 5, 9], [3, 5]), ([16], [16]), ([3, 17, 13, 16, 0, 1, 2, 3, 4, 5, 9, 12, 13, 16], [3, 13, 17]), ([9, 11, 18, 0, 1, 2, 3, 4, 5, 9, 12, 13, 16, 17, 18], [9, 11]), ([19], [19]), ([9, 20, 15, 19, 0, 1, 2, 3, 4, 5, 6, 7, 8, 9, 10, 11, 12, 13, 14, 15, 16, 17, 18, 19], [9, 15, 20])])
def fill_round.B : List Nat := [0, 1, 3, 7, 0, 16, 0, 64, 192, 448, 0, 1024, 0, 4096, 0, 16384, 1023, 66559, 209919, 475135, 999423, 2097151]
theorem fill_round.tab : rtab .any (opsOf Tryd.f62 4) = fill_round.T := by kernel_rfl
theorem fill_round.bits : waitsOk fill_round.T.2 fill_round.B = true := by kernel_rfl
set_option maxRecDepth 100000 in
set_option maxHeartbeats 4000000 in
theorem fill_round (w0 : World) (b0 : Nat) (d0 sx ax : Int) (p g q : Nat) (lp lg : List (ByteArray × ByteArray)) (s : ByteArray) (hs : 3 ≤ s.size) (hs9 : s.size ≤ 100) (hlp : look lp (s.extract 0 2) = none) (hlg : look lg (s.extract 0 2) = none) (a0 : Act) (s0 : a0.tmps[0]? = some (.pointer (some ⟨b0, 0, none⟩))) (s3 : a0.tmps[3]? = some (.string s)) (hsz : a0.tmps.size = Tryd.f62.ntmps) (W : World) (hI : St w0 b0 d0 sx ax p g q lp lg (s.extract 0 2) (s.extract 2 3) (s.extract 3 s.size) ((fun _ => false) 16) ((fun _ => false) 18) ((fun _ => false) 19) ((fun _ => false) 21) W.drew) (Q : Exit → Act → World → Prop) (hend : ∀ (a9 : Act) w', St w0 b0 d0 sx ax p g q lp lg (s.extract 0 2) (s.extract 2 3) (s.extract 3 s.size) ((fun _ => true) 16) ((fun _ => true) 18) ((fun _ => true) 19) ((fun _ => true) 21) w' → a9 = putSel a0 (fun _ => true) [(0, 18, .pointer (some ⟨b0, 0, none⟩)), (1, 19, .pointer (some ⟨b0, 0, none⟩)), (2, 20, .pointer (some ⟨b0, 4, none⟩)), (3, 21, .map (some p)), (4, 22, .string s), (5, 23, .string (s.extract 0 2)), (6, 24, .pointer (some ⟨b0, 0, none⟩)), (7, 25, .pointer (some ⟨b0, 0, none⟩)), (8, 26, .pointer (some ⟨b0, 5, none⟩)), (9, 27, .map (some g)), (10, 28, .string s), (11, 29, .string (s.extract 0 2)), (12, 30, .string s), (13, 31, .string (s.extract 2 3)), (14, 32, .string s), (15, 33, .string (s.extract 3 s.size)), (16, 34, .tuple #[.string ⟨#[]⟩, .int .i64 lp.length]), (17, 35, .int .i64 lp.length), (19, 36, .tuple #[.string ⟨#[]⟩, .int .i64 lg.length]), (20, 37, .int .i64 lg.length)] → a9.defers = a0.defers → Q .normal a9 w') :
    (Code.region 4 #[{ dst := some 18, op := Op.move (Operand.tmp 0), type := 38, pos := "number.go:94", after := #[], guard := none }, { dst := some 19, op := Op.nilCheck (Operand.tmp 18), type := 0, pos := "number.go:94", after := #[{ on := 0, ground := Ground.data }], guard := none }, { dst := some 20, op := Op.fieldAddr 56 (Operand.tmp 19) 2, type := 0, pos := "number.go:94", after := #[{ on := 1, ground := Ground.data }], guard := none }, { dst := some 21, op := Op.load 54 (Operand.tmp 20), type := 54, pos := "number.go:94", after := #[{ on := 2, ground := Ground.data }], guard := none }, { dst := some 22, op := Op.move (Operand.tmp 3), type := 9, pos := "number.go:94", after := #[], guard := none }, { dst := some 23, op := Op.slice 9 (Operand.tmp 22) none (some (Operand.const (Value.int IntKind.i64 2))) none, type := 9, pos := "number.go:94", after := #[{ on := 4, ground := Ground.data }], guard := none }, { dst := some 24, op := Op.move (Operand.tmp 0), type := 38, pos := "number.go:94", after := #[], guard := none }, { dst := some 25, op := Op.nilCheck (Operand.tmp 24), type := 0, pos := "number.go:94", after := #[{ on := 6, ground := Ground.data }], guard := none }, { dst := some 26, op := Op.fieldAddr 56 (Operand.tmp 25) 3, type := 0, pos := "number.go:94", after := #[{ on := 7, ground := Ground.data }], guard := none }, { dst := some 27, op := Op.load 54 (Operand.tmp 26), type := 54, pos := "number.go:94", after := #[{ on := 8, ground := Ground.data }], guard := none }, { dst := some 28, op := Op.move (Operand.tmp 3), type := 9, pos := "number.go:94", after := #[], guard := none }, { dst := some 29, op := Op.slice 9 (Operand.tmp 28) none (some (Operand.const (Value.int IntKind.i64 2))) none, type := 9, pos := "number.go:94", after := #[{ on := 10, ground := Ground.data }], guard := none }, { dst := some 30, op := Op.move (Operand.tmp 3), type := 9, pos := "number.go:94", after := #[], guard := none }, { dst := some 31, op := Op.slice 9 (Operand.tmp 30) (some (Operand.const (Value.int IntKind.i64 2))) (some (Operand.const (Value.int IntKind.i64 3))) none, type := 9, pos := "number.go:94", after := #[{ on := 12, ground := Ground.data }], guard := none }, { dst := some 32, op := Op.move (Operand.tmp 3), type := 9, pos := "number.go:94", after := #[], guard := none }, { dst := some 33, op := Op.slice 9 (Operand.tmp 32) (some (Operand.const (Value.int IntKind.i64 3))) none none, type := 9, pos := "number.go:94", after := #[{ on := 14, ground := Ground.data }], guard := none }, { dst := some 34, op := Op.mapEntry 54 (Operand.tmp 21) (Operand.tmp 23), type := 0, pos := "number.go:94", after := #[{ on := 3, ground := Ground.data }, { on := 5, ground := Ground.data }, { on := 0, ground := Ground.textOnly Departure.tupleMapEntryFirst }, { on := 1, ground := Ground.textOnly Departure.tupleMapEntryFirst }, { on := 2, ground := Ground.textOnly Departure.tupleMapEntryFirst }, { on := 3, ground := Ground.textOnly Departure.tupleMapEntryFirst }, { on := 4, ground := Ground.textOnly Departure.tupleMapEntryFirst }, { on := 5, ground := Ground.textOnly Departure.lateStoresUnsure }, { on := 6, ground := Ground.textOnly Departure.lateStores }, { on := 7, ground := Ground.textOnly Departure.lateStoresUnsure }, { on := 8, ground := Ground.textOnly Departure.lateStoresUnsure }, { on := 9, ground := Ground.phase }, { on := 10, ground := Ground.textOnly Departure.lateStores }, { on := 11, ground := Ground.textOnly Departure.lateStoresUnsure }, { on := 12, ground := Ground.textOnly Departure.tupleMapEntryFirst }, { on := 13, ground := Ground.textOnly Departure.lateStoresUnsure }, { on := 14, ground := Ground.textOnly Departure.lateStores }, { on := 15, ground := Ground.textOnly Departure.lateStoresUnsure }], guard := none }, { dst := some 35, op := Op.extract (Operand.tmp 34) 1, type := 3, pos := "number.go:94", after := #[{ on := 16, ground := Ground.data }], guard := none }, { dst := none, op := Op.entryStore 54 (Operand.tmp 21) (Operand.tmp 35) (Operand.tmp 31), type := 0, pos := "number.go:94", after := #[{ on := 3, ground := Ground.data }, { on := 17, ground := Ground.data }, { on := 13, ground := Ground.data }, { on := 16, ground := Ground.chain }, { on := 0, ground := Ground.phase }, { on := 1, ground := Ground.phase }, { on := 2, ground := Ground.phase }, { on := 3, ground := Ground.phase }, { on := 4, ground := Ground.phase }, { on := 5, ground := Ground.phase }, { on := 6, ground := Ground.textOnly Departure.lateStores }, { on := 7, ground := Ground.textOnly Departure.lateStoresUnsure }, { on := 8, ground := Ground.textOnly Departure.lateStoresUnsure }, { on := 9, ground := Ground.phase }, { on := 10, ground := Ground.textOnly Departure.lateStores }, { on := 11, ground := Ground.textOnly Departure.lateStoresUnsure }, { on := 12, ground := Ground.phase }, { on := 13, ground := Ground.phase }, { on := 14, ground := Ground.textOnly Departure.lateStores }, { on := 15, ground := Ground.textOnly Departure.lateStoresUnsure }, { on := 16, ground := Ground.phase }], guard := none }, { dst := some 36, op := Op.mapEntry 54 (Operand.tmp 27) (Operand.tmp 29), type := 0, pos := "number.go:94", after := #[{ on := 9, ground := Ground.data }, { on := 11, ground := Ground.data }, { on := 18, ground := Ground.chain }, { on := 0, ground := Ground.phase }, { on := 1, ground := Ground.phase }, { on := 2, ground := Ground.phase }, { on := 3, ground := Ground.phase }, { on := 4, ground := Ground.phase }, { on := 5, ground := Ground.phase }, { on := 6, ground := Ground.textOnly Departure.tupleMapEntryFirst }, { on := 7, ground := Ground.textOnly Departure.lateStoresUnsure }, { on := 8, ground := Ground.textOnly Departure.lateStoresUnsure }, { on := 9, ground := Ground.phase }, { on := 10, ground := Ground.textOnly Departure.tupleMapEntryFirst }, { on := 11, ground := Ground.textOnly Departure.lateStoresUnsure }, { on := 12, ground := Ground.phase }, { on := 13, ground := Ground.phase }, { on := 14, ground := Ground.textOnly Departure.tupleMapEntryFirst }, { on := 15, ground := Ground.textOnly Departure.lateStoresUnsure }, { on := 16, ground := Ground.phase }, { on := 17, ground := Ground.phase }, { on := 18, ground := Ground.phase }], guard := none }, { dst := some 37, op := Op.extract (Operand.tmp 36) 1, type := 3, pos := "number.go:94", after := #[{ on := 19, ground := Ground.data }], guard := none }, { dst := none, op := Op.entryStore 54 (Operand.tmp 27) (Operand.tmp 37) (Operand.tmp 33), type := 0, pos := "number.go:94", after := #[{ on := 9, ground := Ground.data }, { on := 20, ground := Ground.data }, { on := 15, ground := Ground.data }, { on := 19, ground := Ground.chain }, { on := 0, ground := Ground.phase }, { on := 1, ground := Ground.phase }, { on := 2, ground := Ground.phase }, { on := 3, ground := Ground.phase }, { on := 4, ground := Ground.phase }, { on := 5, ground := Ground.phase }, { on := 6, ground := Ground.phase }, { on := 7, ground := Ground.phase }, { on := 8, ground := Ground.phase }, { on := 9, ground := Ground.phase }, { on := 10, ground := Ground.phase }, { on := 11, ground := Ground.phase }, { on := 12, ground := Ground.phase }, { on := 13, ground := Ground.phase }, { on := 14, ground := Ground.phase }, { on := 15, ground := Ground.phase }, { on := 16, ground := Ground.phase }, { on := 17, ground := Ground.phase }, { on := 18, ground := Ground.phase }, { on := 19, ground := Ground.phase }], guard := none }] true).wp Tryd.prog Q a0 W := by
  refine start_ (n := 22) (S := fun w' => True) (ds := []) #[false, false, false, false, false, false, false, false, false, false, false, false, false, false, false, false, false, false, false, false, false, false] (by kernel_rfl) rfl rfl trivial (fun hHeld => ?_)
  refine with_tabW fill_round.tab fill_round.bits (fun HT_ HW_ => ?_)
  refine inv_at [0, 1, 2, 3, 4, 5, 6, 7, 8, 9, 10, 11, 12, 13, 14, 15, 16, 17, 18, 19, 20, 21] (fun a0_ b a w' => a = putSel a0_ b [(0, 18, .pointer (some ⟨b0, 0, none⟩)), (1, 19, .pointer (some ⟨b0, 0, none⟩)), (2, 20, .pointer (some ⟨b0, 4, none⟩)), (3, 21, .map (some p)), (4, 22, .string s), (5, 23, .string (s.extract 0 2)), (6, 24, .pointer (some ⟨b0, 0, none⟩)), (7, 25, .pointer (some ⟨b0, 0, none⟩)), (8, 26, .pointer (some ⟨b0, 5, none⟩)), (9, 27, .map (some g)), (10, 28, .string s), (11, 29, .string (s.extract 0 2)), (12, 30, .string s), (13, 31, .string (s.extract 2 3)), (14, 32, .string s), (15, 33, .string (s.extract 3 s.size)), (16, 34, .tuple #[.string ⟨#[]⟩, .int .i64 lp.length]), (17, 35, .int .i64 lp.length), (19, 36, .tuple #[.string ⟨#[]⟩, .int .i64 lg.length]), (20, 37, .int .i64 lg.length)] ∧ (St w0 b0 d0 sx ax p g q lp lg (s.extract 0 2) (s.extract 2 3) (s.extract 3 s.size) (b 16) (b 18) (b 19) (b 21) w')) HT_.out HW_.out (by kernel_rfl) (by kernel_rfl) ?_ ?_ ?_
  · exact ⟨(by simp only [putSel, Bool.false_eq_true, if_false]), hI⟩
  · clear hI hend hHeld
    refine steps_cons ?_ ?_
    · rintro b a w' ⟨ha, hI⟩ hb_ hon hoff
      refine ⟨_, rfl, fun K hK => ?_⟩
      have e0 : a.tmps[0]? = some (.pointer (some ⟨b0, 0, none⟩)) := by rw [ha]; exact (putSel_off rfl).trans s0
      replace ha := Aside0.mk ha
      obtain ⟨p4, p5⟩ := hI.get
      refine value_ (w1 := w') (v := .pointer (some ⟨b0, 0, none⟩)) (by rfl) rfl ?_ ?_
      · go_simp; try rfl
        all_goals (try (simp only [IntKind.wrap_i64]; omega))
      exact hK.out _ _ ⟨(by rw [ha.out]; exact putSel_upk 0 hb_ rfl rfl rfl), hI⟩
    refine steps_cons ?_ ?_
    · rintro b a w' ⟨ha, hI⟩ hb_ hon hoff
      refine ⟨_, rfl, fun K hK => ?_⟩
      have e18 : a.tmps[18]? = some (.pointer (some ⟨b0, 0, none⟩)) := by rw [ha]; exact putSel_on (e := (0, 18, .pointer (some ⟨b0, 0, none⟩))) 0 rfl rfl (hon 0 (by kernel_rfl)) (by rw [hsz]; rfl)
      replace ha := Aside0.mk ha
      obtain ⟨p4, p5⟩ := hI.get
      refine value_ (w1 := w') (v := .pointer (some ⟨b0, 0, none⟩)) (by rfl) rfl ?_ ?_
      · go_simp; try rfl
        all_goals (try (simp only [IntKind.wrap_i64]; omega))
      exact hK.out _ _ ⟨(by rw [ha.out]; exact putSel_upk 1 hb_ rfl rfl rfl), hI⟩
    refine steps_cons ?_ ?_
    · rintro b a w' ⟨ha, hI⟩ hb_ hon hoff
      refine ⟨_, rfl, fun K hK => ?_⟩
      have e19 : a.tmps[19]? = some (.pointer (some ⟨b0, 0, none⟩)) := by rw [ha]; exact putSel_on (e := (1, 19, .pointer (some ⟨b0, 0, none⟩))) 1 rfl rfl (hon 1 (by kernel_rfl)) (by rw [hsz]; rfl)
      replace ha := Aside0.mk ha
      obtain ⟨p4, p5⟩ := hI.get
      refine value_ (w1 := w') (v := .pointer (some ⟨b0, 4, none⟩)) (by rfl) rfl ?_ ?_
      · go_simp; try rfl
        all_goals (try (simp only [IntKind.wrap_i64]; omega))
      exact hK.out _ _ ⟨(by rw [ha.out]; exact putSel_upk 2 hb_ rfl rfl rfl), hI⟩
    refine steps_cons ?_ ?_
    · rintro b a w' ⟨ha, hI⟩ hb_ hon hoff
      refine ⟨_, rfl, fun K hK => ?_⟩
      have e20 : a.tmps[20]? = some (.pointer (some ⟨b0, 4, none⟩)) := by rw [ha]; exact putSel_on (e := (2, 20, .pointer (some ⟨b0, 4, none⟩))) 2 rfl rfl (hon 2 (by kernel_rfl)) (by rw [hsz]; rfl)
      replace ha := Aside0.mk ha
      obtain ⟨p4, p5⟩ := hI.get
      refine value_ (w1 := w') (v := .map (some p)) (by rfl) rfl ?_ ?_
      · go_simp; try rfl
        all_goals (try (simp only [IntKind.wrap_i64]; omega))
      exact hK.out _ _ ⟨(by rw [ha.out]; exact putSel_upk 3 hb_ rfl rfl rfl), hI⟩
    refine steps_cons ?_ ?_
    · rintro b a w' ⟨ha, hI⟩ hb_ hon hoff
      refine ⟨_, rfl, fun K hK => ?_⟩
      have e3 : a.tmps[3]? = some (.string s) := by rw [ha]; exact (putSel_off rfl).trans s3
      replace ha := Aside0.mk ha
      obtain ⟨p4, p5⟩ := hI.get
      refine value_ (w1 := w') (v := .string s) (by rfl) rfl ?_ ?_
      · go_simp; try rfl
        all_goals (try (simp only [IntKind.wrap_i64]; omega))
      exact hK.out _ _ ⟨(by rw [ha.out]; exact putSel_upk 4 hb_ rfl rfl rfl), hI⟩
    refine steps_cons ?_ ?_
    · rintro b a w' ⟨ha, hI⟩ hb_ hon hoff
      refine ⟨_, rfl, fun K hK => ?_⟩
      have e22 : a.tmps[22]? = some (.string s) := by rw [ha]; exact putSel_on (e := (4, 22, .string s)) 4 rfl rfl (hon 4 (by kernel_rfl)) (by rw [hsz]; rfl)
      replace ha := Aside0.mk ha
      obtain ⟨p4, p5⟩ := hI.get
      refine value_ (w1 := w') (v := .string (s.extract 0 2)) (by rfl) rfl ?_ ?_
      · exact exec_to 2 rfl (eval_of e22) (by omega)
      exact hK.out _ _ ⟨(by rw [ha.out]; exact putSel_upk 5 hb_ rfl rfl rfl), hI⟩
    refine steps_cons ?_ ?_
    · rintro b a w' ⟨ha, hI⟩ hb_ hon hoff
      refine ⟨_, rfl, fun K hK => ?_⟩
      have e0 : a.tmps[0]? = some (.pointer (some ⟨b0, 0, none⟩)) := by rw [ha]; exact (putSel_off rfl).trans s0
      replace ha := Aside0.mk ha
      obtain ⟨p4, p5⟩ := hI.get
      refine value_ (w1 := w') (v := .pointer (some ⟨b0, 0, none⟩)) (by rfl) rfl ?_ ?_
      · go_simp; try rfl
        all_goals (try (simp only [IntKind.wrap_i64]; omega))
      exact hK.out _ _ ⟨(by rw [ha.out]; exact putSel_upk 6 hb_ rfl rfl rfl), hI⟩
    refine steps_cons ?_ ?_
    · rintro b a w' ⟨ha, hI⟩ hb_ hon hoff
      refine ⟨_, rfl, fun K hK => ?_⟩
      have e24 : a.tmps[24]? = some (.pointer (some ⟨b0, 0, none⟩)) := by rw [ha]; exact putSel_on (e := (6, 24, .pointer (some ⟨b0, 0, none⟩))) 6 rfl rfl (hon 6 (by kernel_rfl)) (by rw [hsz]; rfl)
      replace ha := Aside0.mk ha
      obtain ⟨p4, p5⟩ := hI.get
      refine value_ (w1 := w') (v := .pointer (some ⟨b0, 0, none⟩)) (by rfl) rfl ?_ ?_
      · go_simp; try rfl
        all_goals (try (simp only [IntKind.wrap_i64]; omega))
      exact hK.out _ _ ⟨(by rw [ha.out]; exact putSel_upk 7 hb_ rfl rfl rfl), hI⟩
    refine steps_cons ?_ ?_
    · rintro b a w' ⟨ha, hI⟩ hb_ hon hoff
      refine ⟨_, rfl, fun K hK => ?_⟩
      have e25 : a.tmps[25]? = some (.pointer (some ⟨b0, 0, none⟩)) := by rw [ha]; exact putSel_on (e := (7, 25, .pointer (some ⟨b0, 0, none⟩))) 7 rfl rfl (hon 7 (by kernel_rfl)) (by rw [hsz]; rfl)
      replace ha := Aside0.mk ha
      obtain ⟨p4, p5⟩ := hI.get
      refine value_ (w1 := w') (v := .pointer (some ⟨b0, 5, none⟩)) (by rfl) rfl ?_ ?_
      · go_simp; try rfl
        all_goals (try (simp only [IntKind.wrap_i64]; omega))
      exact hK.out _ _ ⟨(by rw [ha.out]; exact putSel_upk 8 hb_ rfl rfl rfl), hI⟩
    refine steps_cons ?_ ?_
    · rintro b a w' ⟨ha, hI⟩ hb_ hon hoff
      refine ⟨_, rfl, fun K hK => ?_⟩
      have e26 : a.tmps[26]? = some (.pointer (some ⟨b0, 5, none⟩)) := by rw [ha]; exact putSel_on (e := (8, 26, .pointer (some ⟨b0, 5, none⟩))) 8 rfl rfl (hon 8 (by kernel_rfl)) (by rw [hsz]; rfl)
      replace ha := Aside0.mk ha
      obtain ⟨p4, p5⟩ := hI.get
      refine value_ (w1 := w') (v := .map (some g)) (by rfl) rfl ?_ ?_
      · go_simp; try rfl
        all_goals (try (simp only [IntKind.wrap_i64]; omega))
      exact hK.out _ _ ⟨(by rw [ha.out]; exact putSel_upk 9 hb_ rfl rfl rfl), hI⟩
    refine steps_cons ?_ ?_
    · rintro b a w' ⟨ha, hI⟩ hb_ hon hoff
      refine ⟨_, rfl, fun K hK => ?_⟩
      have e3 : a.tmps[3]? = some (.string s) := by rw [ha]; exact (putSel_off rfl).trans s3
      replace ha := Aside0.mk ha
      obtain ⟨p4, p5⟩ := hI.get
      refine value_ (w1 := w') (v := .string s) (by rfl) rfl ?_ ?_
      · go_simp; try rfl
        all_goals (try (simp only [IntKind.wrap_i64]; omega))
      exact hK.out _ _ ⟨(by rw [ha.out]; exact putSel_upk 10 hb_ rfl rfl rfl), hI⟩
    refine steps_cons ?_ ?_
    · rintro b a w' ⟨ha, hI⟩ hb_ hon hoff
      refine ⟨_, rfl, fun K hK => ?_⟩
      have e28 : a.tmps[28]? = some (.string s) := by rw [ha]; exact putSel_on (e := (10, 28, .string s)) 10 rfl rfl (hon 10 (by kernel_rfl)) (by rw [hsz]; rfl)
      replace ha := Aside0.mk ha
      obtain ⟨p4, p5⟩ := hI.get
      refine value_ (w1 := w') (v := .string (s.extract 0 2)) (by rfl) rfl ?_ ?_
      · exact exec_to 2 rfl (eval_of e28) (by omega)
      exact hK.out _ _ ⟨(by rw [ha.out]; exact putSel_upk 11 hb_ rfl rfl rfl), hI⟩
    refine steps_cons ?_ ?_
    · rintro b a w' ⟨ha, hI⟩ hb_ hon hoff
      refine ⟨_, rfl, fun K hK => ?_⟩
      have e3 : a.tmps[3]? = some (.string s) := by rw [ha]; exact (putSel_off rfl).trans s3
      replace ha := Aside0.mk ha
      obtain ⟨p4, p5⟩ := hI.get
      refine value_ (w1 := w') (v := .string s) (by rfl) rfl ?_ ?_
      · go_simp; try rfl
        all_goals (try (simp only [IntKind.wrap_i64]; omega))
      exact hK.out _ _ ⟨(by rw [ha.out]; exact putSel_upk 12 hb_ rfl rfl rfl), hI⟩
    refine steps_cons ?_ ?_
    · rintro b a w' ⟨ha, hI⟩ hb_ hon hoff
      refine ⟨_, rfl, fun K hK => ?_⟩
      have e30 : a.tmps[30]? = some (.string s) := by rw [ha]; exact putSel_on (e := (12, 30, .string s)) 12 rfl rfl (hon 12 (by kernel_rfl)) (by rw [hsz]; rfl)
      replace ha := Aside0.mk ha
      obtain ⟨p4, p5⟩ := hI.get
      refine value_ (w1 := w') (v := .string (s.extract 2 3)) (by rfl) rfl ?_ ?_
      · exact exec_part 2 3 rfl (eval_of e30) (by omega) (by omega)
      exact hK.out _ _ ⟨(by rw [ha.out]; exact putSel_upk 13 hb_ rfl rfl rfl), hI⟩
    refine steps_cons ?_ ?_
    · rintro b a w' ⟨ha, hI⟩ hb_ hon hoff
      refine ⟨_, rfl, fun K hK => ?_⟩
      have e3 : a.tmps[3]? = some (.string s) := by rw [ha]; exact (putSel_off rfl).trans s3
      replace ha := Aside0.mk ha
      obtain ⟨p4, p5⟩ := hI.get
      refine value_ (w1 := w') (v := .string s) (by rfl) rfl ?_ ?_
      · go_simp; try rfl
        all_goals (try (simp only [IntKind.wrap_i64]; omega))
      exact hK.out _ _ ⟨(by rw [ha.out]; exact putSel_upk 14 hb_ rfl rfl rfl), hI⟩
    refine steps_cons ?_ ?_
    · rintro b a w' ⟨ha, hI⟩ hb_ hon hoff
      refine ⟨_, rfl, fun K hK => ?_⟩
      have e32 : a.tmps[32]? = some (.string s) := by rw [ha]; exact putSel_on (e := (14, 32, .string s)) 14 rfl rfl (hon 14 (by kernel_rfl)) (by rw [hsz]; rfl)
      replace ha := Aside0.mk ha
      obtain ⟨p4, p5⟩ := hI.get
      refine value_ (w1 := w') (v := .string (s.extract 3 s.size)) (by rfl) rfl ?_ ?_
      · exact exec_from 3 rfl (eval_of e32) (by omega)
      exact hK.out _ _ ⟨(by rw [ha.out]; exact putSel_upk 15 hb_ rfl rfl rfl), hI⟩
    refine steps_cons ?_ ?_
    · rintro b a w' ⟨ha, hI⟩ hb_ hon hoff
      refine ⟨_, rfl, fun K hK => ?_⟩
      have e21 : a.tmps[21]? = some (.map (some p)) := by rw [ha]; exact putSel_on (e := (3, 21, .map (some p))) 3 rfl rfl (hon 3 (by kernel_rfl)) (by rw [hsz]; rfl)
      have e23 : a.tmps[23]? = some (.string (s.extract 0 2)) := by rw [ha]; exact putSel_on (e := (5, 23, .string (s.extract 0 2))) 5 rfl rfl (hon 5 (by kernel_rfl)) (by rw [hsz]; rfl)
      replace ha := Aside0.mk ha
      obtain ⟨p4, p5⟩ := hI.get
      refine value_ (w1 := setObj w' p (half lp (s.extract 0 2))) (v := .tuple #[.string ⟨#[]⟩, .int .i64 lp.length]) (by rfl) rfl ?_ ?_
      · exact exec_entry rfl (eval_of e21) (eval_of e23) (by have h := hI.pt; rw [hb_, show b 18 = false from hoff 18 (by kernel_rfl)] at h; exact h) hlp
      exact hK.out _ _ ⟨(by rw [ha.out]; exact putSel_upk 16 hb_ rfl rfl rfl), hI.toP (o := half lp (s.extract 0 2)) (by rw [show up b 16 18 = false from (up_ne (by decide)).trans (hoff 18 (by kernel_rfl))]; rfl)⟩
    refine steps_cons ?_ ?_
    · rintro b a w' ⟨ha, hI⟩ hb_ hon hoff
      refine ⟨_, rfl, fun K hK => ?_⟩
      have e34 : a.tmps[34]? = some (.tuple #[.string ⟨#[]⟩, .int .i64 lp.length]) := by rw [ha]; exact putSel_on (e := (16, 34, .tuple #[.string ⟨#[]⟩, .int .i64 lp.length])) 16 rfl rfl (hon 16 (by kernel_rfl)) (by rw [hsz]; rfl)
      replace ha := Aside0.mk ha
      obtain ⟨p4, p5⟩ := hI.get
      refine value_ (w1 := w') (v := .int .i64 lp.length) (by rfl) rfl ?_ ?_
      · go_simp; try rfl
        all_goals (try (simp only [IntKind.wrap_i64]; omega))
      exact hK.out _ _ ⟨(by rw [ha.out]; exact putSel_upk 17 hb_ rfl rfl rfl), hI⟩
    refine steps_cons ?_ ?_
    · rintro b a w' ⟨ha, hI⟩ hb_ hon hoff
      refine ⟨_, rfl, fun K hK => ?_⟩
      have e21 : a.tmps[21]? = some (.map (some p)) := by rw [ha]; exact putSel_on (e := (3, 21, .map (some p))) 3 rfl rfl (hon 3 (by kernel_rfl)) (by rw [hsz]; rfl)
      have e31 : a.tmps[31]? = some (.string (s.extract 2 3)) := by rw [ha]; exact putSel_on (e := (13, 31, .string (s.extract 2 3))) 13 rfl rfl (hon 13 (by kernel_rfl)) (by rw [hsz]; rfl)
      have e35 : a.tmps[35]? = some (.int .i64 lp.length) := by rw [ha]; exact putSel_on (e := (17, 35, .int .i64 lp.length)) 17 rfl rfl (hon 17 (by kernel_rfl)) (by rw [hsz]; rfl)
      replace ha := Aside0.mk ha
      obtain ⟨p4, p5⟩ := hI.get
      refine skip_ (w1 := setObj w' p (obj (lp ++ [(s.extract 0 2, s.extract 2 3)]))) (by rfl) rfl ?_ ?_
      · exact exec_put rfl (eval_of e21) (eval_of e35) (eval_of e31) (by have h := hI.pt; rw [hb_, show b 16 = true from hon 16 (by kernel_rfl)] at h; exact h)
      exact hK.out _ _ ⟨(by rw [ha.out]; exact (putSel_same rfl).symm), hI.toP (o := obj (lp ++ [(s.extract 0 2, s.extract 2 3)])) (by rfl)⟩
    refine steps_cons ?_ ?_
    · rintro b a w' ⟨ha, hI⟩ hb_ hon hoff
      refine ⟨_, rfl, fun K hK => ?_⟩
      have e27 : a.tmps[27]? = some (.map (some g)) := by rw [ha]; exact putSel_on (e := (9, 27, .map (some g))) 9 rfl rfl (hon 9 (by kernel_rfl)) (by rw [hsz]; rfl)
      have e29 : a.tmps[29]? = some (.string (s.extract 0 2)) := by rw [ha]; exact putSel_on (e := (11, 29, .string (s.extract 0 2))) 11 rfl rfl (hon 11 (by kernel_rfl)) (by rw [hsz]; rfl)
      replace ha := Aside0.mk ha
      obtain ⟨p4, p5⟩ := hI.get
      refine value_ (w1 := setObj w' g (half lg (s.extract 0 2))) (v := .tuple #[.string ⟨#[]⟩, .int .i64 lg.length]) (by rfl) rfl ?_ ?_
      · exact exec_entry rfl (eval_of e27) (eval_of e29) (by have h := hI.gr; rw [hb_, show b 21 = false from hoff 21 (by kernel_rfl)] at h; exact h) hlg
      exact hK.out _ _ ⟨(by rw [ha.out]; exact putSel_upk 18 hb_ rfl rfl rfl), hI.toG (o := half lg (s.extract 0 2)) (by rw [show up b 19 21 = false from (up_ne (by decide)).trans (hoff 21 (by kernel_rfl))]; rfl)⟩
    refine steps_cons ?_ ?_
    · rintro b a w' ⟨ha, hI⟩ hb_ hon hoff
      refine ⟨_, rfl, fun K hK => ?_⟩
      have e36 : a.tmps[36]? = some (.tuple #[.string ⟨#[]⟩, .int .i64 lg.length]) := by rw [ha]; exact putSel_on (e := (19, 36, .tuple #[.string ⟨#[]⟩, .int .i64 lg.length])) 18 rfl rfl (hon 19 (by kernel_rfl)) (by rw [hsz]; rfl)
      replace ha := Aside0.mk ha
      obtain ⟨p4, p5⟩ := hI.get
      refine value_ (w1 := w') (v := .int .i64 lg.length) (by rfl) rfl ?_ ?_
      · go_simp; try rfl
        all_goals (try (simp only [IntKind.wrap_i64]; omega))
      exact hK.out _ _ ⟨(by rw [ha.out]; exact putSel_upk 19 hb_ rfl rfl rfl), hI⟩
    refine steps_cons ?_ ?_
    · rintro b a w' ⟨ha, hI⟩ hb_ hon hoff
      refine ⟨_, rfl, fun K hK => ?_⟩
      have e27 : a.tmps[27]? = some (.map (some g)) := by rw [ha]; exact putSel_on (e := (9, 27, .map (some g))) 9 rfl rfl (hon 9 (by kernel_rfl)) (by rw [hsz]; rfl)
      have e33 : a.tmps[33]? = some (.string (s.extract 3 s.size)) := by rw [ha]; exact putSel_on (e := (15, 33, .string (s.extract 3 s.size))) 15 rfl rfl (hon 15 (by kernel_rfl)) (by rw [hsz]; rfl)
      have e37 : a.tmps[37]? = some (.int .i64 lg.length) := by rw [ha]; exact putSel_on (e := (20, 37, .int .i64 lg.length)) 19 rfl rfl (hon 20 (by kernel_rfl)) (by rw [hsz]; rfl)
      replace ha := Aside0.mk ha
      obtain ⟨p4, p5⟩ := hI.get
      refine skip_ (w1 := setObj w' g (obj (lg ++ [(s.extract 0 2, s.extract 3 s.size)]))) (by rfl) rfl ?_ ?_
      · exact exec_put rfl (eval_of e27) (eval_of e37) (eval_of e33) (by have h := hI.gr; rw [hb_, show b 19 = true from hon 19 (by kernel_rfl)] at h; exact h)
      exact hK.out _ _ ⟨(by rw [ha.out]; exact (putSel_same rfl).symm), hI.toG (o := obj (lg ++ [(s.extract 0 2, s.extract 3 s.size)])) (by rfl)⟩
    exact steps_nil
  rintro b a w1 hall ⟨ha, hI1⟩
  simp only [hall 16 (by kernel_rfl), hall 18 (by kernel_rfl), hall 19 (by kernel_rfl), hall 21 (by kernel_rfl)] at hI1
  exact hend a w1 hI1 (by rw [ha]; simp only [putSel, if_true, hall 0 (by kernel_rfl), hall 1 (by kernel_rfl), hall 2 (by kernel_rfl), hall 3 (by kernel_rfl), hall 4 (by kernel_rfl), hall 5 (by kernel_rfl), hall 6 (by kernel_rfl), hall 7 (by kernel_rfl), hall 8 (by kernel_rfl), hall 9 (by kernel_rfl), hall 10 (by kernel_rfl), hall 11 (by kernel_rfl), hall 12 (by kernel_rfl), hall 13 (by kernel_rfl), hall 14 (by kernel_rfl), hall 15 (by kernel_rfl), hall 16 (by kernel_rfl), hall 17 (by kernel_rfl), hall 19 (by kernel_rfl), hall 20 (by kernel_rfl)]) (by rw [ha]; exact (putSel_size b _ a0).2)
end Go.Proofs.YtonjkoeacedaiaaDoor.M
namespace Go.Proofs.YtonjkoeacedaiaaDoor.M
open Go.RowKit
open Go.Proofs.YtonjkoeacedaiaaDoorW.PrintWords Go.Proofs.YtonjkoeacedaiaaDoorW.PrintLast
set_option linter.unusedVariables false
set_option linter.unusedSimpArgs false
theorem row_at (i : Nat) (h : i < 8) : ∃ s : ByteArray, rowL[i]? = some (.string s) ∧ 3 ≤ s.size ∧ s.size ≤ 100 ∧ look (ptsL.take i) (s.extract 0 2) = none ∧ look (grsL.take i) (s.extract 0 2) = none ∧
    ptsL.take i ++ [(s.extract 0 2, s.extract 2 3)] = ptsL.take (i + 1) ∧ grsL.take i ++ [(s.extract 0 2, s.extract 3 s.size)] = grsL.take (i + 1) := by
  match i, h with
  | 0, _ => exact ⟨_, rfl, by decide, by decide, by kernel_rfl, by kernel_rfl, by kernel_rfl, by kernel_rfl⟩
  | 1, _ => exact ⟨_, rfl, by decide, by decide, by kernel_rfl, by kernel_rfl, by kernel_rfl, by kernel_rfl⟩
  | 2, _ => exact ⟨_, rfl, by decide, by decide, by kernel_rfl, by kernel_rfl, by kernel_rfl, by kernel_rfl⟩
  | 3, _ => exact ⟨_, rfl, by decide, by decide, by kernel_rfl, by kernel_rfl, by kernel_rfl, by kernel_rfl⟩
  | 4, _ => exact ⟨_, rfl, by decide, by decide, by kernel_rfl, by kernel_rfl, by kernel_rfl, by kernel_rfl⟩
  | 5, _ => exact ⟨_, rfl, by decide, by decide, by kernel_rfl, by kernel_rfl, by kernel_rfl, by kernel_rfl⟩
  | 6, _ => exact ⟨_, rfl, by decide, by decide, by kernel_rfl, by kernel_rfl, by kernel_rfl, by kernel_rfl⟩
  | 7, _ => exact ⟨_, rfl, by decide, by decide, by kernel_rfl, by kernel_rfl, by kernel_rfl, by kernel_rfl⟩
theorem St.start {b : Nat} {d s a : Int} {W : World} (h : Mk b d s a none none W) :
    St W b d s a W.heap.size (W.heap.size + 1) (W.heap.size + 1 + 1) [] [] ⟨#[]⟩ ⟨#[]⟩ ⟨#[]⟩ false false false false
      (((((W.setCell ⟨b, 4, none⟩ (.map (some W.heap.size))).setCell ⟨b, 5, none⟩ (.map (some (W.heap.size + 1)))).alloc (.map #[] 0)).alloc (.map #[] 0)).alloc (.cells rowL 9)) := by
  have hb := h.lt
  have k4 := (h.s4 (some W.heap.size)).s5 (some (W.heap.size + 1))
  have g4 : W.grownBy ((W.setCell ⟨b, 4, none⟩ (.map (some W.heap.size))).setCell ⟨b, 5, none⟩ (.map (some (W.heap.size + 1)))) (some b) := (grown_setCell _ b 4 _).trans (grown_setCell _ b 5 _)
  have z4 : ((W.setCell ⟨b, 4, none⟩ (.map (some W.heap.size))).setCell ⟨b, 5, none⟩ (.map (some (W.heap.size + 1)))).heap.size = W.heap.size := by simp [World.setCell]
  generalize (W.setCell ⟨b, 4, none⟩ (.map (some W.heap.size))).setCell ⟨b, 5, none⟩ (.map (some (W.heap.size + 1))) = V at *
  have z5 : (V.alloc (.map #[] 0)).heap.size = W.heap.size + 1 := by simp [z4]
  have z6 : ((V.alloc (.map #[] 0)).alloc (.map #[] 0)).heap.size = W.heap.size + 1 + 1 := by simp [z4]
  have m1 := heap_alloc_new V (.map #[] 0)
  have m2 := heap_alloc_new (V.alloc (.map #[] 0)) (.map #[] 0)
  have m3 := heap_alloc_new ((V.alloc (.map #[] 0)).alloc (.map #[] 0)) (.cells rowL 9)
  rw [z4] at m1
  rw [z5] at m2
  rw [z6] at m3
  refine ⟨⟨(((heap_alloc_old _ _ (by rw [z6]; omega)).trans (heap_alloc_old _ _ (by rw [z5]; omega))).trans (heap_alloc_old _ _ (by rw [z4]; omega))).trans k4.blk⟩, ((heap_alloc_old _ _ (by rw [z6]; omega)).trans (heap_alloc_old _ _ (by rw [z5]; omega))).trans m1, (heap_alloc_old _ _ (by rw [z6]; omega)).trans m2, m3,
    ((g4.trans (World.grownBy_alloc _ _ _)).trans (World.grownBy_alloc _ _ _)).trans (World.grownBy_alloc _ _ _), by omega, by omega, by omega⟩
theorem St.next {w0 : World} {b : Nat} {d s a : Int} {p g q : Nat} {lp lg lp' lg' : List (ByteArray × ByteArray)} {k x y : ByteArray} {W : World} (h : St w0 b d s a p g q lp lg k x y true true true true W) (h1 : lp ++ [(k, x)] = lp') (h2 : lg ++ [(k, y)] = lg') :
    St w0 b d s a p g q lp' lg' ⟨#[]⟩ ⟨#[]⟩ ⟨#[]⟩ false false false false W := by
  subst h1; subst h2
  exact ⟨h.ck, h.pt, h.gr, h.rw, h.gw, h.np, h.ng, h.pg⟩
set_option maxRecDepth 100000 in
set_option maxHeartbeats 4000000 in
theorem fill_any : Fills := by
  intro b d s a W h
  have hst := St.start h
  have hm := fun w => run_makeMap (P := Tryd.prog) 54 w
  have hlt := h.lt
  have f4 := h.fz 4
  have f5 := h.fz 5
  have c4 := h.c4
  have c5 := h.c5
  generalize hp : W.heap.size = p at *
  go_enter Tryd.func62, Tryd.ntmps62
  go_wp2
  subst hp
  have HS := Lib.hid hst; clear hst hm f4 f5 c4 c5 hlt
  go_loopg [14] 8 (fun gk v14 wx => ∃ i : Nat, v14 = .int .i64 i ∧ i + gk = 8 ∧ St W b d s a W.heap.size (W.heap.size + 1) (W.heap.size + 1 + 1) (ptsL.take i) (grsL.take i) ⟨#[]⟩ ⟨#[]⟩ ⟨#[]⟩ false false false false wx)
  case atStart => exact ⟨0, rfl, by omega, HS.out⟩
  case round =>
    obtain ⟨i, rfl, hi, hst⟩ := hrel
    clear HS
    by_cases hp : i < 8
    · obtain ⟨k, rfl⟩ : ∃ f, gk = f + 1 := ⟨gk - 1, by omega⟩
      obtain ⟨t, ht, t3, t9, l1, l2, n1, n2⟩ := row_at i hp
      have c0 := (Lib.cell_of_heap hst.rw i).trans ht
      go_wp2
      refine fill_round W b d s a W.heap.size (W.heap.size + 1) (W.heap.size + 1 + 1) (ptsL.take i) (grsL.take i) t t3 t9 l1 l2 _ rfl rfl rfl wr ?_ _ ?_
      · exact ⟨hst.ck.drew, hst.pt, hst.gr, hst.rw, hst.gw.trans (grown_drew _ _), hst.np, hst.ng, hst.pg⟩
      intro a9 w9 h9 ha9 hd9
      have hn := h9.next n1 n2
      rw [ha9]
      simp only [putSel, if_true, Act.put, List.setIfInBounds_toArray, List.set_cons_zero, List.set_cons_succ]
      clear ha9 hd9 h9 hst
      have HN := Lib.hid hn; clear hn
      go_wp2
      go_roundg k
      case measure => omega
      case rel => exact ⟨i + 1, by simp, by omega, HN.out⟩
    · obtain rfl : i = 8 := by omega
      have hg := hst.gw
      have hF : Full b d s a W.heap.size (W.heap.size + 1) wr := ⟨hst.ck, hst.pt, hst.gr⟩
      go_wp2
      go_end0
      exact ⟨rfl, _, _, hF, hg⟩
end Go.Proofs.YtonjkoeacedaiaaDoor.M
namespace Go.Proofs.YtonjkoeacedaiaaDoor.M
open Go.RowKit
set_option linter.unusedVariables false
set_option linter.unusedSimpArgs false
def ptC (lang : ByteArray) : ByteArray := if (look ptsL lang).isSome = true then (look ptsL lang).getD ⟨#[]⟩ else ⟨#[46]⟩
def grC (lang : ByteArray) : ByteArray := if (look ptsL lang).isSome = true then (look grsL lang).getD ⟨#[]⟩ else ⟨#[44]⟩
def Mks (b : Nat) (n : Int) (W : World) : Prop := (Mk b 0 0 0 none none W ∧ n = 0) ∨ ∃ p g, Full b 1 0 n p g W
theorem Mks.drew {b : Nat} {n : Int} {W : World} (h : Mks b n W) : Mks b n W.drew := by
  rcases h with ⟨h, e⟩ | ⟨p, g, h⟩
  · exact .inl ⟨h.drew, e⟩
  · exact .inr ⟨p, g, h.drew⟩
theorem Mks.step {b : Nat} {n : Int} {W W1 : World} (h : Mks b n W) (c : Below W.heap.size W W1) : Mks b n W1 := by
  have hg := grown_below (row := none) c (Nat.le_refl _)
  rcases h with ⟨h, e⟩ | ⟨p, g, h⟩
  · exact .inl ⟨h.kept hg (by simp), e⟩
  · exact .inr ⟨p, g, h.kept hg (by simp)⟩
theorem Mks.cell {b : Nat} {n : Int} {W : World} (h : Mks b n W) : W.cell? ⟨b, 3, none⟩ = some (.int .i64 n) := by
  rcases h with ⟨h, rfl⟩ | ⟨p, g, h⟩
  · exact h.c3
  · exact h.ck.c3
theorem asked_mks {b : Nat} {n : Int} {w : World} (h : Mks b n w) : Calls Tryd.prog 45 #[.pointer (some ⟨b, 0, none⟩)] w fun e w' => e = .returned (.int .i64 n) ∧ w' = w := by
  rcases h with ⟨h, rfl⟩ | ⟨p, g, h⟩
  · exact asked_any b 0 0 0 none none w h
  · exact asked_any b 1 0 n _ _ w h.ck
theorem do_mks {b : Nat} {n : Int} {w : World} (h : Mks b n w) :
    Calls Tryd.prog 61 #[.pointer (some ⟨b, 0, none⟩), .func (.func 62) #[.pointer (some ⟨b, 0, none⟩)] #[]] w fun e w' => e = .returned (.tuple #[]) ∧ ∃ p g, Full b 1 0 n p g w' ∧ w.grownBy w' (some b) := by
  rcases h with ⟨h, rfl⟩ | ⟨p, g, h⟩
  · exact do_first fill_any b 0 w h
  · exact (do_done b n _ _ _ w h.ck).mono fun e w' ⟨he, hw⟩ => ⟨he, p, g, by rw [hw]; exact h, by rw [hw]; exact grown_refl _ _⟩
theorem add_full {b : Nat} {n : Int} (hn : 0 ≤ n) (hn9 : n ≤ 1000) {p g : Nat} {w : World} (h : Full b 1 0 n p g w) :
    Calls Tryd.prog 63 #[.pointer (some ⟨b, 3, none⟩), .int .i64 1] w fun e w' => e = .returned (.int .i64 (n + 1)) ∧ Full b 1 0 (n + 1) p g w' ∧ w.grownBy w' (some b) :=
  (add_any b 1 0 n _ _ hn hn9 w h.ck).mono fun e w' ⟨he, hw⟩ => ⟨he, by rw [hw]; exact h.s3 _, by rw [hw]; exact grown_setCell _ b 3 _⟩
theorem Full.looks {b : Nat} {d s n : Int} {p g : Nat} {W : World} (h : Full b d s n p g W) (k : ByteArray) :
    (Instr.lookup 54 (.map (some p)) (.string k) true).run Tryd.prog W = .ok (.tuple #[.string ((look ptsL k).getD ⟨#[]⟩), .bool (look ptsL k).isSome]) W ∧
    (Instr.lookup 54 (.map (some g)) (.string k) false).run Tryd.prog W = .ok (.string ((look grsL k).getD ⟨#[]⟩)) W :=
  ⟨run_look Tryd.underlying54 Tryd.underlying9 zstr h.pt k true, run_look Tryd.underlying54 Tryd.underlying9 zstr h.gr k false⟩
set_option maxRecDepth 100000 in
set_option maxHeartbeats 4000000 in
theorem of_any (b : Nat) (n : Int) (hn : 0 ≤ n) (hn9 : n ≤ 1000) (lang : ByteArray) (w : World) (h : Mks b n w) :
    Calls Tryd.prog 28 #[.pointer (some ⟨b, 0, none⟩), .string lang] w fun e w' => e = .returned (.tuple #[.string (ptC lang), .string (grC lang)]) ∧ Mks b (n + 1) w' ∧ w.grownBy w' (some b) := by
  have hmf : ∀ (fn : Fn) (first cap : Array Value) (w : World), (Instr.makeFunc fn first cap).run Tryd.prog w = .ok (.func fn first cap) w := fun _ _ _ _ => rfl
  have hpx : ∀ z, (look ptsL lang).isSome = z → ptC lang = if z = true then (look ptsL lang).getD ⟨#[]⟩ else ⟨#[46]⟩ := fun z hz => by unfold ptC; rw [hz]
  have hgx : ∀ z, (look ptsL lang).isSome = z → grC lang = if z = true then (look grsL lang).getD ⟨#[]⟩ else ⟨#[44]⟩ := fun z hz => by unfold grC; rw [hz]
  generalize ptC lang = px at *
  generalize grC lang = gx at *
  go_enter Tryd.func28, Tryd.ntmps28
  go_upto_region 3 with (first
    | (go_at_call 61; refine (do_mks h).mono ?_; rintro e w1 ⟨rfl, p, g, h1, g1⟩)
    | (go_at_call 63; refine (add_full hn hn9 h1).mono ?_; rintro e w2 ⟨rfl, h2, g2⟩))
  obtain ⟨l1, l2⟩ := h2.looks lang
  obtain ⟨l3, l4⟩ := h2.drew.looks lang
  have hg := g1.trans g2
  have c4 := h2.ck.c4
  have c5 := h2.ck.c5
  have hF : Mks b (n + 1) w2 := .inr ⟨p, g, h2⟩
  clear h h1 g1 g2 h2
  generalize (look ptsL lang).getD ⟨#[]⟩ = x at *
  generalize (look grsL lang).getD ⟨#[]⟩ = y at *
  generalize hz : (look ptsL lang).isSome = z at *
  have ex := hpx z rfl
  have ey := hgx z rfl
  clear hpx hgx hz
  cases z with
  | true =>
    simp only [if_true] at ex ey
    subst ex; subst ey
    go_wp2
    go_region_with (fail)
    all_goals
      go_wp2
      go_ret2
      exact ⟨rfl, by first | exact hF | exact hF.drew, by first | exact hg | exact hg.trans (grown_drew _ _)⟩
  | false =>
    simp only [Bool.false_eq_true, if_false] at ex ey
    subst ex; subst ey
    go_wp2
    go_ret2
    exact ⟨rfl, hF, hg⟩
end Go.Proofs.YtonjkoeacedaiaaDoor.M
namespace Go.Proofs.YtonjkoeacedaiaaDoor
open Go.RowKit Go.Proofs.YtonjkoeacedaiaaDoorW.PrintWords
set_option linter.unusedVariables false
set_option linter.unusedSimpArgs false
def grpR (B : List UInt8) : List UInt8 → List UInt8
  | [] => []
  | c :: t => (if (t.length + 1) % 3 = 0 then B else []) ++ c :: grpR B t
def grp (B : List UInt8) : List UInt8 → List UInt8
  | [] => []
  | c :: t => c :: grpR B t
def restG (B D : List UInt8) (i : Nat) : List UInt8 := if i = 0 then grp B D else grpR B (D.drop i)
theorem restG_zero (B D : List UInt8) (c : UInt8) (h : D[0]? = some c) : restG B D 0 = [c] ++ restG B D (0 + 1) := by
  cases D with
  | nil => simp at h
  | cons a t =>
    have : a = c := by simpa using h
    subst this
    rfl
theorem drop_at' {D : List UInt8} {i : Nat} {c : UInt8} (h : D[i]? = some c) : D.drop i = c :: D.drop (i + 1) := by
  obtain ⟨hl, e⟩ := List.getElem?_eq_some_iff.1 h
  rw [List.drop_eq_getElem_cons hl, e]
theorem restG_yes (B D : List UInt8) (i : Nat) (c : UInt8) (h0 : i ≠ 0) (h : D[i]? = some c) (h3 : (D.length - i) % 3 = 0) : restG B D i = B ++ [c] ++ restG B D (i + 1) := by
  obtain ⟨hl, _⟩ := List.getElem?_eq_some_iff.1 h
  unfold restG
  rw [if_neg h0, if_neg (by omega), drop_at' h]
  rw [show grpR B (c :: D.drop (i + 1)) = (if ((D.drop (i + 1)).length + 1) % 3 = 0 then B else []) ++ c :: grpR B (D.drop (i + 1)) from rfl]
  rw [List.length_drop, if_pos (by omega)]
  simp
theorem restG_no (B D : List UInt8) (i : Nat) (c : UInt8) (h0 : i ≠ 0) (h : D[i]? = some c) (h3 : ¬ (D.length - i) % 3 = 0) : restG B D i = [c] ++ restG B D (i + 1) := by
  obtain ⟨hl, _⟩ := List.getElem?_eq_some_iff.1 h
  unfold restG
  rw [if_neg h0, if_neg (by omega), drop_at' h]
  rw [show grpR B (c :: D.drop (i + 1)) = (if ((D.drop (i + 1)).length + 1) % 3 = 0 then B else []) ++ c :: grpR B (D.drop (i + 1)) from rfl]
  rw [List.length_drop, if_neg (by omega)]
  simp
theorem grpR_len (B : List UInt8) : ∀ L, (grpR B L).length ≤ (B.length + 1) * L.length
  | [] => by simp [grpR]
  | c :: t => by
    have := grpR_len B t
    unfold grpR
    rw [List.length_append, List.length_cons, List.length_cons, Nat.mul_add, Nat.mul_one]
    split <;> simp <;> omega
set_option maxRecDepth 100000 in
set_option maxHeartbeats 4000000 in
theorem group_any (d b : ByteArray) (w : World) (hd : d.size ≤ 1000) (hb : b.size ≤ 1000) :
    Calls Tryd.prog 36 #[.string d, .string b] w fun e w' => e = .returned (.string ⟨(grp b.data.toList d.data.toList).toArray⟩) ∧ Below w.heap.size w w' := by
  have hl : d.data.toList.length = d.size := (Lib.size_eq d).symm
  have hlb : b.data.toList.length = b.size := (Lib.size_eq b).symm
  have hfresh := Lib.fresh_isBuffer 109 5 w
  obtain ⟨R, hR⟩ : ∃ R, grp b.data.toList d.data.toList = R := ⟨_, rfl⟩
  rw [hR]
  have hRl : R.length ≤ 1001 * 1000 + 1 := by
    rw [← hR]
    cases h : d.data.toList with
    | nil => simp [grp]
    | cons c t =>
      rw [h, List.length_cons] at hl
      have := grpR_len b.data.toList t
      have h2 : (b.data.toList.length + 1) * t.length ≤ 1001 * 1000 := Nat.mul_le_mul (by omega) (by omega)
      show (c :: grpR _ t).length ≤ _
      rw [List.length_cons]
      omega
  have HR := Lib.hid hR; clear hR
  go_enter Tryd.func36, Tryd.ntmps36
  go_wp2
  go_loopg [9] d.size (fun gk si wx => ∃ (i : Nat) (acc : List UInt8), si = .int .i64 i ∧ i ≤ d.size ∧ Lib.IsBuffer 109 5 w.heap.size w.heap.size (Lib.byteCells acc) wx ∧ Below w.heap.size w wx ∧ acc ++ restG b.data.toList d.data.toList i = R ∧ d.size ≤ i + gk)
  case atStart => exact ⟨0, [], rfl, by omega, hfresh, (Below.refl _ _).alloc (Nat.le_refl _) _, by rw [← HR.out]; rfl, by omega⟩
  case round =>
    obtain ⟨i, acc, rfl, hi, hI, hbw, hacc, hfu⟩ := hrel
    clear hfresh HR
    have hsz := hbw.size
    have hal : acc.length ≤ R.length := by rw [← hacc, List.length_append]; omega
    have HA := Lib.hid hacc; clear hacc
    by_cases hp : i < d.size
    · obtain ⟨f, rfl⟩ : ∃ f, gk = f + 1 := ⟨gk - 1, by omega⟩
      have hpz : (i : Int) < (d.size : Int) := by omega
      have hip : d.data.toList[i]? = some (d[i]'hp) := by rw [List.getElem?_eq_getElem (by omega)]; rfl
      have cB := fun W bs hI hB h1 h2 => Tryd.Buffer_WriteByte w.heap.size w.heap.size bs ((d[i]'hp).toNat : Int) W hI hB h1 h2
      have cS := fun W bs hI hB h1 h2 => Tryd.Buffer_WriteString w.heap.size w.heap.size bs b W hI hB h1 h2
      have hbl : (Lib.byteCells acc).length = acc.length := Lib.byteCells_length _
      have Hbl := Lib.hid hbl; clear hbl
      have Hip := Lib.hid hip; clear hip
      have Hl := Lib.hid hl; clear hl
      have Hlb := Lib.hid hlb; clear hlb
      by_cases h0 : i = 0
      · subst h0
        have e1 : restG b.data.toList d.data.toList 0 = [d[0]'hp] ++ restG b.data.toList d.data.toList (0 + 1) := restG_zero _ _ _ Hip.out
        have HE := Lib.hid e1; clear e1
        go_wp2_with (go_at_call 67; ((with_reducible refine (cB _ _ hI (by assumption) (Lib.byteCells_one _) (by rw [Hbl.out]; omega)).mono ?_); rintro e W1 ⟨rfl, hI1, hb1⟩))
        go_roundg f
        case measure => omega
        case rel => exact ⟨0 + 1, acc ++ [d[0]'hp], by go_num, by omega, by rw [Lib.byteCells_append]; exact hI1, hbw.trans hb1, by rw [← HA.out, HE.out, List.append_assoc], by omega⟩
      · have hp0 : (0 : Int) < (i : Int) := by omega
        by_cases h3 : (d.size - i) % 3 = 0
        · have hz3 : (((d.size : Int) - i) % 3 == 0) = true := by rw [beq_iff_eq]; omega
          have e1 : restG b.data.toList d.data.toList i = b.data.toList ++ [d[i]'hp] ++ restG b.data.toList d.data.toList (i + 1) := restG_yes _ _ i _ h0 Hip.out (by rw [Hl.out]; exact h3)
          have HE := Lib.hid e1; clear e1
          go_wp2_with (first
            | (go_at_call 66; ((with_reducible refine (cS _ _ hI (by assumption) (Lib.byteCells_one _) (by rw [Hbl.out]; omega)).mono ?_); rintro e W1 ⟨rfl, hI1, hb1⟩; rw [← Lib.byteCells_append] at hI1; have hs1 := hb1.size))
            | (go_at_call 67; ((with_reducible refine (cB _ _ hI1 (by omega) (Lib.byteCells_one _) (by rw [Lib.byteCells_length, List.length_append, Hlb.out]; omega)).mono ?_); rintro e W2 ⟨rfl, hI2, hb2⟩)))
          go_roundg f
          case measure => omega
          case rel => exact ⟨i + 1, acc ++ b.data.toList ++ [d[i]'hp], by go_num, by omega, by rw [Lib.byteCells_append]; exact hI2, (hbw.trans hb1).trans hb2, by rw [← HA.out, HE.out]; simp, by omega⟩
        · have hz3 : (((d.size : Int) - i) % 3 == 0) = false := by rw [beq_eq_false_iff_ne]; omega
          have e1 : restG b.data.toList d.data.toList i = [d[i]'hp] ++ restG b.data.toList d.data.toList (i + 1) := restG_no _ _ i _ h0 Hip.out (by rw [Hl.out]; exact h3)
          have HE := Lib.hid e1; clear e1
          go_wp2_with (go_at_call 67; ((with_reducible refine (cB _ _ hI (by assumption) (Lib.byteCells_one _) (by rw [Hbl.out]; omega)).mono ?_); rintro e W1 ⟨rfl, hI1, hb1⟩))
          go_roundg f
          case measure => omega
          case rel => exact ⟨i + 1, acc ++ [d[i]'hp], by go_num, by omega, by rw [Lib.byteCells_append]; exact hI1, hbw.trans hb1, by rw [← HA.out, HE.out, List.append_assoc], by omega⟩
    · obtain rfl : i = d.size := by omega
      have e1 : restG b.data.toList d.data.toList d.size = [] := by
        unfold restG
        by_cases h0 : d.size = 0
        · rw [if_pos h0, List.eq_nil_of_length_eq_zero (show d.data.toList.length = 0 by omega)]; rfl
        · rw [if_neg h0, List.drop_eq_nil_of_le (by omega)]; rfl
      have e2 : acc = R := by rw [← HA.out, e1, List.append_nil]
      subst e2
      have cT := Tryd.Buffer_String w.heap.size w.heap.size acc wr hI
      clear HA e1
      go_wp2_with (go_at_call 68; ((with_reducible refine cT.mono ?_); rintro e W1 ⟨rfl, n, rfl⟩))
      go_ret
      exact ⟨rfl, pw_below_drewN hbw n⟩
end Go.Proofs.YtonjkoeacedaiaaDoor
namespace Go.Proofs.YtonjkoeacedaiaaDoor
open Go.RowKit Go.Proofs.YtonjkoeacedaiaaDoor.M
set_option linter.unusedVariables false
set_option linter.unusedSimpArgs false
structure Fm (w : World) (b : Nat) (cnt : Int) (n : Bool) (D : ByteArray) (k mi mf xf : Int) (pl rk : Bool) (W : World) : Prop where
  mks : Mks b cnt W
  blk : W.heap[w.heap.size]? = some (.cells #[.bool n, .string D, .int .i64 k] 23 (0, 0))
  opt : W.heap[w.heap.size + 1]? = some (.cells #[.int .i64 mi, .int .i64 mf, .int .i64 xf, .bool pl, .bool rk] 36 (0, 0))
  gw : w.grownBy W (some b)
  lt : b < w.heap.size
section
variable {w W : World} {b : Nat} {cnt k mi mf xf : Int} {n pl rk : Bool} {D : ByteArray}
theorem Fm.step {W1 : World} (h : Fm w b cnt n D k mi mf xf pl rk W) (c : Below W.heap.size W W1) : Fm w b cnt n D k mi mf xf pl rk W1 :=
  ⟨h.mks.step c, below_blockOf c (Nat.le_refl _) h.blk, below_blockOf c (Nat.le_refl _) h.opt, h.gw.trans (grown_below c (Nat.le_refl _)), h.lt⟩
theorem Fm.drew (h : Fm w b cnt n D k mi mf xf pl rk W) : Fm w b cnt n D k mi mf xf pl rk W.drew := h.step ((Below.refl _ _).drew)
theorem Fm.of {W1 : World} {c1 : Int} (h : Fm w b cnt n D k mi mf xf pl rk W) (hm : Mks b c1 W1) (hg : W.grownBy W1 (some b)) : Fm w b c1 n D k mi mf xf pl rk W1 :=
  ⟨hm, (hg.block _ (Array.getElem?_eq_some_iff.1 h.blk).1 (fun e => by have := h.lt; cases e; omega)).trans h.blk, (hg.block _ (Array.getElem?_eq_some_iff.1 h.opt).1 (fun e => by have := h.lt; cases e; omega)).trans h.opt, h.gw.trans hg, h.lt⟩
theorem Fm.get (h : Fm w b cnt n D k mi mf xf pl rk W) : W.cell? ⟨w.heap.size, 0, none⟩ = some (.bool n) ∧ W.cell? ⟨w.heap.size, 1, none⟩ = some (.string D) ∧ W.cell? ⟨w.heap.size, 2, none⟩ = some (.int .i64 k) ∧
    W.cell? ⟨w.heap.size + 1, 0, none⟩ = some (.int .i64 mi) ∧ W.cell? ⟨w.heap.size + 1, 1, none⟩ = some (.int .i64 mf) ∧ W.cell? ⟨w.heap.size + 1, 2, none⟩ = some (.int .i64 xf) ∧ W.cell? ⟨w.heap.size + 1, 3, none⟩ = some (.bool pl) ∧ W.cell? ⟨w.heap.size + 1, 4, none⟩ = some (.bool rk) :=
  ⟨(Lib.cell_of_heap h.blk 0).trans rfl, (Lib.cell_of_heap h.blk 1).trans rfl, (Lib.cell_of_heap h.blk 2).trans rfl, (Lib.cell_of_heap h.opt 0).trans rfl, (Lib.cell_of_heap h.opt 1).trans rfl, (Lib.cell_of_heap h.opt 2).trans rfl, (Lib.cell_of_heap h.opt 3).trans rfl, (Lib.cell_of_heap h.opt 4).trans rfl⟩
theorem Fm.fz (h : Fm w b cnt n D k mi mf xf pl rk W) (i : Nat) : W.frozen? ⟨w.heap.size, i, none⟩ = false := Lib.frozen_of_heap h.blk i
theorem mks_set {x : Nat} {i : Nat} {v : Value} (h : Mks b cnt W) (hx : b < x) (hW : ∀ p g, Full b 1 0 cnt p g W → x ≠ p ∧ x ≠ g) : Mks b cnt (W.setCell ⟨x, i, none⟩ v) := by
  rcases h with ⟨h, e⟩ | ⟨p, g, h⟩
  · exact .inl ⟨h.kept (M.grown_setCell W x i v) (fun e => by cases e; omega), e⟩
  · refine .inr ⟨p, g, h.kept (M.grown_setCell W x i v) (fun k hk => ?_)⟩
    cases hk
    have := hW p g h
    exact ⟨by omega, this.1, this.2⟩
theorem cells_no {b : Nat} {cnt : Int} {W : World} {x : Nat} {cs : Array Value} {T : TypeId} {fr : Nat × Nat} (hx : W.heap[x]? = some (.cells cs T fr)) : ∀ p g, Full b 1 0 cnt p g W → x ≠ p ∧ x ≠ g :=
  fun p g h => ⟨fun e => (by have := h.pt; rw [← e, hx] at this; cases this), fun e => (by have := h.gr; rw [← e, hx] at this; cases this)⟩
theorem Fm.set {i : Nat} {v : Value} (h : Fm w b cnt n D k mi mf xf pl rk W) : Mks b cnt (W.setCell ⟨w.heap.size, i, none⟩ v) ∧ w.grownBy (W.setCell ⟨w.heap.size, i, none⟩ v) (some b) :=
  ⟨mks_set h.mks h.lt (cells_no h.blk), h.gw.andThen (M.grown_setCell W w.heap.size i v) (fun j hj => by cases hj; exact .inl (Nat.le_refl _))⟩
theorem Fm.put (h : Fm w b cnt n D k mi mf xf pl rk W) (n1 : Bool) (D1 : ByteArray) (k1 : Int) :
    Fm w b cnt n1 D1 k1 mi mf xf pl rk (((W.setCell ⟨w.heap.size, 0, none⟩ (.bool n1)).setCell ⟨w.heap.size, 1, none⟩ (.string D1)).setCell ⟨w.heap.size, 2, none⟩ (.int .i64 k1)) := by
  have s0 : Fm w b cnt n1 D k mi mf xf pl rk (W.setCell ⟨w.heap.size, 0, none⟩ (.bool n1)) := ⟨h.set.1, (dc_set h.blk).trans rfl, (dc_far (by omega)).trans h.opt, h.set.2, h.lt⟩
  have s1 : Fm w b cnt n1 D1 k mi mf xf pl rk ((W.setCell ⟨w.heap.size, 0, none⟩ (.bool n1)).setCell ⟨w.heap.size, 1, none⟩ (.string D1)) := ⟨s0.set.1, (dc_set s0.blk).trans rfl, (dc_far (by omega)).trans s0.opt, s0.set.2, s0.lt⟩
  exact ⟨s1.set.1, (dc_set s1.blk).trans rfl, (dc_far (by omega)).trans s1.opt, s1.set.2, s1.lt⟩
theorem Fm.start (hm : Mks b cnt w) (hb : b < w.heap.size) (n : Bool) (D : ByteArray) (k mi mf xf : Int) (pl rk : Bool) :
    Fm w b cnt n D k mi mf xf pl rk ((w.alloc (.cells #[.bool n, .string D, .int .i64 k] 23)).alloc (.cells #[.int .i64 mi, .int .i64 mf, .int .i64 xf, .bool pl, .bool rk] 36)) := by
  have m1 := heap_alloc_new w (.cells #[.bool n, .string D, .int .i64 k] 23)
  have z1 : (w.alloc (.cells #[.bool n, .string D, .int .i64 k] 23)).heap.size = w.heap.size + 1 := by simp
  have b1 := (Below.refl w.heap.size w).alloc (Nat.le_refl _) (.cells #[.bool n, .string D, .int .i64 k] 23)
  generalize w.alloc (.cells #[.bool n, .string D, .int .i64 k] 23) = U at *
  have m2 := heap_alloc_new U (.cells #[.int .i64 mi, .int .i64 mf, .int .i64 xf, .bool pl, .bool rk] 36)
  rw [z1] at m2
  have b2 := b1.alloc (by rw [z1]; omega) (.cells #[.int .i64 mi, .int .i64 mf, .int .i64 xf, .bool pl, .bool rk] 36)
  exact ⟨hm.step b2, (Below.heap_alloc _ _ w.heap.size (by rw [z1]; omega)).trans m1, m2, M.grown_below b2 (Nat.le_refl _), hb⟩
end
def fmS (lang : ByteArray) (pl : Bool) (E : ByteArray) (K : Nat) : ByteArray := if pl = true then E.extract 0 (E.size - K) else ⟨(grp (grC lang).data.toList (E.extract 0 (E.size - K)).data.toList).toArray⟩
def fmP (lang : ByteArray) (pl : Bool) (E : ByteArray) (K : Nat) : ByteArray := if 0 < K then fmS lang pl E K ++ (ptC lang ++ E.extract (E.size - K) E.size) else fmS lang pl E K
def fmC (lang : ByteArray) (pl n : Bool) (E : ByteArray) (K : Nat) : ByteArray := if (n && !(Lib.trimB E.data.toList 48).isEmpty) = true then ⟨#[45]⟩ ++ fmP lang pl E K else fmP lang pl E K
theorem grc_len (B : List UInt8) : ∀ L : List UInt8, (grp B L).length ≤ (B.length + 1) * L.length
  | [] => by simp [grp]
  | c :: r => by
    have := grpR_len B r
    simp only [grp, List.length_cons] at *
    rw [Nat.mul_succ]
    omega
theorem look_size {l : List (ByteArray × ByteArray)} (h : l.all (fun p => decide (p.2.size ≤ 3)) = true) (k : ByteArray) : ((M.look l k).getD ⟨#[]⟩).size ≤ 3 := by
  induction l with
  | nil => show (⟨#[]⟩ : ByteArray).size ≤ 3; decide
  | cons p r ih =>
    rw [List.all_cons, Bool.and_eq_true] at h
    unfold M.look
    split
    · simpa using h.1
    · exact ih h.2
theorem ptC_size (lang : ByteArray) : (ptC lang).size ≤ 3 := by
  unfold ptC; split
  · exact look_size (by kernel_rfl) lang
  · decide
theorem grC_size (lang : ByteArray) : (grC lang).size ≤ 3 := by
  unfold grC; split
  · exact look_size (by kernel_rfl) lang
  · decide
theorem fmS_size (lang : ByteArray) (pl : Bool) (E : ByteArray) (K : Nat) (hE : E.size ≤ 900) : (fmS lang pl E K).size ≤ 3600 := by
  have hx : (E.extract 0 (E.size - K)).size ≤ 900 := by rw [ByteArray.size_extract]; omega
  unfold fmS
  split
  · omega
  · have h1 := grc_len (grC lang).data.toList (E.extract 0 (E.size - K)).data.toList
    have h2 := grC_size lang
    rw [Lib.size_eq] at h2 hx
    show (grp (grC lang).data.toList (E.extract 0 (E.size - K)).data.toList).toArray.size ≤ 3600
    simp only [List.size_toArray]
    have h3 : ((grC lang).data.toList.length + 1) * (E.extract 0 (E.size - K)).data.toList.length ≤ 4 * 900 := Nat.mul_le_mul (by omega) hx
    omega
set_option maxRecDepth 100000 in
set_option maxHeartbeats 4000000 in
theorem format_any (b : Nat) (cnt : Int) (h0 : 0 ≤ cnt) (h9 : cnt ≤ 1000) (lang : ByteArray) (mi mf xf : Int) (pl rk n : Bool) (D : ByteArray) (k : Int) (E : ByteArray) (K : Nat) (hK : K < E.size) (hE : E.size ≤ 900)
    (cS : ∀ W, Calls Tryd.prog 29 #[optV mi mf xf pl rk, decV n D k] W fun e w' => e = .returned (decV n E K) ∧ Below W.heap.size W w')
    (w : World) (hm : Mks b cnt w) (hb : b < w.heap.size) :
    Calls Tryd.prog 33 #[.pointer (some ⟨b, 0, none⟩), .string lang, decV n D k, optV mi mf xf pl rk] w fun e w' => e = .returned (.string (fmC lang pl n E K)) ∧ Mks b (cnt + 1) w' ∧ w.grownBy w' (some b) := by
  obtain ⟨F, hF0⟩ : ∃ F, fmC lang pl n E K = F := ⟨_, rfl⟩
  rw [hF0]
  have hS := Fm.start hm hb n D k mi mf xf pl rk
  have cO := fun W (h : Mks b cnt W) => of_any b cnt h0 h9 lang W h
  have cW := fun W => whole_any n E K W (by omega) (by omega)
  have cP := fun W => part_any n E K W (by omega) (by omega)
  have cZ := fun W => zero_any n E K W (by omega)
  have s4 := extract_size E (E.size - K) (by omega)
  have gs := grC_size lang
  have ps := ptC_size lang
  have cG := fun W => group_any (E.extract 0 (E.size - K)) (grC lang) W (by omega) (by omega)
  unfold decV optV at *
  go_enter Tryd.func33, Tryd.ntmps33
  go_upto_region 2 with (go_at_call 28; refine (cO _ hS.mks).mono ?_; rintro e W1 ⟨rfl, m1, g1⟩)
  have h1 := hS.of m1 g1
  clear m1 g1 hS cO
  obtain ⟨p0, p1, p2, p3, p4, p5, p6, p7⟩ := h1.get
  go_upto_region 3 with (go_at_call 29; refine (cS _).mono ?_; rintro e W2 ⟨rfl, b2⟩; have h2 := h1.step b2; obtain ⟨p0, p1, p2, p3, p4, p5, p6, p7⟩ := h2.get; have z0 := h2.fz 0; have z1 := h2.fz 1; have z2 := h2.fz 2)
  have h3 := h2.put n E K
  clear p0 p1 p2 p3 p4 p5 p6 p7 z0 z1 z2 h1 h2 b2 cS
  generalize ((W2.setCell ⟨w.heap.size, 0, none⟩ (.bool n)).setCell ⟨w.heap.size, 1, none⟩ (.string E)).setCell ⟨w.heap.size, 2, none⟩ (.int .i64 K) = W3 at *
  obtain ⟨p0, p1, p2, p3, p4, p5, p6, p7⟩ := h3.get
  go_upto_region 4 with (go_at_call 30; refine (cW _).mono ?_; rintro e W4 ⟨rfl, b4⟩; have h4 := h3.step b4)
  clear p0 p1 p2 p3 p4 p5 p6 p7 h3 b4 cW
  obtain ⟨p0, p1, p2, p3, p4, p5, p6, p7⟩ := h4.get
  have hS9 := fmS_size lang pl E K hE
  have hx9 : (E.extract (E.size - K) E.size).size ≤ 900 := by rw [ByteArray.size_extract]; omega
  have hfin : ∀ S, fmS lang pl E K = S → F = (if (n && !(Lib.trimB E.data.toList 48).isEmpty) = true then ⟨#[45]⟩ ++ (if 0 < K then S ++ (ptC lang ++ E.extract (E.size - K) E.size) else S) else (if 0 < K then S ++ (ptC lang ++ E.extract (E.size - K) E.size) else S)) := fun S h => by rw [← hF0]; unfold fmC fmP; rw [h]
  have cG' : pl = false → ∀ W, Calls Tryd.prog 36 #[.string (E.extract 0 (E.size - K)), .string (grC lang)] W fun e w' => e = .returned (.string (fmS lang pl E K)) ∧ Below W.heap.size W w' := fun hp W => (cG W).mono fun e w' ⟨he, hb⟩ => ⟨by rw [he, hp]; rfl, hb⟩
  have hT : pl = true → E.extract 0 (E.size - K) = fmS lang pl E K := fun hp => by rw [hp]; rfl
  clear hF0
  generalize fmS lang pl E K = S at *
  have hF := hfin S rfl
  clear hfin cG gs
  generalize E.extract 0 (E.size - K) = X at *
  generalize hY : E.extract (E.size - K) E.size = Y at *
  generalize hP : ptC lang = P at *
  generalize grC lang = G at *
  generalize hz : (Lib.trimB E.data.toList 48).isEmpty = z at *
  have a1 : (S.size : Int) ≤ 8388608 := by omega
  have a2 : (P.size : Int) ≤ 8388608 := by omega
  have a3 : (Y.size : Int) ≤ 8388608 := by omega
  have a4 : ((P ++ Y).size : Int) ≤ 8388608 := by rw [ByteArray.size_append]; omega
  have a5 : ((⟨#[45]⟩ : ByteArray).size : Int) ≤ 8388608 := by decide
  cases pl with
  | false =>
    have cGf := cG' rfl
    clear cG' hT
    go_upto_region 6 with (go_at_call 36; refine (cGf _).mono ?_; rintro e W5 ⟨rfl, b5⟩; have h5 := h4.step b5)
    clear p0 p1 p2 p3 p4 p5 p6 p7 h4 b5 cGf
    obtain ⟨p0, p1, p2, p3, p4, p5, p6, p7⟩ := h5.get
    by_cases hk0 : 0 < K
    · have g1 : decide ((K : Int) > 0) = true := decide_eq_true (by omega)
      simp only [if_pos hk0] at hF
      go_upto_region 8 with (go_at_call 31; refine (cP _).mono ?_; rintro e W6 ⟨rfl, b6⟩; have h6 := h5.step b6)
      clear p0 p1 p2 p3 p4 p5 p6 p7 h5 b6 cP
      obtain ⟨p0, p1, p2, p3, p4, p5, p6, p7⟩ := h6.get
      have s9 : ((S ++ (P ++ Y)).size : Int) ≤ 8388608 := by rw [ByteArray.size_append, ByteArray.size_append]; omega
      generalize S ++ (P ++ Y) = S2 at *
      cases n with
      | false =>
        go_wp2
        go_ret
        exact ⟨by first | (rw [hF]; simp; done) | rfl | (simp; done), h6.mks, h6.gw⟩
      | true =>
        cases z with
        | true =>
          go_wp2_with (go_at_call 32; refine (cZ _).mono ?_; rintro e W8 ⟨rfl, b8⟩; have h8 := h6.step b8)
          go_ret
          exact ⟨by first | (rw [hF]; simp; done) | rfl | (simp; done), h8.mks, h8.gw⟩
        | false =>
          go_wp2_with (go_at_call 32; refine (cZ _).mono ?_; rintro e W8 ⟨rfl, b8⟩; have h8 := h6.step b8)
          go_ret
          exact ⟨by first | (rw [hF]; simp; done) | rfl | (simp; done), h8.mks, h8.gw⟩
    · have g1 : decide ((K : Int) > 0) = false := decide_eq_false (by omega)
      simp only [if_neg hk0] at hF
      go_upto_region 8 with (fail)
      cases n with
      | false =>
        go_wp2
        go_ret
        exact ⟨by first | (rw [hF]; simp; done) | rfl | (simp; done), h5.mks, h5.gw⟩
      | true =>
        cases z with
        | true =>
          go_wp2_with (go_at_call 32; refine (cZ _).mono ?_; rintro e W8 ⟨rfl, b8⟩; have h8 := h5.step b8)
          go_ret
          exact ⟨by first | (rw [hF]; simp; done) | rfl | (simp; done), h8.mks, h8.gw⟩
        | false =>
          go_wp2_with (go_at_call 32; refine (cZ _).mono ?_; rintro e W8 ⟨rfl, b8⟩; have h8 := h5.step b8)
          go_ret
          exact ⟨by first | (rw [hF]; simp; done) | rfl | (simp; done), h8.mks, h8.gw⟩
  | true =>
    obtain rfl := hT rfl
    clear cG'
    go_upto_region 6 with (fail)
    by_cases hk0 : 0 < K
    · have g1 : decide ((K : Int) > 0) = true := decide_eq_true (by omega)
      simp only [if_pos hk0] at hF
      go_upto_region 8 with (go_at_call 31; refine (cP _).mono ?_; rintro e W6 ⟨rfl, b6⟩; have h6 := h4.step b6)
      clear p0 p1 p2 p3 p4 p5 p6 p7 h4 b6 cP
      obtain ⟨p0, p1, p2, p3, p4, p5, p6, p7⟩ := h6.get
      have s9 : ((X ++ (P ++ Y)).size : Int) ≤ 8388608 := by rw [ByteArray.size_append, ByteArray.size_append]; omega
      generalize X ++ (P ++ Y) = S2 at *
      cases n with
      | false =>
        go_wp2
        go_ret
        exact ⟨by first | (rw [hF]; simp; done) | rfl | (simp; done), h6.mks, h6.gw⟩
      | true =>
        cases z with
        | true =>
          go_wp2_with (go_at_call 32; refine (cZ _).mono ?_; rintro e W8 ⟨rfl, b8⟩; have h8 := h6.step b8)
          go_ret
          exact ⟨by first | (rw [hF]; simp; done) | rfl | (simp; done), h8.mks, h8.gw⟩
        | false =>
          go_wp2_with (go_at_call 32; refine (cZ _).mono ?_; rintro e W8 ⟨rfl, b8⟩; have h8 := h6.step b8)
          go_ret
          exact ⟨by first | (rw [hF]; simp; done) | rfl | (simp; done), h8.mks, h8.gw⟩
    · have g1 : decide ((K : Int) > 0) = false := decide_eq_false (by omega)
      simp only [if_neg hk0] at hF
      go_upto_region 8 with (fail)
      cases n with
      | false =>
        go_wp2
        go_ret
        exact ⟨by first | (rw [hF]; simp; done) | rfl | (simp; done), h4.mks, h4.gw⟩
      | true =>
        cases z with
        | true =>
          go_wp2_with (go_at_call 32; refine (cZ _).mono ?_; rintro e W8 ⟨rfl, b8⟩; have h8 := h4.step b8)
          go_ret
          exact ⟨by first | (rw [hF]; simp; done) | rfl | (simp; done), h8.mks, h8.gw⟩
        | false =>
          go_wp2_with (go_at_call 32; refine (cZ _).mono ?_; rintro e W8 ⟨rfl, b8⟩; have h8 := h4.step b8)
          go_ret
          exact ⟨by first | (rw [hF]; simp; done) | rfl | (simp; done), h8.mks, h8.gw⟩
end Go.Proofs.YtonjkoeacedaiaaDoor
namespace Go.Proofs.YtonjkoeacedaiaaDoor.G
open Go.RowKit Go.Proofs.YtonjkoeacedaiaaDoorW.PrintWords
set_option linter.unusedVariables false
set_option linter.unusedSimpArgs false
theorem isNaN_str (s : ByteArray) (w : World) : Calls Tryd.prog 109 #[.string s] w fun e w' => e = .returned (.bool false) ∧ w = w' := by
  go_enter Tryd.func109, Tryd.ntmps109
  go_wp2
  go_ret
  exact ⟨by simp, rfl⟩
def cmpS (a b : List UInt8) : Int := if Op.bytesLess a b = true then -1 else if (a == b) = true then 0 else 1
theorem cmp_str (a b : ByteArray) (w : World) : Calls Tryd.prog 73 #[.string a, .string b] w fun e w' => e = .returned (.int .i64 (cmpS a.toList b.toList)) ∧ w = w' := by
  unfold cmpS
  have cN := isNaN_str
  by_cases h1 : Op.bytesLess a.toList b.toList = true
  · rw [if_pos h1]
    go_enter Tryd.func73, Tryd.ntmps73
    go_wp2_with (go_at_call 109; refine (cN _ _).mono ?_; rintro e w' ⟨rfl, rfl⟩)
    go_ret
    exact ⟨rfl, rfl⟩
  · have h1 : Op.bytesLess a.toList b.toList = false := by simpa using h1
    rw [if_neg (by rw [h1]; decide)]
    by_cases h2 : (a.toList == b.toList) = true
    · rw [if_pos h2]
      go_enter Tryd.func73, Tryd.ntmps73
      go_wp2_with (go_at_call 109; refine (cN _ _).mono ?_; rintro e w' ⟨rfl, rfl⟩)
      go_ret
      exact ⟨rfl, rfl⟩
    · have h2 : (a.toList == b.toList) = false := Bool.eq_false_iff.mpr h2
      rw [if_neg (by rw [h2]; decide)]
      go_enter Tryd.func73, Tryd.ntmps73
      go_wp2_with (go_at_call 109; refine (cN _ _).mono ?_; rintro e w' ⟨rfl, rfl⟩)
      go_ret
      exact ⟨rfl, rfl⟩
end Go.Proofs.YtonjkoeacedaiaaDoor.G
namespace Go.Proofs.YtonjkoeacedaiaaDoorW.PrintLast
section
variable {P : Program} {ops : Array Oper} {Q : Exit → Act → World → Prop} {md : Region.Mode} {S : World → Prop} {ds : List Nat} {T : Bool × List (List Nat × List Nat)}
end
end Go.Proofs.YtonjkoeacedaiaaDoorW.PrintLast
namespace Go.Proofs.YtonjkoeacedaiaaDoorW.PrintWords
open Go.RowKit
section
variable {w w' u : World} {m B g : Nat} {o : Obj} {row : Option Nat} {S : Nat → Prop} {a : Addr} {v : Value}
end
namespace Kd
section
variable {α : Type} {d : Kd α} {e base n m : Nat} {ok : Nat → Prop} {w w' : World} {v : Value} {A : Option Addr} {xs : List α}
end
end Kd
end Go.Proofs.YtonjkoeacedaiaaDoorW.PrintWords
namespace Go.Proofs.YtonjkoeacedaiaaDoorW.PrintWords
open Go.RowKit
section
variable {P : Program} {d : Nat} {xs ys : Array Value} {f : Field} {fs : List Field} {a b : Value} {r s : Bool} {w : World}
theorem eqf_last (hn : (f.name == "_") = false) (ha : (part f.type xs f.offset).run P w = .ok a w) (hb : (part f.type ys f.offset).run P w = .ok b w) (he : (Op.equalIn d f.type a b).run P w = .ok r w) : (Op.eqFields d xs ys [f]).run P w = .ok r w := by
  have hn' : f.name ≠ "_" := by simpa using hn
  simp only [Op.eqFields, if_pos hn', Sem.run_bind, ha, hb, he, Result.andThen_ok]
  cases r <;> simp
theorem eqf_cons (hn : (f.name == "_") = false) (ha : (part f.type xs f.offset).run P w = .ok a w) (hb : (part f.type ys f.offset).run P w = .ok b w) (he : (Op.equalIn d f.type a b).run P w = .ok r w) (hr : (Op.eqFields d xs ys fs).run P w = .ok s w) : (Op.eqFields d xs ys (f :: fs)).run P w = .ok (r && s) w := by
  have hn' : f.name ≠ "_" := by simpa using hn
  rw [Op.eqFields]
  simp only [if_pos hn', Sem.run_bind, ha, hb, he, Result.andThen_ok]
  cases r
  · simp
  · simpa using hr
theorem eqA_of {t : TypeId} {fs : Array Field} (hu : P.underlying t = some (.struct fs)) (hp : P.stoodInHeld t = false) (h : (Op.eqFields d xs ys fs.toList).run P w = .ok r w) : (Op.equalIn (d + 1) t (.agg xs) (.agg ys)).run P w = .ok r w := by
  have hf : P.fieldsOf t = fs := by simp [Program.fieldsOf, hu]
  rw [run_equalIn_struct (P := P) w d t xs ys (by rw [hf]; exact hu) hp, hf]
  exact h
end
end Go.Proofs.YtonjkoeacedaiaaDoorW.PrintWords
namespace Go.Proofs.YtonjkoeacedaiaaDoorW.PrintWords
theorem Reps.one {α : Type} {R : α → List Value → Prop} {ps : List α} {cs : List Value} {p : α} {v : Value} (hp : R p [v]) (h : Reps R 1 ps cs) : Reps R 1 (p :: ps) (v :: cs) := by
  refine ⟨by simp [h.1], fun j q hq => ?_⟩
  cases j with
  | zero =>
    simp only [List.getElem?_cons_zero, Option.some.injEq] at hq
    subst hq
    simpa using hp
  | succ j =>
    simp only [List.getElem?_cons_succ] at hq
    have h1 := h.2 j q hq
    simpa [Nat.mul_one] using h1
theorem Reps.front {α : Type} {R : α → List Value → Prop} {size : Nat} {ps : List α} {cs c all : List Value} {p : α} (hp : R p c) (hc : c.length = size) (h : Reps R size ps cs) (ha : c ++ cs = all) : Reps R size (p :: ps) all := by
  subst ha
  refine ⟨by rw [List.length_append, hc, h.1, List.length_cons, Nat.succ_mul, Nat.add_comm], fun j q hq => ?_⟩
  cases j with
  | zero =>
    simp only [List.getElem?_cons_zero, Option.some.injEq] at hq
    subst hq
    rw [Nat.zero_mul, List.drop_zero, List.take_append_of_le_length (by omega), List.take_of_length_le (by omega)]
    exact hp
  | succ j =>
    simp only [List.getElem?_cons_succ] at hq
    have h1 := h.2 j q hq
    rw [Nat.succ_mul, List.drop_append, List.drop_of_length_le (by rw [hc]; exact Nat.le_add_left _ _), List.nil_append, hc, Nat.add_sub_cancel]
    exact h1
theorem Reps.c2 {α : Type} {R : α → List Value → Prop} {ps : List α} {cs : List Value} {p : α} {va vb : Value} (hp : R p [va, vb]) (h : Reps R 2 ps cs) : Reps R 2 (p :: ps) (va :: vb :: cs) := Reps.front hp rfl h rfl
theorem Reps.c3 {α : Type} {R : α → List Value → Prop} {ps : List α} {cs : List Value} {p : α} {va vb vc : Value} (hp : R p [va, vb, vc]) (h : Reps R 3 ps cs) : Reps R 3 (p :: ps) (va :: vb :: vc :: cs) := Reps.front hp rfl h rfl
theorem Reps.c4 {α : Type} {R : α → List Value → Prop} {ps : List α} {cs : List Value} {p : α} {va vb vc vd : Value} (hp : R p [va, vb, vc, vd]) (h : Reps R 4 ps cs) : Reps R 4 (p :: ps) (va :: vb :: vc :: vd :: cs) := Reps.front hp rfl h rfl
theorem Reps.c5 {α : Type} {R : α → List Value → Prop} {ps : List α} {cs : List Value} {p : α} {va vb vc vd ve : Value} (hp : R p [va, vb, vc, vd, ve]) (h : Reps R 5 ps cs) : Reps R 5 (p :: ps) (va :: vb :: vc :: vd :: ve :: cs) := Reps.front hp rfl h rfl
theorem Reps.c6 {α : Type} {R : α → List Value → Prop} {ps : List α} {cs : List Value} {p : α} {va vb vc vd ve vf : Value} (hp : R p [va, vb, vc, vd, ve, vf]) (h : Reps R 6 ps cs) : Reps R 6 (p :: ps) (va :: vb :: vc :: vd :: ve :: vf :: cs) := Reps.front hp rfl h rfl
theorem Reps.c7 {α : Type} {R : α → List Value → Prop} {ps : List α} {cs : List Value} {p : α} {va vb vc vd ve vf vg : Value} (hp : R p [va, vb, vc, vd, ve, vf, vg]) (h : Reps R 7 ps cs) : Reps R 7 (p :: ps) (va :: vb :: vc :: vd :: ve :: vf :: vg :: cs) := Reps.front hp rfl h rfl
theorem Reps.c8 {α : Type} {R : α → List Value → Prop} {ps : List α} {cs : List Value} {p : α} {va vb vc vd ve vf vg vh : Value} (hp : R p [va, vb, vc, vd, ve, vf, vg, vh]) (h : Reps R 8 ps cs) : Reps R 8 (p :: ps) (va :: vb :: vc :: vd :: ve :: vf :: vg :: vh :: cs) := Reps.front hp rfl h rfl
theorem Reps.c9 {α : Type} {R : α → List Value → Prop} {ps : List α} {cs : List Value} {p : α} {va vb vc vd ve vf vg vh vi : Value} (hp : R p [va, vb, vc, vd, ve, vf, vg, vh, vi]) (h : Reps R 9 ps cs) : Reps R 9 (p :: ps) (va :: vb :: vc :: vd :: ve :: vf :: vg :: vh :: vi :: cs) := Reps.front hp rfl h rfl
theorem Reps.c10 {α : Type} {R : α → List Value → Prop} {ps : List α} {cs : List Value} {p : α} {va vb vc vd ve vf vg vh vi vj : Value} (hp : R p [va, vb, vc, vd, ve, vf, vg, vh, vi, vj]) (h : Reps R 10 ps cs) : Reps R 10 (p :: ps) (va :: vb :: vc :: vd :: ve :: vf :: vg :: vh :: vi :: vj :: cs) := Reps.front hp rfl h rfl
end Go.Proofs.YtonjkoeacedaiaaDoorW.PrintWords
namespace Go.Proofs.YtonjkoeacedaiaaDoorW.PrintWords
open Go.RowKit
section
variable {P : Program} {ops : Array Oper} {rest : List Oper} {o : Oper} {a : Act} {Q : Exit → Act → World → Prop} {W : World}
theorem gate_guard (hw : Region.wanted o (yielded ops a.tmps) = true) (h : wpList P ops Q ({ o with guard := none } :: rest) a W) : wpList P ops Q (o :: rest) a W := by
  have h1 : Region.wanted { o with guard := none } (yielded ops a.tmps) = true := rfl
  unfold wpList at h ⊢
  rw [if_pos h1] at h
  rw [if_pos hw]
  exact h
end
end Go.Proofs.YtonjkoeacedaiaaDoorW.PrintWords
namespace Go.Proofs.YtonjkoeacedaiaaDoor.U
open Go.RowKit Go.Proofs.YtonjkoeacedaiaaDoor.G Go.Proofs.YtonjkoeacedaiaaDoorW.PrintWords Go.Proofs.YtonjkoeacedaiaaDoorW.PrintLast Go.Proofs.YtonjkoeacedaiaaDoorW.PrintMore
attribute [local go_sem] max2_int min2_int max_two min_two max_three min_three max_four min_four
set_option linter.unusedVariables false
set_option linter.unusedSimpArgs false
def errW : Option Int → Value
  | none => .nilIface
  | some c => .iface 0 (.int .i64 c)
theorem errW_none : errW none = .nilIface := rfl
theorem errW_some (c : Int) : errW (some c) = .iface 0 (.int .i64 c) := rfl
end Go.Proofs.YtonjkoeacedaiaaDoor.U
namespace Go.Proofs.YtonjkoeacedaiaaDoor.U
open Go.RowKit Go.Proofs.YtonjkoeacedaiaaDoor.G Go.Proofs.YtonjkoeacedaiaaDoorW.PrintWords Go.Proofs.YtonjkoeacedaiaaDoorW.PrintLast Go.Proofs.YtonjkoeacedaiaaDoorW.PrintMore
attribute [local go_sem] max2_int min2_int max_two min_two max_three min_three max_four min_four
set_option linter.unusedVariables false
set_option linter.unusedSimpArgs false
def dec_make0.f (a0 : Bool) (a1 : ByteArray) (a2 : Int) : Option (Bool × ByteArray × Int) := (strings_TrimLeft.f a1 (⟨#[48]⟩ : ByteArray)).bind fun t102 => (if (wrap64 ((wrap64 (a2 + 1)) - (t102.size : Int))) > 0 then ((strings_Repeat.f (⟨#[48]⟩ : ByteArray) (wrap64 ((wrap64 (a2 + 1)) - (t102.size : Int)))).bind fun t103 => (if t103.size + t102.size ≤ 9223372036854775807 then (some (a0, t103 ++ t102, a2)) else (none))) else (some (a0, t102, a2)))
set_option maxHeartbeats 8000000 in
set_option maxRecDepth 100000 in
theorem dec_make0.calls (a0 : Bool) (a1 : ByteArray) (a2 : Int) (r1 : Bool) (r2 : ByteArray) (r3 : Int) (w : World) (h : dec_make0.f a0 a1 a2 = some (r1, r2, r3)) :
    Calls Tryd.prog 72 #[.bool a0, .string a1, .int .i64 a2] w fun e w' => e = .returned (.agg #[.bool r1, .string r2, .int .i64 r3]) ∧ Below w.heap.size w w' := by
  have hu23 := Tryd.underlying23
  have HB := Aside0.mk (Below.refl w.heap.size w)
  have H : ((strings_TrimLeft.f a1 (⟨#[48]⟩ : ByteArray)).bind fun t102 => (if (wrap64 ((wrap64 (a2 + 1)) - (t102.size : Int))) > 0 then ((strings_Repeat.f (⟨#[48]⟩ : ByteArray) (wrap64 ((wrap64 (a2 + 1)) - (t102.size : Int)))).bind fun t103 => (if t103.size + t102.size ≤ 9223372036854775807 then (some (a0, t103 ++ t102, a2)) else (none))) else (some (a0, t102, a2)))) = some (r1, r2, r3) := h
  clear h
  replace H := Option.bind_eq_some_iff.mp H
  obtain ⟨t102, A40, H⟩ := H
  replace H : (if (wrap64 ((wrap64 (a2 + 1)) - (t102.size : Int))) > 0 then ((strings_Repeat.f (⟨#[48]⟩ : ByteArray) (wrap64 ((wrap64 (a2 + 1)) - (t102.size : Int)))).bind fun t103 => (if t103.size + t102.size ≤ 9223372036854775807 then (some (a0, t103 ++ t102, a2)) else (none))) else (some (a0, t102, a2))) = some (r1, r2, r3) := H
  have A4 := Aside0.mk A40
  clear A40
  by_cases c5 : (wrap64 ((wrap64 (a2 + 1)) - (t102.size : Int))) > 0
  · rw [if_pos c5] at H
    have c5b0 : decide (0 < (wrap64 ((wrap64 (a2 + 1)) - (t102.size : Int)))) = true := decide_eq_true c5
    clear c5
    replace H := Option.bind_eq_some_iff.mp H
    obtain ⟨t103, A60, H⟩ := H
    replace H : (if t103.size + t102.size ≤ 9223372036854775807 then (some (a0, t103 ++ t102, a2)) else (none)) = some (r1, r2, r3) := H
    have A6 := Aside0.mk A60
    clear A60
    by_cases c7 : t103.size + t102.size ≤ 9223372036854775807
    · rw [if_pos c7] at H
      try simp only [show wrap64 ((t103.size : Int) + (t102.size : Int)) = (t103.size : Int) + (t102.size : Int) from by unfold wrap64; omega] at *
      have c7b0 := eq_true c7
      have c7b1 : decide (t103.size + t102.size ≤ 9223372036854775807) = true := decide_eq_true c7
      try have c7b2 : (9223372036854775807 < t103.size + t102.size) = False := eq_false (Nat.not_lt.2 c7)
      simp only [Option.some.injEq, Prod.mk.injEq] at H
      obtain ⟨rfl, rfl, rfl⟩ := H
      go_enter Tryd.func72, Tryd.ntmps72
      go_wp2_with (first | ((with_reducible refine gate_dst (N := 6) rfl ?_); refine box_event ?hg (N := 6) ?hd (cs := #[.bool false, .string (⟨#[]⟩ : ByteArray), .int .i64 0]) (t := 23) ?hr ?_; (case hd => rfl); (case hg => rfl); (case hr => first | (go_simp; done) | (go_simp; rfl)); intro gb101 hg w8 hbox hb; have n0_ := Aside0.mk (below_step (by repeat (first | (with_reducible first | exact HB.out | apply below_alloc | apply pw_below_drewN | apply below_drew1) | exact HB.out)) hb); have n1_ := Aside0.mk (hbox); have n2_ := Aside0.mk ((by rw [hg]; exact (below_size (by repeat (first | (with_reducible first | exact HB.out | apply below_alloc | apply pw_below_drewN | apply below_drew1) | exact HB.out))) : w.heap.size ≤ gb101)); have n3_ := Aside0.mk ((by rw [hg]; exact (below_size (by repeat (first | (with_reducible first | exact HB.out | apply below_alloc | apply pw_below_drewN | apply below_drew1) | exact HB.out))) : w.heap.size ≤ gb101)); clear HB; have HB := n0_; have BK101 := n1_; have GW101 := n2_; have GE101 := n3_; clear n0_ n1_ n2_ n3_; clear hb hbox hg) | ((with_reducible refine gate_callee (f := 88) rfl ?_); refine goesL_ (some 9) rfl rfl Tryd.func88 (by kernel_rfl) rfl #[.string a1, .string (⟨#[48]⟩ : ByteArray)] rfl (by (try simp only [List.map_toArray, List.map_cons, List.map_nil]); first | done | rfl | (simp only [List.length_drop, List.length_take]; rfl)) ?_; (with_reducible refine (strings_TrimLeft.calls a1 (⟨#[48]⟩ : ByteArray) t102 _ A4.out).mono ?_); rintro e w9 ⟨rfl, hb⟩; refine ⟨_, rfl, ?_⟩; have n0_ := Aside0.mk (blk_below (g := gb101) (o := .cells #[.bool false, .string (⟨#[]⟩ : ByteArray), .int .i64 0] 23 (0, 0)) (by (with_reducible repeat (first | refine blk_drewN ?_ _ | refine blk_drew ?_ | refine blk_alloc ?_ _)); exact BK101.out) hb); have n1_ := Aside0.mk (below_step (by repeat (first | (with_reducible first | exact HB.out | apply below_alloc | apply pw_below_drewN | apply below_drew1 | refine below_set ?_ GE101.out) | exact HB.out)) hb); clear BK101; clear HB; have BK101 := n0_; have HB := n1_; clear n0_ n1_; (try clear hb); (try clear hb2); (try clear hk); (try clear hi)) | ((with_reducible refine gate_callee (f := 64) rfl ?_); refine goesL_ (some 18) rfl rfl Tryd.func64 (by kernel_rfl) rfl #[.string (⟨#[48]⟩ : ByteArray), .int .i64 (wrap64 ((wrap64 (a2 + 1)) - (t102.size : Int)))] rfl (by (try simp only [List.map_toArray, List.map_cons, List.map_nil]); first | done | rfl | (simp only [List.length_drop, List.length_take]; rfl)) ?_; (with_reducible refine (strings_Repeat.calls (⟨#[48]⟩ : ByteArray) (wrap64 ((wrap64 (a2 + 1)) - (t102.size : Int))) t103 _ A6.out).mono ?_); rintro e w10 ⟨rfl, hb⟩; refine ⟨_, rfl, ?_⟩; have n0_ := Aside0.mk (blk_below (g := gb101) (o := .cells #[.bool false, .string (⟨#[]⟩ : ByteArray), .int .i64 0] 23 (0, 0)) (by (with_reducible repeat (first | refine blk_drewN ?_ _ | refine blk_drew ?_ | refine blk_alloc ?_ _)); exact BK101.out) hb); have n1_ := Aside0.mk (below_step (by repeat (first | (with_reducible first | exact HB.out | apply below_alloc | apply pw_below_drewN | apply below_drew1 | refine below_set ?_ GE101.out) | exact HB.out)) hb); clear BK101; clear HB; have BK101 := n0_; have HB := n1_; clear n0_ n1_; (try clear hb); (try clear hb2); (try clear hk); (try clear hi); have hcz11_0 : w10.cell? ⟨gb101, 0, none⟩ = some (.bool false) := (blk_cell BK101.out 0).trans rfl; have hcz11_1 : w10.cell? ⟨gb101, 1, none⟩ = some (.string (⟨#[]⟩ : ByteArray)) := (blk_cell BK101.out 1).trans rfl; have hcz11_2 : w10.cell? ⟨gb101, 2, none⟩ = some (.int .i64 0) := (blk_cell BK101.out 2).trans rfl; have hfz11_0 := blk_frozen BK101.out 0; have hfz11_1 := blk_frozen BK101.out 1; have hfz11_2 := blk_frozen BK101.out 2))
      refine bodyPost_ret (results_cell_row rfl _ _ gb101 23 #[.bool a0, .string (t103 ++ t102), .int .i64 a2] (0, 0) _ rfl (by (with_reducible repeat (first | refine blk_drewN ?_ _ | refine blk_drew ?_ | refine blk_alloc ?_ _)); refine blk_put (cs := #[.bool a0, .string (t103 ++ t102), .int .i64 0]) ?_ 2 _ rfl; (with_reducible repeat (first | refine blk_drewN ?_ _ | refine blk_drew ?_ | refine blk_alloc ?_ _)); refine blk_put (cs := #[.bool a0, .string (⟨#[]⟩ : ByteArray), .int .i64 0]) ?_ 1 _ rfl; (with_reducible repeat (first | refine blk_drewN ?_ _ | refine blk_drew ?_ | refine blk_alloc ?_ _)); refine blk_put (cs := #[.bool false, .string (⟨#[]⟩ : ByteArray), .int .i64 0]) ?_ 0 _ rfl; (with_reducible repeat (first | refine blk_drewN ?_ _ | refine blk_drew ?_ | refine blk_alloc ?_ _)); exact BK101.out) Tryd.underlying23 rfl (by kernel_rfl)) rfl ?_
      exact ⟨by first | rfl | (simp [errW_none, errW_some] <;> rfl) | (simp [*, errW_none, errW_some] <;> rfl), by repeat (first | (with_reducible first | exact HB.out | apply below_alloc | apply pw_below_drewN | apply below_drew1 | refine below_set ?_ GE101.out) | exact HB.out)⟩
    · rw [if_neg c7] at H
      exact absurd H (by simp)
  · rw [if_neg c5] at H
    have c5b0 : decide (0 < (wrap64 ((wrap64 (a2 + 1)) - (t102.size : Int)))) = false := decide_eq_false c5
    clear c5
    simp only [Option.some.injEq, Prod.mk.injEq] at H
    obtain ⟨rfl, rfl, rfl⟩ := H
    go_enter Tryd.func72, Tryd.ntmps72
    go_wp2_with (first | ((with_reducible refine gate_dst (N := 6) rfl ?_); refine box_event ?hg (N := 6) ?hd (cs := #[.bool false, .string (⟨#[]⟩ : ByteArray), .int .i64 0]) (t := 23) ?hr ?_; (case hd => rfl); (case hg => rfl); (case hr => first | (go_simp; done) | (go_simp; rfl)); intro gb101 hg w12 hbox hb; have n0_ := Aside0.mk (below_step (by repeat (first | (with_reducible first | exact HB.out | apply below_alloc | apply pw_below_drewN | apply below_drew1) | exact HB.out)) hb); have n1_ := Aside0.mk (hbox); have n2_ := Aside0.mk ((by rw [hg]; exact (below_size (by repeat (first | (with_reducible first | exact HB.out | apply below_alloc | apply pw_below_drewN | apply below_drew1) | exact HB.out))) : w.heap.size ≤ gb101)); have n3_ := Aside0.mk ((by rw [hg]; exact (below_size (by repeat (first | (with_reducible first | exact HB.out | apply below_alloc | apply pw_below_drewN | apply below_drew1) | exact HB.out))) : w.heap.size ≤ gb101)); clear HB; have HB := n0_; have BK101 := n1_; have GW101 := n2_; have GE101 := n3_; clear n0_ n1_ n2_ n3_; clear hb hbox hg) | ((with_reducible refine gate_callee (f := 88) rfl ?_); refine goesL_ (some 9) rfl rfl Tryd.func88 (by kernel_rfl) rfl #[.string a1, .string (⟨#[48]⟩ : ByteArray)] rfl (by (try simp only [List.map_toArray, List.map_cons, List.map_nil]); first | done | rfl | (simp only [List.length_drop, List.length_take]; rfl)) ?_; (with_reducible refine (strings_TrimLeft.calls a1 (⟨#[48]⟩ : ByteArray) t102 _ A4.out).mono ?_); rintro e w13 ⟨rfl, hb⟩; refine ⟨_, rfl, ?_⟩; have n0_ := Aside0.mk (blk_below (g := gb101) (o := .cells #[.bool false, .string (⟨#[]⟩ : ByteArray), .int .i64 0] 23 (0, 0)) (by (with_reducible repeat (first | refine blk_drewN ?_ _ | refine blk_drew ?_ | refine blk_alloc ?_ _)); exact BK101.out) hb); have n1_ := Aside0.mk (below_step (by repeat (first | (with_reducible first | exact HB.out | apply below_alloc | apply pw_below_drewN | apply below_drew1 | refine below_set ?_ GE101.out) | exact HB.out)) hb); clear BK101; clear HB; have BK101 := n0_; have HB := n1_; clear n0_ n1_; (try clear hb); (try clear hb2); (try clear hk); (try clear hi); have hcz14_0 : w13.cell? ⟨gb101, 0, none⟩ = some (.bool false) := (blk_cell BK101.out 0).trans rfl; have hcz14_1 : w13.cell? ⟨gb101, 1, none⟩ = some (.string (⟨#[]⟩ : ByteArray)) := (blk_cell BK101.out 1).trans rfl; have hcz14_2 : w13.cell? ⟨gb101, 2, none⟩ = some (.int .i64 0) := (blk_cell BK101.out 2).trans rfl; have hfz14_0 := blk_frozen BK101.out 0; have hfz14_1 := blk_frozen BK101.out 1; have hfz14_2 := blk_frozen BK101.out 2))
    refine bodyPost_ret (results_cell_row rfl _ _ gb101 23 #[.bool a0, .string t102, .int .i64 a2] (0, 0) _ rfl (by (with_reducible repeat (first | refine blk_drewN ?_ _ | refine blk_drew ?_ | refine blk_alloc ?_ _)); refine blk_put (cs := #[.bool a0, .string t102, .int .i64 0]) ?_ 2 _ rfl; (with_reducible repeat (first | refine blk_drewN ?_ _ | refine blk_drew ?_ | refine blk_alloc ?_ _)); refine blk_put (cs := #[.bool a0, .string (⟨#[]⟩ : ByteArray), .int .i64 0]) ?_ 1 _ rfl; (with_reducible repeat (first | refine blk_drewN ?_ _ | refine blk_drew ?_ | refine blk_alloc ?_ _)); refine blk_put (cs := #[.bool false, .string (⟨#[]⟩ : ByteArray), .int .i64 0]) ?_ 0 _ rfl; (with_reducible repeat (first | refine blk_drewN ?_ _ | refine blk_drew ?_ | refine blk_alloc ?_ _)); exact BK101.out) Tryd.underlying23 rfl (by kernel_rfl)) rfl ?_
    exact ⟨by first | rfl | (simp [errW_none, errW_some] <;> rfl) | (simp [*, errW_none, errW_some] <;> rfl), by repeat (first | (with_reducible first | exact HB.out | apply below_alloc | apply pw_below_drewN | apply below_drew1 | refine below_set ?_ GE101.out) | exact HB.out)⟩
end Go.Proofs.YtonjkoeacedaiaaDoor.U
namespace Go.Proofs.YtonjkoeacedaiaaDoor
open Go.RowKit Go.Proofs.YtonjkoeacedaiaaDoorW.PrintWords Go.Proofs.YtonjkoeacedaiaaDoorW.PrintMore
set_option linter.unusedVariables false
set_option linter.unusedSimpArgs false
def incR : List UInt8 → List UInt8
  | [] => [49]
  | c :: t => if c.toNat < 57 then (c.toNat + 1).toUInt8 :: t else 48 :: incR t
def incL (l : List UInt8) : List UInt8 := (incR l.reverse).reverse
structure Lies (g : Nat) (M : List UInt8) (w : World) : Prop where
  cell : ∀ j c, M[j]? = some c → w.cell? ⟨g, j, none⟩ = some (.int .u8 c.toNat)
  free : ∀ j, j < M.length → w.frozen? ⟨g, j, none⟩ = false
theorem Lies.below {g : Nat} {M : List UInt8} {w w' : World} (h : Lies g M w) (hb : Below w.heap.size w w') (hg : g < w.heap.size) : Lies g M w' :=
  ⟨fun j c hj => by rw [hb.cell (p := ⟨g, j, none⟩) hg]; exact h.cell j c hj, fun j hj => by rw [hb.frozen (p := ⟨g, j, none⟩) hg]; exact h.free j hj⟩
theorem Lies.set {g : Nat} {M : List UInt8} {w : World} (h : Lies g M w) (i : Nat) (hi : i < M.length) (c : UInt8) : Lies g (M.set i c) (w.setCell ⟨g, i, none⟩ (.int .u8 c.toNat)) := by
  refine ⟨fun j x hj => ?_, fun j hj => ?_⟩
  · rw [List.getElem?_set] at hj
    by_cases e : i = j
    · subst e
      rw [if_pos rfl, if_pos hi] at hj
      obtain rfl := Option.some.inj hj
      exact World.cell?_setCell_same _ _ _ (h.cell i _ (List.getElem?_eq_getElem hi))
    · rw [if_neg e] at hj
      rw [World.cell?_setCell_other _ _ ⟨g, j, none⟩ _ (by intro h; exact e (by injection h))]
      exact h.cell j x hj
  · rw [World.frozen?_setCell]
    rw [List.length_set] at hj
    exact h.free j hj
theorem strOfNums_list (l : List UInt8) : strOfNums (l.map fun b => (b.toNat : Int)) = ⟨l.toArray⟩ := by
  apply ByteArray.ext
  apply Array.toList_inj.1
  rw [strOfNums_data, List.map_map]
  show l.map _ = l
  conv => rhs; rw [← List.map_id l]
  exact List.map_congr_left fun b _ => by simp
theorem Lies.str {g : Nat} {M : List UInt8} {w : World} (h : Lies g M w) (cap : Nat) : (convert 100 9 (.slice (some ⟨g, 0, none⟩) M.length cap)).run Tryd.prog w = .ok (.string ⟨M.toArray⟩) w := by
  rw [run_convert_bytes_arg (P := Tryd.prog) w 100 5 Tryd.underlying100 Tryd.underlying5 g 0 M.length cap (M.map fun b => (b.toNat : Int)) (by simp) (fun i hi => by
    rw [Nat.zero_add, h.cell i _ (List.getElem?_eq_getElem hi)]
    simp [List.getD, List.getElem?_eq_getElem hi]) 9 Tryd.underlying9, strOfNums_list]
theorem incL_step (a : List UInt8) (c : UInt8) (j : Nat) (h : 57 ≤ c.toNat) : incL (a ++ [c]) ++ List.replicate j 48 = incL a ++ List.replicate (j + 1) 48 := by
  unfold incL
  rw [List.reverse_append]
  show (incR (c :: a.reverse)).reverse ++ _ = _
  rw [show incR (c :: a.reverse) = if c.toNat < 57 then (c.toNat + 1).toUInt8 :: a.reverse else 48 :: incR a.reverse from rfl, if_neg (by omega)]
  rw [List.reverse_cons, List.append_assoc, List.replicate_succ]
  rfl
theorem incL_stop (a : List UInt8) (c : UInt8) (h : c.toNat < 57) : incL (a ++ [c]) = a ++ [(c.toNat + 1).toUInt8] := by
  unfold incL
  rw [List.reverse_append]
  show (incR (c :: a.reverse)).reverse = _
  rw [show incR (c :: a.reverse) = if c.toNat < 57 then (c.toNat + 1).toUInt8 :: a.reverse else 48 :: incR a.reverse from rfl, if_pos h]
  simp
theorem incL_nil : incL [] = [49] := rfl
theorem Lies.of_own {w : World} {base g n cap : Nat} {l : List UInt8} {xs : List Value} (h : w.ownsRow base 5 1 (.slice (some ⟨g, 0, none⟩) n cap) n xs) (hx : xs = l.map fun c => Value.int .u8 c.toNat) : Lies g l w := by
  rcases h.2 with ⟨h, _⟩ | ⟨g3, cap3, cur, h, _, hh, h2, _, h4, h5⟩
  · cases h
  · injection h with h1 _ _
    injection h1 with h1
    injection h1 with h1
    subst h1
    subst hx
    rw [Nat.mul_one] at h5
    refine ⟨fun j c hj => ?_, fun j hj => Lib.frozen_of_heap hh j⟩
    rw [Lib.cell_of_heap hh]
    have e : (cur.toList.take n)[j]? = some (.int .u8 c.toNat) := by rw [h5, List.getElem?_map, hj]; rfl
    rw [List.getElem?_take] at e
    split at e
    · rw [← Array.getElem?_toList]; exact e
    · cases e
theorem u8Info : (Tryd.prog.info? 5).map (fun i => (i.zero, i.size, i.bytes)) = some (some (.int .u8 0), 1, 1) := by kernel_rfl
set_option maxRecDepth 100000 in
set_option maxHeartbeats 4000000 in
theorem up_any (l : List UInt8) (g cap : Nat) (w : World) (hn : 1 ≤ l.length) (hl : l.length ≤ 1000) (hL : Lies g l w) (hg : g < w.heap.size) :
    Calls Tryd.prog 74 #[.slice (some ⟨g, 0, none⟩) l.length cap] w fun e w' => ∃ g' cap', e = .returned (.slice (some ⟨g', 0, none⟩) (incL l).length cap') ∧ Lies g' (incL l) w' ∧ g' < w'.heap.size ∧ Below g w w' := by
  obtain ⟨R, hR⟩ : ∃ R, incL l = R := ⟨_, rfl⟩
  rw [hR]
  have HR := Lib.hid hR; clear hR
  have HL := Lib.hid hL; clear hL
  go_enter Tryd.func74, Tryd.ntmps74
  go_wp2
  go_loopg [3] l.length (fun gk si wx => ∃ (i : Nat) (z : Int), si = .int .i64 z ∧ z + 1 = i ∧ i ≤ l.length ∧ Lies g (l.take i ++ List.replicate (l.length - i) 48) wx ∧ Below g w wx ∧ incL (l.take i) ++ List.replicate (l.length - i) 48 = R ∧ i ≤ gk)
  case atStart => exact ⟨l.length, (l.length : Int) - 1, rfl, by omega, Nat.le_refl _, by simpa using HL.out, Below.refl _ _, by simpa using HR.out, Nat.le_refl _⟩
  case round =>
    obtain ⟨i, z, rfl, hz, hi, hL, hb, hr, hfu⟩ := hrel
    clear HL HR
    have hsz := hb.size
    have Hr := Lib.hid hr; clear hr
    cases i with
    | zero =>
      obtain rfl : z = -1 := by omega
      have hL0 : Lies g (List.replicate l.length 48) wr := by simpa using hL
      have hR0 : R = 49 :: List.replicate l.length 48 := by rw [← Hr.out]; simp [incL_nil]
      have hnews : ∀ (j : Nat) (u : Value), (List.replicate l.length (Value.int .u8 48))[j]? = some u → (wr.alloc (.cells #[.int .u8 49] 5)).cell? ((⟨g, 0, none⟩ : Addr).add j) = some u := fun j u hj => by
        obtain ⟨hlt, e⟩ := List.getElem?_eq_some_iff.1 hj
        rw [List.length_replicate] at hlt
        rw [List.getElem_replicate] at e
        subst e
        rw [add_plain, World.cell?_alloc_lt _ _ _ (by show g < wr.heap.size; omega)]
        exact hL0.cell j 48 (by rw [List.getElem?_replicate, if_pos hlt])
      have hown : (wr.alloc (.cells #[.int .u8 49] 5)).ownsRow wr.heap.size 5 1 (.slice (some ⟨wr.heap.size, 0, none⟩) 1 1) 1 [.int .u8 49] := ⟨rfl, .inr ⟨wr.heap.size, 1, #[.int .u8 49], rfl, Nat.le_refl _, heap_alloc_new wr _, Nat.le_refl _, by decide, rfl, rfl⟩⟩
      have hone : ∀ u ∈ List.replicate l.length (Value.int .u8 48), u.oneCell' = true := fun u hu => by rw [List.eq_of_mem_replicate hu]; rfl
      have Hone := Lib.hid hone; clear hone
      obtain ⟨i0, hi0, hz0, hz1, hz2⟩ := info_parts u8Info
      have Hn := Lib.hid hnews; clear hnews
      have Ho := Lib.hid hown; clear hown
      have H0 := Lib.hid hL0; clear hL0
      have HR0 := Lib.hid hR0; clear hR0
      clear hL
      go_wp2_with (at_builtin; refine wpList_append_lies _ rfl _ _ 100 rfl wr.heap.size 5 i0 (.int .u8 0) 1 1 Tryd.underlying100 hi0 hz0 hz1 hz2 rfl (by decide) _ _ _ rfl Ho.out ⟨g, 0, none⟩ l.length cap (List.replicate l.length (Value.int .u8 48)) rfl (by simp) Hn.out Hone.out (by omega) (by unfold maxLen; omega) (by omega) (by simp) (wr.heap.size + 1) (by simp) ?_; intro g2 cap2 w1 hown2 hgrow hat hlt)
      go_ret
      have hRl : R.length = 1 + l.length := by rw [HR0.out]; simp; omega
      refine ⟨g2, cap2, ?_, ?_, hlt, ?_⟩
      · rw [hRl]; simp
      · rw [HR0.out]
        have := Lies.of_own (l := 49 :: List.replicate l.length 48) hown2 (by simp)
        exact this
      · exact (hb.alloc (by omega) _).grown hgrow (by simp; omega) (fun k hk => by have e : wr.heap.size = k := Option.some.inj (show some wr.heap.size = some k from hk); omega)
    | succ m =>
      obtain rfl : z = (m : Int) := by omega
      have hml : m < l.length := by omega
      obtain ⟨c, hc⟩ : ∃ c, l[m]? = some c := ⟨_, List.getElem?_eq_getElem hml⟩
      have htk : l.take (m + 1) = l.take m ++ [c] := by rw [List.take_add_one, hc]; rfl
      have hMl : (l.take (m + 1) ++ List.replicate (l.length - (m + 1)) 48).length = l.length := by simp; omega
      have hMm : (l.take (m + 1) ++ List.replicate (l.length - (m + 1)) 48)[m]? = some c := by
        rw [List.getElem?_append_left (by rw [List.length_take]; omega), List.getElem?_take_of_lt (by omega), hc]
      have hcm := hL.cell m c hMm
      have hfm := hL.free m (by rw [hMl]; exact hml)
      have hset : ∀ x : UInt8, (l.take (m + 1) ++ List.replicate (l.length - (m + 1)) 48).set m x = l.take m ++ x :: List.replicate (l.length - (m + 1)) 48 := fun x => by
        rw [htk, List.append_assoc, List.set_append_right _ _ (by rw [List.length_take]; omega), List.length_take, Nat.min_eq_left (by omega), Nat.sub_self]
        rfl
      have hLs : ∀ x : UInt8, Lies g (l.take m ++ x :: List.replicate (l.length - (m + 1)) 48) (wr.setCell ⟨g, m, none⟩ (.int .u8 x.toNat)) := fun x => by
        have := hL.set m (by rw [hMl]; exact hml) x
        rw [hset] at this
        exact this
      have hmz : (m : Int) < (l.length : Int) := by omega
      have hc0 : (0 : Int) ≤ (c.toNat : Int) := by omega
      have Hs := Lib.hid hLs; clear hLs hset hL
      have Hc := Lib.hid hc; clear hc
      have Htk := Lib.hid htk; clear htk
      clear hMl hMm
      by_cases h57 : c.toNat < 57
      · have h57z : (c.toNat : Int) < 57 := by omega
        obtain ⟨f, rfl⟩ : ∃ f, gk = f + 1 := ⟨gk - 1, by omega⟩
        go_wp2
        go_ret
        have hRe : R = l.take m ++ (c.toNat + 1).toUInt8 :: List.replicate (l.length - (m + 1)) 48 := by
          rw [← Hr.out, Htk.out, incL_stop _ _ h57]; simp
        have hRl : R.length = l.length := by rw [hRe]; simp; omega
        have hcn : ((c.toNat + 1).toUInt8.toNat : Int) = (c.toNat : Int) + 1 := by simp [Nat.toUInt8]; omega
        refine ⟨g, cap, ?_, ?_, ?_, ?_⟩
        · show Ending.returned (Value.slice (some ⟨g, 0, none⟩) ↑l.length cap) = _
          rw [hRl]
        · rw [hRe]
          have := Hs.out (c.toNat + 1).toUInt8
          rw [hcn] at this
          exact this
        · simpa using (by omega : g < wr.heap.size)
        · exact hb.setCell (Nat.le_refl _) _
      · have h57z : ¬ (c.toNat : Int) < 57 := by omega
        obtain ⟨f, rfl⟩ : ∃ f, gk = f + 1 := ⟨gk - 1, by omega⟩
        go_wp2
        go_roundg f
        case measure => omega
        case rel =>
          refine ⟨m, (m : Int) - 1, rfl, by omega, by omega, ?_, hb.setCell (Nat.le_refl _) _, ?_, by omega⟩
          · have := Hs.out 48
            rw [show l.length - m = (l.length - (m + 1)) + 1 by omega, List.replicate_succ]
            exact this
          · rw [← Hr.out, Htk.out, incL_step _ _ _ (by omega)]
            rw [show l.length - m = (l.length - (m + 1)) + 1 by omega]
structure RG (w : World) (n : Bool) (W : World) : Prop where
  c0 : W.cell? ⟨w.heap.size, 0, none⟩ = some (.bool n)
  e0 : W.cell? ⟨w.heap.size + 1, 0, none⟩ = some (.bool false)
  e1 : W.cell? ⟨w.heap.size + 1, 1, none⟩ = some (.string ⟨#[]⟩)
  e2 : W.cell? ⟨w.heap.size + 1, 2, none⟩ = some (.int .i64 0)
  fr : ∀ j, W.frozen? ⟨w.heap.size + 1, j, none⟩ = false
  sz : w.heap.size + 1 + 1 < W.heap.size
  bel : Below w.heap.size w W
theorem RG.step {w W W' : World} {n : Bool} (h : RG w n W) (b : Below (w.heap.size + 1 + 1) W W') : RG w n W' where
  c0 := (b.cell (p := ⟨w.heap.size, 0, none⟩) (by show w.heap.size < _; omega)).trans h.c0
  e0 := (b.cell (p := ⟨w.heap.size + 1, 0, none⟩) (by show w.heap.size + 1 < _; omega)).trans h.e0
  e1 := (b.cell (p := ⟨w.heap.size + 1, 1, none⟩) (by show w.heap.size + 1 < _; omega)).trans h.e1
  e2 := (b.cell (p := ⟨w.heap.size + 1, 2, none⟩) (by show w.heap.size + 1 < _; omega)).trans h.e2
  fr := fun j => (b.frozen (p := ⟨w.heap.size + 1, j, none⟩) (by show w.heap.size + 1 < _; omega)).trans (h.fr j)
  sz := Nat.lt_of_lt_of_le h.sz b.size
  bel := h.bel.trans (b.mono (by omega))
attribute [local go_sem] max2_int max_two
set_option maxRecDepth 100000 in
set_option maxHeartbeats 4000000 in
theorem round_more (n : Bool) (d : ByteArray) (k sc ct : Nat) (s : Int) (w : World) (hsc : (if s < 0 then (0 : Int) else s) = (sc : Int)) (hk : k < d.size) (hks : sc < k) (hct : ct + 1 + (k - sc) = d.size) (hd : ∀ c ∈ d.data.toList, 48 ≤ c.toNat ∧ c.toNat ≤ 57) (hs : d.size ≤ 1000)
    (x : UInt8) (hx : d.data.toList[ct]? = some x) (C : Int) (hC : C = -1 ∨ C = 0 ∨ C = 1) (O : Bool)
    (hcC : ∀ W, Calls Tryd.prog 73 #[.string (d.extract (ct + 1) d.size), .string ((⟨#[53]⟩ : ByteArray) ++ ⟨(Lib.repeatL [48] (k - sc - 1)).toArray⟩)] W fun e w' => e = .returned (.int .i64 C) ∧ W = w')
    (hO : (((x.toNat : Int) - 48) % 2 == 1) = O)
    (r1 : Bool) (r2 : ByteArray) (r3 : Int) (hm : U.dec_make0.f n ⟨(if C > 0 ∨ C = 0 ∧ O = true then incL (d.data.toList.take (ct + 1)) else d.data.toList.take (ct + 1)).toArray⟩ sc = some (r1, r2, r3)) :
    Calls Tryd.prog 40 #[decV n d k, .int .i64 s] w fun e w' => e = .returned (.agg #[.bool r1, .string r2, .int .i64 r3]) ∧ Below w.heap.size w w' := by
  unfold decV
  obtain ⟨X, hX⟩ : ∃ X, (w.alloc (.cells #[.bool n, .string d, .int .i64 k] 23)).alloc (.cells #[.bool false, .string ⟨#[]⟩, .int .i64 0] 23) = X := ⟨_, rfl⟩
  have hXs : X.heap.size = w.heap.size + 1 + 1 := by rw [← hX]; simp
  have hXd : X.drew.heap.size = w.heap.size + 1 + 1 := by simpa using hXs
  have bX : Below w.heap.size w X := by rw [← hX]; exact ((Below.refl _ _).alloc (Nat.le_refl _) _).alloc (by simp) _
  have c0 : X.cell? ⟨w.heap.size, 0, none⟩ = some (.bool n) := by rw [← hX]; simp [go_sem]
  have c1 : X.cell? ⟨w.heap.size, 1, none⟩ = some (.string d) := by rw [← hX]; simp [go_sem]
  have c2 : X.cell? ⟨w.heap.size, 2, none⟩ = some (.int .i64 k) := by rw [← hX]; simp [go_sem]
  have d0 : X.cell? ⟨w.heap.size + 1, 0, none⟩ = some (.bool false) := by rw [← hX]; simp [go_sem]
  have d1 : X.cell? ⟨w.heap.size + 1, 1, none⟩ = some (.string ⟨#[]⟩) := by rw [← hX]; simp [go_sem]
  have d2 : X.cell? ⟨w.heap.size + 1, 2, none⟩ = some (.int .i64 0) := by rw [← hX]; simp [go_sem]
  have f0 : ∀ j, X.frozen? ⟨w.heap.size + 1, j, none⟩ = false := fun j => by
    rw [← hX]
    have hh := heap_alloc_new (w.alloc (.cells #[.bool n, .string d, .int .i64 k] 23)) (.cells #[.bool false, .string ⟨#[]⟩, .int .i64 0] 23)
    rw [show (w.alloc (.cells #[.bool n, .string d, .int .i64 k] 23)).heap.size = w.heap.size + 1 by simp] at hh
    exact Lib.frozen_of_heap hh j
  obtain ⟨W2, hW2⟩ : ∃ W2, Lib.bytesWorld X.drew 5 (d.extract 0 (ct + 1)) = W2 := ⟨_, rfl⟩
  have b2 : Below X.heap.size X W2 := by
    rw [← hW2]
    exact ⟨rfl, rfl, rfl, by rw [Lib.bytesWorld_size]; simp, fun i hi => (Lib.bytesWorld_at_old _ _ _ _ (by simpa using hi)).trans rfl⟩
  have hsz : (d.extract 0 (ct + 1)).size = ct + 1 := by simp; omega
  have hdl : (d.extract 0 (ct + 1)).data.toList = d.data.toList.take (ct + 1) := by rw [Lib.extract_data]; simp
  have hL2 : Lies (w.heap.size + 1 + 1) (d.data.toList.take (ct + 1)) W2 := by
    refine ⟨fun j c hj => ?_, fun j hj => ?_⟩
    · rw [← hW2, ← hXd]
      have hlt : j < ct + 1 := by
        have := (List.getElem?_eq_some_iff.1 hj).1
        rw [List.length_take] at this
        omega
      rw [Lib.bytesWorld_cell _ _ _ _ (by rw [hsz]; exact hlt), hdl, List.getD_eq_getElem?_getD, hj]
      rfl
    · rw [← hW2, ← hXd]
      have hlt : j < ct + 1 := by rw [List.length_take] at hj; omega
      have hbs : j < (Lib.bytesCells X.drew 5 (d.extract 0 (ct + 1))).size := by
        simp [Lib.bytesCells]; omega
      simp only [World.frozen?, Lib.bytesWorld_at_new]
      simp; omega
  have hs2 : w.heap.size + 1 + 1 < W2.heap.size := by rw [← hW2, Lib.bytesWorld_size, hXd]; omega
  have cc := fun (a : Addr) (v : Value) (h : X.cell? a = some v) => (b2.cell (p := a) (World.block_lt_of_cell? _ _ h)).trans h
  have hR2 : RG w n W2 := ⟨cc _ _ c0, cc _ _ d0, cc _ _ d1, cc _ _ d2, fun j => (b2.frozen (p := ⟨w.heap.size + 1, j, none⟩) (by show w.heap.size + 1 < X.heap.size; omega)).trans (f0 j), hs2, bX.trans (b2.mono (by omega))⟩
  obtain ⟨CP, hCP⟩ : ∃ CP, grownCap X.drew (d.extract 0 (ct + 1)).size 0 5 = CP := ⟨_, rfl⟩
  have hk1 : (convert 9 100 (.string (d.extract 0 (ct + 1)))).run Tryd.prog X.drew = .ok (.slice (some ⟨w.heap.size + 1 + 1, 0, none⟩) ((ct + 1 : Nat)) CP) W2 := by
    rw [Lib.run_convert_string_bytes (P := Tryd.prog) X.drew 9 100 5 _ Tryd.underlying9 Tryd.underlying100 Tryd.underlying5, hW2, hXd, hCP, hsz]
  have hw1 : W2.cell? ⟨w.heap.size, 1, none⟩ = some (.string d) := cc _ _ c1
  have hcut : (d.size : Int) - ((k : Int) - sc) = (ct : Int) + 1 := by omega
  have hz0 : (0 : Int) ≤ (ct : Int) + 1 := by omega
  have hz1 : (ct : Int) + 1 ≤ (d.size : Int) := by omega
  have hle : (sc : Int) < (k : Int) := by omega
  have hxr := hd x (List.mem_of_getElem? hx)
  have hx0 : (48 : Int) ≤ (x.toNat : Int) := by omega
  have hx9 : (x.toNat : Int) ≤ 57 := by omega
  have hxt : (d.data.toList.take (ct + 1))[ct]? = some x := by rw [List.getElem?_take_of_lt (by omega), hx]
  have hll : (d.data.toList.take (ct + 1)).length = ct + 1 := by
    have := Lib.size_eq d
    rw [List.length_take]; omega
  have cR : ∀ (m : Int) (W : World), 0 ≤ m → m ≤ 1000 → Calls Tryd.prog 64 #[.string ⟨#[48]⟩, .int .i64 m] W fun e w' => e = .returned (.string ⟨(Lib.repeatL [48] m.toNat).toArray⟩) ∧ Below W.heap.size W w' := fun m W h0 h1 => by
    have := Tryd.strings_Repeat ⟨#[48]⟩ m.toNat W (by omega) (by show 1 * m.toNat ≤ _; omega)
    rw [Int.toNat_of_nonneg h0] at this
    exact this
  have cR1 := fun (W : World) => cR (((d.size - (ct + 1) : Nat) : Int) - 1) W (by omega) (by omega)
  rw [show ((((d.size - (ct + 1) : Nat) : Int) - 1)).toNat = k - sc - 1 by omega] at cR1
  clear cR
  obtain ⟨rz, hrz⟩ : ∃ rz : ByteArray, (⟨(Lib.repeatL [48] (k - sc - 1)).toArray⟩ : ByteArray) = rz := ⟨_, rfl⟩
  have hrzs : rz.size ≤ 1000 := by rw [← hrz, Lib.size_eq, Lib.repeatL_length]; show (k - sc - 1) * 1 ≤ 1000; omega
  rw [hrz] at hcC cR1
  clear hrz
  have cU := fun (W : World) h1 h2 => up_any (d.data.toList.take (ct + 1)) (w.heap.size + 1 + 1) CP W (by rw [hll]; omega) (by rw [hll]; omega) h1 h2
  rw [hll] at cU
  have cK := fun (W : World) (h : Lies (w.heap.size + 1 + 1) (d.data.toList.take (ct + 1)) W) => h.str CP
  rw [hll] at cK
  clear hll
  have Hxt := Lib.hid hxt; clear hxt hx hxr
  have HR2 := Lib.hid hR2; clear hR2
  have HL2 := Lib.hid hL2; clear hL2
  have Hm := Lib.hid hm; clear hm
  have Hd := Lib.hid hd; clear hd
  clear cc hs2 b2 hXs hXd bX c0 d0 d1 d2 f0 hsz hdl hCP
  have HW := Lib.hid hW2; clear hW2
  have CK := Lib.hid cK; clear cK
  rcases hC with rfl | rfl | rfl
  rotate_left
  rcases O with _ | _
  rotate_left
  all_goals
    have hm2 := Hm.out
    first | rw [if_pos (by decide)] at hm2 | rw [if_pos (Or.inl (by decide))] at hm2 | rw [if_neg (by decide)] at hm2 | rw [if_neg (fun h => Or.elim h (fun h => absurd h (by decide)) (fun h => absurd h.1 (by decide)))] at hm2
    have cMM := fun W => U.dec_make0.calls n _ sc r1 r2 r3 W hm2
    clear hm2 Hm
    go_enter Tryd.func40, Tryd.ntmps40
    go_wp2
    go_region_with (fail)
    all_goals
      go_wp2_with (first
        | (go_at_call 64; ((with_reducible refine (cR1 _).mono ?_); rintro e W3 ⟨rfl, b3⟩; have h3 := HR2.out.step (b3.mono (Nat.le_of_lt HR2.out.sz)); have L3 := HL2.out.below b3 HR2.out.sz; have q3 := L3.cell ct x Hxt.out; have hk3 := CK.out _ L3; have g0 := h3.c0; have g1 := h3.e0; have g2 := h3.e1; have g3 := h3.e2; have g4 := h3.fr 0; have g5 := h3.fr 1; have g6 := h3.fr 2; have K3 := Lib.hid L3; clear L3; have G3 := Lib.hid h3; clear h3))
        | (go_at_call 73; ((with_reducible refine (hcC _).mono ?_); rintro e W4 ⟨rfl, rfl⟩))
        | (go_at_call 74; ((with_reducible refine (cU _ K3.out G3.out.sz).mono ?_); rintro e W5 ⟨g', cap', rfl, L5, hg5, b5⟩; have h5 := G3.out.step b5; have hk5 := L5.str cap'; have q0 := h5.c0; clear L5; have G5 := Lib.hid h5; clear h5))
        | (go_at_call 72; ((with_reducible refine (cMM _).mono ?_); rintro e W6 ⟨rfl, b6⟩; (first | have h6 := G5.out.step (b6.mono (Nat.le_of_lt G5.out.sz)) | have h6 := G3.out.step (b6.mono (Nat.le_of_lt G3.out.sz))); have p1 := h6.e0; have p2 := h6.e1; have p3 := h6.e2; have p4 := h6.fr 0; have p5 := h6.fr 1; have p6 := h6.fr 2; have b7 := h6.bel; have G6 := Lib.hid h6; clear h6)))
      have y0 := World.cell?_setCell_same W6 ⟨w.heap.size + 1, 0, none⟩ (.bool r1) p1
      have z1 := (World.cell?_setCell_other W6 ⟨w.heap.size + 1, 0, none⟩ ⟨w.heap.size + 1, 1, none⟩ (.bool r1) (by simp)).trans p2
      have y1 := World.cell?_setCell_same (W6.setCell ⟨w.heap.size + 1, 0, none⟩ (.bool r1)) ⟨w.heap.size + 1, 1, none⟩ (.string r2) z1
      have z2 := (World.cell?_setCell_other (W6.setCell ⟨w.heap.size + 1, 0, none⟩ (.bool r1)) ⟨w.heap.size + 1, 1, none⟩ ⟨w.heap.size + 1, 2, none⟩ (.string r2) (by simp)).trans ((World.cell?_setCell_other W6 ⟨w.heap.size + 1, 0, none⟩ ⟨w.heap.size + 1, 2, none⟩ (.bool r1) (by simp)).trans p3)
      have y2 := World.cell?_setCell_same ((W6.setCell ⟨w.heap.size + 1, 0, none⟩ (.bool r1)).setCell ⟨w.heap.size + 1, 1, none⟩ (.string r2)) ⟨w.heap.size + 1, 2, none⟩ (.int .i64 r3) z2
      refine bodyPost_ret (v := .agg #[.bool r1, .string r2, .int .i64 r3]) (by simp [results, Tryd.results40, go_sem, y0, y1, y2]) rfl ?_
      exact ⟨rfl, ((b7.setCell (by simp) _).setCell (by simp) _).setCell (by simp) _⟩
end Go.Proofs.YtonjkoeacedaiaaDoor
namespace Go.Proofs.YtonjkoeacedaiaaDoor.G
open Go.RowKit Go.Proofs.YtonjkoeacedaiaaDoor Go.Proofs.YtonjkoeacedaiaaDoorW.PrintWords Go.Proofs.YtonjkoeacedaiaaDoorW.PrintMore
set_option linter.unusedVariables false
set_option linter.unusedSimpArgs false
attribute [local go_sem] max2_int max_two
set_option maxRecDepth 100000 in
theorem round_same (n : Bool) (d : ByteArray) (k : Int) (sc : Int) (s : Int) (w : World) (hsc : (if s < 0 then (0 : Int) else s) = sc) (hks : k ≤ sc) :
    Calls Tryd.prog 40 #[decV n d k, .int .i64 s] w fun e w' => e = .returned (decV n d k) ∧ Below w.heap.size w w' := by
  unfold decV
  have bX : Below w.heap.size w ((w.alloc (.cells #[.bool n, .string d, .int .i64 k] 23)).alloc (.cells #[.bool false, .string ⟨#[]⟩, .int .i64 0] 23)) := ((Below.refl _ _).alloc (Nat.le_refl _) _).alloc (by simp) _
  go_enter Tryd.func40, Tryd.ntmps40
  go_wp2
  go_returns
  exact ⟨rfl, ((Below.refl _ _).alloc (Nat.le_refl _) _).alloc (by simp) _⟩
def digB (d : ByteArray) : Bool := d.data.toList.all fun c => decide (48 ≤ c.toNat) && decide (c.toNat ≤ 57)
theorem digB_at {d : ByteArray} (h : digB d = true) : ∀ c ∈ d.data.toList, 48 ≤ c.toNat ∧ c.toNat ≤ 57 := fun c hc => by
  have := List.all_eq_true.1 h c hc
  simpa using this
def roundL (D : List UInt8) (k sc : Nat) : List UInt8 :=
  if cmpS (D.drop (D.length - (k - sc))) (53 :: List.replicate (k - sc - 1) 48) > 0 ∨ cmpS (D.drop (D.length - (k - sc))) (53 :: List.replicate (k - sc - 1) 48) = 0 ∧ ((D.getD (D.length - (k - sc) - 1) 0).toNat - 48) % 2 = 1
  then incL (D.take (D.length - (k - sc))) else D.take (D.length - (k - sc))
def rndOk (a1 : ByteArray) (a2 : Int) : Bool := decide (0 ≤ a2) && decide (a2 < a1.size) && decide (a1.size ≤ 1000) && digB a1
def dec_Dec_Round.f (a0 : Bool) (a1 : ByteArray) (a2 a3 : Int) : Option (Bool × ByteArray × Int) :=
  if rndOk a1 a2 = true then (if a2 ≤ (if a3 < 0 then (0 : Int) else a3) then some (a0, a1, a2)
    else U.dec_make0.f a0 ⟨(roundL a1.data.toList a2.toNat (if a3 < 0 then (0 : Int) else a3).toNat).toArray⟩ (if a3 < 0 then (0 : Int) else a3)) else none
theorem if_iff {α : Type} {p q : Prop} [Decidable p] [Decidable q] (h : p ↔ q) {a b : α} : (if p then a else b) = if q then a else b := by
  by_cases hp : p
  · rw [if_pos hp, if_pos (h.1 hp)]
  · rw [if_neg hp, if_neg (fun hq => hp (h.2 hq))]
theorem cmpS_or (a b : List UInt8) : cmpS a b = -1 ∨ cmpS a b = 0 ∨ cmpS a b = 1 := by
  unfold cmpS
  split
  · exact Or.inl rfl
  · split
    · exact Or.inr (Or.inl rfl)
    · exact Or.inr (Or.inr rfl)
theorem repeatL_one (c : UInt8) : ∀ m, Lib.repeatL [c] m = List.replicate m c
  | 0 => rfl
  | m + 1 => by
    show [c] ++ Lib.repeatL [c] m = _
    rw [repeatL_one c m, List.replicate_succ]
    rfl
theorem dec_Dec_Round.calls (a0 : Bool) (a1 : ByteArray) (a2 a3 : Int) (r1 : Bool) (r2 : ByteArray) (r3 : Int) (w : World) (h : dec_Dec_Round.f a0 a1 a2 a3 = some (r1, r2, r3)) :
    Calls Tryd.prog 40 #[.agg #[.bool a0, .string a1, .int .i64 a2], .int .i64 a3] w fun e w' => e = .returned (.agg #[.bool r1, .string r2, .int .i64 r3]) ∧ Below w.heap.size w w' := by
  unfold dec_Dec_Round.f at h
  by_cases hok : rndOk a1 a2 = true
  · rw [if_pos hok] at h
    obtain ⟨⟨⟨h0, h1⟩, h2⟩, hd⟩ : ((0 ≤ a2 ∧ a2 < a1.size) ∧ a1.size ≤ 1000) ∧ digB a1 = true := by simpa [rndOk] using hok
    obtain ⟨s, hs⟩ : ∃ s, (if a3 < 0 then (0 : Int) else a3) = s := ⟨_, rfl⟩
    have hs0 : 0 ≤ s := by rw [← hs]; split <;> omega
    rw [hs] at h
    by_cases hk : a2 ≤ s
    · rw [if_pos hk] at h
      obtain ⟨rfl, g⟩ := Prod.mk.inj (Option.some.inj h)
      obtain ⟨rfl, rfl⟩ := Prod.mk.inj g
      exact round_same a0 a1 a2 s a3 w hs hk
    · rw [if_neg hk] at h
      obtain ⟨k, rfl⟩ := Int.eq_ofNat_of_zero_le h0
      obtain ⟨sc, rfl⟩ := Int.eq_ofNat_of_zero_le hs0
      rw [Int.toNat_natCast, Int.toNat_natCast] at h
      have hD := digB_at hd
      have hl : a1.data.toList.length = a1.size := (Lib.size_eq a1).symm
      obtain ⟨ct, hct⟩ : ∃ ct, ct + 1 + (k - sc) = a1.size := ⟨a1.size - (k - sc) - 1, by omega⟩
      obtain ⟨x, hx⟩ : ∃ x, a1.data.toList[ct]? = some x := ⟨_, List.getElem?_eq_getElem (by omega)⟩
      have e1 : (a1.extract (ct + 1) a1.size).toList = a1.data.toList.drop (ct + 1) := by rw [Lib.toList_data, Lib.extract_to_end]
      have e2 : ((⟨#[53]⟩ : ByteArray) ++ ⟨(Lib.repeatL [48] (k - sc - 1)).toArray⟩).toList = 53 :: List.replicate (k - sc - 1) 48 := by
        rw [Lib.toList_data, ByteArray.data_append, Array.toList_append, repeatL_one]
        rfl
      have hcut : a1.data.toList.length - (k - sc) = ct + 1 := by omega
      refine round_more a0 a1 k sc ct a3 w hs (by omega) (by omega) hct hD h2 x hx (cmpS (a1.data.toList.drop (ct + 1)) (53 :: List.replicate (k - sc - 1) 48)) (cmpS_or _ _) ((((x.toNat : Int) - 48) % 2 == 1)) ?_ rfl r1 r2 r3 ?_
      · intro W
        have := cmp_str (a1.extract (ct + 1) a1.size) ((⟨#[53]⟩ : ByteArray) ++ ⟨(Lib.repeatL [48] (k - sc - 1)).toArray⟩) W
        rw [e1, e2] at this
        exact this
      · unfold roundL at h
        rw [hcut, show ct + 1 - 1 = ct by omega, List.getD_eq_getElem?_getD, hx, Option.getD_some] at h
        have hxr := hD x (List.mem_of_getElem? hx)
        have e3 : ((((x.toNat : Int) - 48) % 2 == 1) = true) = ((x.toNat - 48) % 2 = 1) := by
          rw [beq_iff_eq, eq_iff_iff]; omega
        rw [if_iff (or_congr Iff.rfl (and_congr Iff.rfl (iff_of_eq e3)))]
        exact h
  · rw [if_neg hok] at h
    exact absurd h (by simp)
end Go.Proofs.YtonjkoeacedaiaaDoor.G
namespace Go.Proofs.YtonjkoeacedaiaaDoor
open Go.RowKit Go.Proofs.YtonjkoeacedaiaaDoor.M
set_option linter.unusedVariables false
set_option linter.unusedSimpArgs false
theorem below_grown {w W W1 : World} {B b : Nat} (h : Below B w W) (hg : W.grownBy W1 (some b)) (hB : B ≤ b) (hw : B ≤ w.heap.size) : Below B w W1 :=
  ⟨hg.os.trans h.os, hg.tape.trans h.tape, hg.output.trans h.output, Nat.le_trans h.size hg.size, fun j hj => (hg.block j (Nat.lt_of_lt_of_le hj (Nat.le_trans hw h.size)) (fun e => by cases e; omega)).trans (h.block j hj)⟩
set_option maxRecDepth 100000 in
theorem default_any (w : World) : Calls Tryd.prog 27 #[] w fun e w' => e = .returned (optV 1 0 3 false false) ∧ Below w.heap.size w w' := by
  unfold optV
  have b1 := (Below.refl w.heap.size w).alloc (Nat.le_refl _) (.cells #[.int .i64 1, .int .i64 0, .int .i64 3, .bool false, .bool false] 36)
  go_enter Tryd.func27, Tryd.ntmps27
  go_wp2
  go_returns
  exact ⟨rfl, (Below.refl w.heap.size w).alloc (Nat.le_refl _) _⟩
def d5 : ByteArray := ⟨#[49, 50, 51, 52, 53]⟩
structure Hd (w : World) (cnt : Int) (W : World) : Prop where
  mks : Mks w.heap.size cnt W
  blk : W.heap[w.heap.size + 1]? = some (.cells #[.bool false, .string d5, .int .i64 1] 23 (0, 0))
  bel : Below w.heap.size w W
theorem Hd.step {w W W1 : World} {cnt : Int} (h : Hd w cnt W) (c : Below W.heap.size W W1) : Hd w cnt W1 := ⟨h.mks.step c, below_blockOf c (Nat.le_refl _) h.blk, below_on h.bel c h.bel.size⟩
theorem Hd.drew {w W : World} {cnt : Int} (h : Hd w cnt W) : Hd w cnt W.drew := h.step ((Below.refl _ _).drew)
theorem Hd.of {w W W1 : World} {cnt c1 : Int} (h : Hd w cnt W) (hm : Mks w.heap.size c1 W1) (hg : W.grownBy W1 (some w.heap.size)) : Hd w c1 W1 :=
  ⟨hm, (hg.block _ (Array.getElem?_eq_some_iff.1 h.blk).1 (fun e => by have := Option.some.inj e; omega)).trans h.blk, below_grown h.bel hg (Nat.le_refl _) (Nat.le_refl _)⟩
theorem Hd.get {w W : World} {cnt : Int} (h : Hd w cnt W) : W.cell? ⟨w.heap.size + 1, 0, none⟩ = some (.bool false) ∧ W.cell? ⟨w.heap.size + 1, 1, none⟩ = some (.string d5) ∧ W.cell? ⟨w.heap.size + 1, 2, none⟩ = some (.int .i64 1) :=
  ⟨(Lib.cell_of_heap h.blk 0).trans rfl, (Lib.cell_of_heap h.blk 1).trans rfl, (Lib.cell_of_heap h.blk 2).trans rfl⟩
theorem Hd.lt {w W : World} {cnt : Int} (h : Hd w cnt W) : w.heap.size < W.heap.size := by
  have := (Array.getElem?_eq_some_iff.1 h.blk).1
  omega
theorem shape5 (W : World) : Calls Tryd.prog 29 #[optV 1 0 3 false false, decV false d5 1] W fun e w' => e = .returned (decV false (shD 1 0 d5 1) (shK 0 d5 1)) ∧ Below W.heap.size W w' :=
  shape_any 1 0 3 false false false d5 1 d5 1 (fun W => G.dec_Dec_Round.calls false d5 1 3 false d5 1 W (by kernel_rfl)) (by decide) (by decide) (by omega) (by omega) W
theorem head_en {w W : World} (h : Hd w 0 W) : Calls Tryd.prog 33 #[.pointer (some ⟨w.heap.size, 0, none⟩), .string ⟨#[101, 110]⟩, decV false d5 1, optV 1 0 3 false false] W fun e w' => e = .returned (.string ⟨#[49, 44, 50, 51, 52, 46, 53]⟩) ∧ Hd w 1 w' :=
  (format_any w.heap.size 0 (by omega) (by omega) ⟨#[101, 110]⟩ 1 0 3 false false false d5 1 (shD 1 0 d5 1) (shK 0 d5 1) (of_decide_eq_true (by kernel_rfl)) (of_decide_eq_true (by kernel_rfl)) shape5 W h.mks h.lt).mono fun e w' ⟨he, hm, hg⟩ => ⟨by rw [he]; exact congrArg (fun x => Ending.returned (.string x)) (by kernel_rfl), h.of hm hg⟩
theorem head_de {w W : World} (h : Hd w 1 W) : Calls Tryd.prog 33 #[.pointer (some ⟨w.heap.size, 0, none⟩), .string ⟨#[100, 101]⟩, decV false d5 1, optV 1 0 3 false false] W fun e w' => e = .returned (.string ⟨#[49, 46, 50, 51, 52, 44, 53]⟩) ∧ Hd w 2 w' :=
  (format_any w.heap.size 1 (by omega) (by omega) ⟨#[100, 101]⟩ 1 0 3 false false false d5 1 (shD 1 0 d5 1) (shK 0 d5 1) (of_decide_eq_true (by kernel_rfl)) (of_decide_eq_true (by kernel_rfl)) shape5 W h.mks h.lt).mono fun e w' ⟨he, hm, hg⟩ => ⟨by rw [he]; exact congrArg (fun x => Ending.returned (.string x)) (by kernel_rfl), h.of hm hg⟩
end Go.Proofs.YtonjkoeacedaiaaDoor
