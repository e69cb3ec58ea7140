/- DecCompares: whatever two numbers come in, the call returns true and leaves them as they were (Text 4 of 4: what the law's proof rests on, joined; walks printed by the kit's print over given contracts, walks and plain laws by hand.) -/
import Derived.Test.YtonjkoeacedaiaaDoorCmp0
import Derived.Test.YtonjkoeacedaiaaDoorCmp1
import Derived.Test.YtonjkoeacedaiaaDoorCmp2
namespace Go.Proofs.YtonjkoeacedaiaaDoor
open Go.RowKit Go.Proofs.YtonjkoeacedaiaaDoorW.PrintWords Go.Proofs.YtonjkoeacedaiaaDoorW.PrintLast
set_option linter.unusedVariables false
set_option linter.unusedSimpArgs false
def cmp_end.T : Bool × List (List Nat × List Nat) := (true, [([], []), ([], []), ([0, 1], [0, 1]), ([], []), ([2, 3], [2, 3]), ([4, 2], [4]), ([5], [5]), ([5], [5]), ([6, 7, 5, 5], [5, 6, 7]), ([5], [5]), ([9, 5], [5, 9]), ([8, 10, 5], [5, 8, 10]), ([5, 11], [5, 11]), ([12, 8], [12]), ([13], [13]), ([14, 13, 13], [13, 14]), ([13], [13]), ([13], [13]), ([16, 17, 13], [13, 16, 17]), ([15, 18, 13], [13, 15, 18]), ([13, 19], [13, 19]), ([20, 15, 0, 1, 2, 3, 4, 5, 6, 7, 8, 9, 10, 11, 12, 13, 14, 15, 16, 17, 18, 19, 20], [20])])
def cmp_end.B : List Nat := [0, 0, 3, 0, 15, 31, 63, 63, 255, 63, 575, 2047, 4095, 8191, 16383, 32767, 16383, 16383, 212991, 524287, 1048575, 2097151]
theorem cmp_end.tab : rtab .any (opsOf Tryd.f13 17) = cmp_end.T := by kernel_rfl
theorem cmp_end.bits : waitsOk cmp_end.T.2 cmp_end.B = true := by kernel_rfl
set_option maxRecDepth 100000 in
set_option maxHeartbeats 4000000 in
theorem cmp_end (w : World) (n1 n2 : Bool) (d1 d2 : ByteArray) (k1 k2 c : Int) (z : Bool) (X Z : Array Value) (gx : Nat) (hZ : fixC (fun _ => 0) = Z) (hneg : IntKind.i64.wrap (-c) = -c) (cM : ∀ W, Two w n1 n2 d1 d2 k1 k2 W → Calls Tryd.prog 48 #[.agg #[.bool n1, .string d1, .int .i64 k1], .agg #[.bool n2, .string d2, .int .i64 k2]] W fun e w' => e = .returned (.int .i64 c) ∧ Two w n1 n2 d1 d2 k1 k2 w' ∧ Below W.heap.size W w') (cN : ∀ W, Two w n1 n2 d1 d2 k1 k2 W → Calls Tryd.prog 48 #[.agg #[.bool n2, .string d2, .int .i64 k2], .agg #[.bool n1, .string d1, .int .i64 k1]] W fun e w' => e = .returned (.int .i64 (-c)) ∧ Two w n1 n2 d1 d2 k1 k2 w' ∧ Below W.heap.size W w') (cZ : ∀ W, Two w n1 n2 d1 d2 k1 k2 W → Calls Tryd.prog 32 #[.agg #[.bool n1, .string d1, .int .i64 k1]] W fun e w' => e = .returned (.bool z) ∧ Two w n1 n2 d1 d2 k1 k2 w' ∧ Below W.heap.size W w') (hE : ∀ W, (Op.equal 69 (.agg X) (.agg Z)).run Tryd.prog W = .ok z W) (a0 : Act) (s2 : a0.tmps[2]? = some (.pointer (some ⟨w.heap.size, 0, none⟩))) (s3 : a0.tmps[3]? = some (.pointer (some ⟨w.heap.size + 1, 0, none⟩))) (s5 : a0.tmps[5]? = some (.pointer (some ⟨gx, 0, none⟩))) (s10 : a0.tmps[10]? = some (.int .i64 c)) (hsz : a0.tmps.size = Tryd.f13.ntmps) (W : World) (hI : Two w n1 n2 d1 d2 k1 k2 W.drew ∧ Fx gx X W.drew) (Q : Exit → Act → World → Prop) (hend : ∀ (a9 : Act) w', Two w n1 n2 d1 d2 k1 k2 w' ∧ Fx gx X w' → a9.defers = a0.defers → a9.tmps[4]? = some (.bool true) → Q .normal a9 w') :
    (Code.region 17 #[{ dst := some 54, op := Op.load 23 (Operand.tmp 2), type := 23, pos := "law.go:158", after := #[], guard := none }, { dst := some 55, op := Op.load 23 (Operand.tmp 3), type := 23, pos := "law.go:158", after := #[], guard := none }, { dst := some 56, op := Op.call { callee := Callee.value (Operand.func 48), args := #[Operand.tmp 54, Operand.tmp 55], argTypes := #[23, 23] }, type := 3, pos := "law.go:158", after := #[{ on := 0, ground := Ground.data }, { on := 1, ground := Ground.data }], guard := none }, { dst := some 57, op := Op.move (Operand.tmp 10), type := 3, pos := "law.go:158", after := #[], guard := none }, { dst := some 58, op := Op.binOp BinOp.eql 3 (Operand.tmp 56) (Operand.tmp 57) 3, type := 4, pos := "law.go:158", after := #[{ on := 2, ground := Ground.data }, { on := 3, ground := Ground.data }], guard := none }, { dst := some 59, op := Op.move (Operand.tmp 58), type := 4, pos := "law.go:158", after := #[{ on := 4, ground := Ground.data }, { on := 2, ground := Ground.chain }], guard := none }, { dst := some 60, op := Op.load 23 (Operand.tmp 3), type := 23, pos := "law.go:158", after := #[{ on := 5, ground := Ground.guard }], guard := some (5, true) }, { dst := some 61, op := Op.load 23 (Operand.tmp 2), type := 23, pos := "law.go:158", after := #[{ on := 5, ground := Ground.guard }], guard := some (5, true) }, { dst := some 62, op := Op.call { callee := Callee.value (Operand.func 48), args := #[Operand.tmp 60, Operand.tmp 61], argTypes := #[23, 23] }, type := 3, pos := "law.go:158", after := #[{ on := 6, ground := Ground.data }, { on := 7, ground := Ground.data }, { on := 5, ground := Ground.chain }, { on := 5, ground := Ground.guard }], guard := some (5, true) }, { dst := some 63, op := Op.move (Operand.tmp 10), type := 3, pos := "law.go:158", after := #[{ on := 5, ground := Ground.guard }], guard := some (5, true) }, { dst := some 64, op := Op.unOp UnOp.neg 3 (Operand.tmp 63), type := 3, pos := "law.go:158", after := #[{ on := 9, ground := Ground.data }, { on := 5, ground := Ground.guard }], guard := some (5, true) }, { dst := some 65, op := Op.binOp BinOp.eql 3 (Operand.tmp 62) (Operand.tmp 64) 3, type := 4, pos := "law.go:158", after := #[{ on := 8, ground := Ground.data }, { on := 10, ground := Ground.data }, { on := 5, ground := Ground.guard }], guard := some (5, true) }, { dst := some 66, op := Op.pick (Operand.tmp 59) (Operand.tmp 65) (Operand.const (Value.bool false)), type := 4, pos := "law.go:158", after := #[{ on := 5, ground := Ground.data }, { on := 11, ground := Ground.data }], guard := none }, { dst := some 67, op := Op.move (Operand.tmp 66), type := 4, pos := "law.go:158", after := #[{ on := 12, ground := Ground.data }, { on := 8, ground := Ground.chain }], guard := none }, { dst := some 68, op := Op.load 23 (Operand.tmp 2), type := 23, pos := "law.go:158", after := #[{ on := 13, ground := Ground.guard }], guard := some (13, true) }, { dst := some 69, op := Op.call { callee := Callee.value (Operand.func 32), args := #[Operand.tmp 68], argTypes := #[23] }, type := 4, pos := "law.go:158", after := #[{ on := 14, ground := Ground.data }, { on := 13, ground := Ground.chain }, { on := 13, ground := Ground.guard }], guard := some (13, true) }, { dst := some 70, op := Op.load 69 (Operand.tmp 5), type := 69, pos := "law.go:158", after := #[{ on := 13, ground := Ground.guard }], guard := some (13, true) }, { dst := some 71, op := Op.build 69 #[], type := 69, pos := "law.go:158", after := #[{ on := 13, ground := Ground.guard }], guard := some (13, true) }, { dst := some 72, op := Op.binOp BinOp.eql 69 (Operand.tmp 70) (Operand.tmp 71) 69, type := 4, pos := "law.go:158", after := #[{ on := 16, ground := Ground.data }, { on := 17, ground := Ground.data }, { on := 13, ground := Ground.guard }], guard := some (13, true) }, { dst := some 73, op := Op.binOp BinOp.eql 4 (Operand.tmp 69) (Operand.tmp 72) 4, type := 4, pos := "law.go:158", after := #[{ on := 15, ground := Ground.data }, { on := 18, ground := Ground.data }, { on := 13, ground := Ground.guard }], guard := some (13, true) }, { dst := some 74, op := Op.pick (Operand.tmp 67) (Operand.tmp 73) (Operand.const (Value.bool false)), type := 4, pos := "law.go:158", after := #[{ on := 13, ground := Ground.data }, { on := 19, ground := Ground.data }], guard := none }, { dst := some 4, op := Op.assign (Operand.tmp 74), type := 4, pos := "law.go:158", after := #[{ on := 20, ground := Ground.data }, { on := 15, ground := Ground.chain }, { on := 0, ground := Ground.phase }, { on := 1, ground := Ground.phase }, { on := 2, ground := Ground.phase }, { on := 3, ground := Ground.phase }, { on := 4, ground := Ground.phase }, { on := 5, ground := Ground.phase }, { on := 6, ground := Ground.phase }, { on := 7, ground := Ground.phase }, { on := 8, ground := Ground.phase }, { on := 9, ground := Ground.phase }, { on := 10, ground := Ground.phase }, { on := 11, ground := Ground.phase }, { on := 12, ground := Ground.phase }, { on := 13, ground := Ground.phase }, { on := 14, ground := Ground.phase }, { on := 15, ground := Ground.phase }, { on := 16, ground := Ground.phase }, { on := 17, ground := Ground.phase }, { on := 18, ground := Ground.phase }, { on := 19, ground := Ground.phase }, { on := 20, ground := Ground.phase }], guard := none }] true).wp Tryd.prog Q a0 W := by
  refine start_ (n := 22) (S := fun w' => True) (ds := []) #[false, false, false, false, false, false, false, false, false, false, false, false, false, false, false, false, false, false, false, false, false, false] (by kernel_rfl) rfl rfl trivial (fun hHeld => ?_)
  refine with_tabW cmp_end.tab cmp_end.bits (fun HT_ HW_ => ?_)
  refine inv_at [0, 1, 2, 3, 4, 5, 6, 7, 8, 9, 10, 11, 12, 13, 14, 15, 16, 17, 18, 19, 20, 21] (fun a0_ b a w' => a = putSel a0_ b [(0, 54, .agg #[.bool n1, .string d1, .int .i64 k1]), (1, 55, .agg #[.bool n2, .string d2, .int .i64 k2]), (2, 56, .int .i64 c), (3, 57, .int .i64 c), (4, 58, .bool true), (5, 59, .bool true), (6, 60, .agg #[.bool n2, .string d2, .int .i64 k2]), (7, 61, .agg #[.bool n1, .string d1, .int .i64 k1]), (8, 62, .int .i64 (-c)), (9, 63, .int .i64 c), (10, 64, .int .i64 (-c)), (11, 65, .bool true), (12, 66, .bool true), (13, 67, .bool true), (14, 68, .agg #[.bool n1, .string d1, .int .i64 k1]), (15, 69, .bool z), (16, 70, .agg X), (17, 71, .agg Z), (18, 72, .bool z), (19, 73, .bool true), (20, 74, .bool true), (21, 4, .bool true)] ∧ (Two w n1 n2 d1 d2 k1 k2 w' ∧ Fx gx X w')) HT_.out HW_.out (by kernel_rfl) (by kernel_rfl) ?_ ?_ ?_
  · exact ⟨(by simp only [putSel, Bool.false_eq_true, if_false]), hI⟩
  · clear hI hend hHeld
    refine steps_cons ?_ ?_
    · rintro b a w' ⟨ha, hI⟩ hb_ hon hoff
      refine ⟨_, rfl, fun K hK => ?_⟩
      have e2 : a.tmps[2]? = some (.pointer (some ⟨w.heap.size, 0, none⟩)) := by rw [ha]; exact (putSel_off rfl).trans s2
      replace ha := Aside0.mk ha
      obtain ⟨p0, p1, p2, p3, p4, p5⟩ := hI.1.get
      refine value_ (w1 := w') (v := .agg #[.bool n1, .string d1, .int .i64 k1]) (by rfl) rfl ?_ ?_
      · go_simp; try rfl
      exact hK.out _ _ ⟨(by rw [ha.out]; exact putSel_upk 0 hb_ rfl rfl rfl), hI⟩
    refine steps_cons ?_ ?_
    · rintro b a w' ⟨ha, hI⟩ hb_ hon hoff
      refine ⟨_, rfl, fun K hK => ?_⟩
      have e3 : a.tmps[3]? = some (.pointer (some ⟨w.heap.size + 1, 0, none⟩)) := by rw [ha]; exact (putSel_off rfl).trans s3
      replace ha := Aside0.mk ha
      obtain ⟨p0, p1, p2, p3, p4, p5⟩ := hI.1.get
      refine value_ (w1 := w') (v := .agg #[.bool n2, .string d2, .int .i64 k2]) (by rfl) rfl ?_ ?_
      · go_simp; try rfl
      exact hK.out _ _ ⟨(by rw [ha.out]; exact putSel_upk 1 hb_ rfl rfl rfl), hI⟩
    refine steps_cons ?_ ?_
    · rintro b a w' ⟨ha, hI⟩ hb_ hon hoff
      refine ⟨_, rfl, fun K hK => ?_⟩
      have e54 : a.tmps[54]? = some (.agg #[.bool n1, .string d1, .int .i64 k1]) := by rw [ha]; exact putSel_on (e := (0, 54, .agg #[.bool n1, .string d1, .int .i64 k1])) 0 rfl rfl (hon 0 (by kernel_rfl)) (by rw [hsz]; rfl)
      have e55 : a.tmps[55]? = some (.agg #[.bool n2, .string d2, .int .i64 k2]) := by rw [ha]; exact putSel_on (e := (1, 55, .agg #[.bool n2, .string d2, .int .i64 k2])) 1 rfl rfl (hon 1 (by kernel_rfl)) (by rw [hsz]; rfl)
      replace ha := Aside0.mk ha
      obtain ⟨p0, p1, p2, p3, p4, p5⟩ := hI.1.get
      refine goes_ Tryd.func48 (by kernel_rfl) rfl #[.agg #[.bool n1, .string d1, .int .i64 k1], .agg #[.bool n2, .string d2, .int .i64 k2]] (by rfl) rfl rfl (by first | (simp only [List.map_toArray, List.map_cons, List.map_nil, Act.eval, Array.getD_eq_getD_getElem?, Option.getD_some, e54, e55]; done) | (simp only [List.map_toArray, List.map_cons, List.map_nil, Act.eval, Array.getD_eq_getD_getElem?, Option.getD_some, e54, e55]; rfl)) ?_
      refine (cM _ hI.1).mono ?_
      rintro e w1 ⟨rfl, h1, b1⟩; have hI1 : Two w n1 n2 d1 d2 k1 k2 w1 ∧ Fx gx X w1 := ⟨h1, hI.2.step b1⟩
      exact ⟨_, rfl, hK.out _ _ ⟨(by rw [ha.out]; exact putSel_upk 2 hb_ rfl rfl rfl), hI1⟩⟩
    refine steps_cons ?_ ?_
    · rintro b a w' ⟨ha, hI⟩ hb_ hon hoff
      refine ⟨_, rfl, fun K hK => ?_⟩
      have e10 : a.tmps[10]? = some (.int .i64 c) := by rw [ha]; exact (putSel_off rfl).trans s10
      replace ha := Aside0.mk ha
      obtain ⟨p0, p1, p2, p3, p4, p5⟩ := hI.1.get
      refine value_ (w1 := w') (v := .int .i64 c) (by rfl) rfl ?_ ?_
      · go_simp; try rfl
      exact hK.out _ _ ⟨(by rw [ha.out]; exact putSel_upk 3 hb_ rfl rfl rfl), hI⟩
    refine steps_cons ?_ ?_
    · rintro b a w' ⟨ha, hI⟩ hb_ hon hoff
      refine ⟨_, rfl, fun K hK => ?_⟩
      have e56 : a.tmps[56]? = some (.int .i64 c) := by rw [ha]; exact putSel_on (e := (2, 56, .int .i64 c)) 2 rfl rfl (hon 2 (by kernel_rfl)) (by rw [hsz]; rfl)
      have e57 : a.tmps[57]? = some (.int .i64 c) := by rw [ha]; exact putSel_on (e := (3, 57, .int .i64 c)) 3 rfl rfl (hon 3 (by kernel_rfl)) (by rw [hsz]; rfl)
      replace ha := Aside0.mk ha
      obtain ⟨p0, p1, p2, p3, p4, p5⟩ := hI.1.get
      refine value_ (w1 := w') (v := .bool true) (by rfl) rfl ?_ ?_
      · go_simp; try rfl
      exact hK.out _ _ ⟨(by rw [ha.out]; exact putSel_upk 4 hb_ rfl rfl rfl), hI⟩
    refine steps_cons ?_ ?_
    · rintro b a w' ⟨ha, hI⟩ hb_ hon hoff
      refine ⟨_, rfl, fun K hK => ?_⟩
      have e58 : a.tmps[58]? = some (.bool true) := by rw [ha]; exact putSel_on (e := (4, 58, .bool true)) 4 rfl rfl (hon 4 (by kernel_rfl)) (by rw [hsz]; rfl)
      replace ha := Aside0.mk ha
      obtain ⟨p0, p1, p2, p3, p4, p5⟩ := hI.1.get
      refine value_ (w1 := w') (v := .bool true) (by rfl) rfl ?_ ?_
      · go_simp; try rfl
      exact hK.out _ _ ⟨(by rw [ha.out]; exact putSel_upk 5 hb_ rfl rfl rfl), hI⟩
    refine steps_cons ?_ ?_
    · rintro b a w' ⟨ha, hI⟩ hb_ hon hoff
      refine ⟨_, rfl, fun K hK => ?_⟩
      have e3 : a.tmps[3]? = some (.pointer (some ⟨w.heap.size + 1, 0, none⟩)) := by rw [ha]; exact (putSel_off rfl).trans s3
      have e59 : a.tmps[59]? = some (.bool true) := by rw [ha]; exact putSel_on (e := (5, 59, .bool true)) 5 rfl rfl (hon 5 (by kernel_rfl)) (by rw [hsz]; rfl)
      replace ha := Aside0.mk ha
      obtain ⟨p0, p1, p2, p3, p4, p5⟩ := hI.1.get
      refine value_ (w1 := w') (v := .agg #[.bool n2, .string d2, .int .i64 k2]) (wanted_on rfl rfl rfl e59) rfl ?_ ?_
      · go_simp; try rfl
      exact hK.out _ _ ⟨(by rw [ha.out]; exact putSel_upk 6 hb_ rfl rfl rfl), hI⟩
    refine steps_cons ?_ ?_
    · rintro b a w' ⟨ha, hI⟩ hb_ hon hoff
      refine ⟨_, rfl, fun K hK => ?_⟩
      have e2 : a.tmps[2]? = some (.pointer (some ⟨w.heap.size, 0, none⟩)) := by rw [ha]; exact (putSel_off rfl).trans s2
      have e59 : a.tmps[59]? = some (.bool true) := by rw [ha]; exact putSel_on (e := (5, 59, .bool true)) 5 rfl rfl (hon 5 (by kernel_rfl)) (by rw [hsz]; rfl)
      replace ha := Aside0.mk ha
      obtain ⟨p0, p1, p2, p3, p4, p5⟩ := hI.1.get
      refine value_ (w1 := w') (v := .agg #[.bool n1, .string d1, .int .i64 k1]) (wanted_on rfl rfl rfl e59) rfl ?_ ?_
      · go_simp; try rfl
      exact hK.out _ _ ⟨(by rw [ha.out]; exact putSel_upk 7 hb_ rfl rfl rfl), hI⟩
    refine steps_cons ?_ ?_
    · rintro b a w' ⟨ha, hI⟩ hb_ hon hoff
      refine ⟨_, rfl, fun K hK => ?_⟩
      have e60 : a.tmps[60]? = some (.agg #[.bool n2, .string d2, .int .i64 k2]) := by rw [ha]; exact putSel_on (e := (6, 60, .agg #[.bool n2, .string d2, .int .i64 k2])) 6 rfl rfl (hon 6 (by kernel_rfl)) (by rw [hsz]; rfl)
      have e61 : a.tmps[61]? = some (.agg #[.bool n1, .string d1, .int .i64 k1]) := by rw [ha]; exact putSel_on (e := (7, 61, .agg #[.bool n1, .string d1, .int .i64 k1])) 7 rfl rfl (hon 7 (by kernel_rfl)) (by rw [hsz]; rfl)
      have e59 : a.tmps[59]? = some (.bool true) := by rw [ha]; exact putSel_on (e := (5, 59, .bool true)) 5 rfl rfl (hon 5 (by kernel_rfl)) (by rw [hsz]; rfl)
      replace ha := Aside0.mk ha
      obtain ⟨p0, p1, p2, p3, p4, p5⟩ := hI.1.get
      refine goes_ Tryd.func48 (by kernel_rfl) rfl #[.agg #[.bool n2, .string d2, .int .i64 k2], .agg #[.bool n1, .string d1, .int .i64 k1]] (wanted_on rfl rfl rfl e59) rfl rfl (by first | (simp only [List.map_toArray, List.map_cons, List.map_nil, Act.eval, Array.getD_eq_getD_getElem?, Option.getD_some, e60, e61]; done) | (simp only [List.map_toArray, List.map_cons, List.map_nil, Act.eval, Array.getD_eq_getD_getElem?, Option.getD_some, e60, e61]; rfl)) ?_
      refine (cN _ hI.1).mono ?_
      rintro e w1 ⟨rfl, h1, b1⟩; have hI1 : Two w n1 n2 d1 d2 k1 k2 w1 ∧ Fx gx X w1 := ⟨h1, hI.2.step b1⟩
      exact ⟨_, rfl, hK.out _ _ ⟨(by rw [ha.out]; exact putSel_upk 8 hb_ rfl rfl rfl), hI1⟩⟩
    refine steps_cons ?_ ?_
    · rintro b a w' ⟨ha, hI⟩ hb_ hon hoff
      refine ⟨_, rfl, fun K hK => ?_⟩
      have e10 : a.tmps[10]? = some (.int .i64 c) := by rw [ha]; exact (putSel_off rfl).trans s10
      have e59 : a.tmps[59]? = some (.bool true) := by rw [ha]; exact putSel_on (e := (5, 59, .bool true)) 5 rfl rfl (hon 5 (by kernel_rfl)) (by rw [hsz]; rfl)
      replace ha := Aside0.mk ha
      obtain ⟨p0, p1, p2, p3, p4, p5⟩ := hI.1.get
      refine value_ (w1 := w') (v := .int .i64 c) (wanted_on rfl rfl rfl e59) rfl ?_ ?_
      · go_simp; try rfl
      exact hK.out _ _ ⟨(by rw [ha.out]; exact putSel_upk 9 hb_ rfl rfl rfl), hI⟩
    refine steps_cons ?_ ?_
    · rintro b a w' ⟨ha, hI⟩ hb_ hon hoff
      refine ⟨_, rfl, fun K hK => ?_⟩
      have e63 : a.tmps[63]? = some (.int .i64 c) := by rw [ha]; exact putSel_on (e := (9, 63, .int .i64 c)) 9 rfl rfl (hon 9 (by kernel_rfl)) (by rw [hsz]; rfl)
      have e59 : a.tmps[59]? = some (.bool true) := by rw [ha]; exact putSel_on (e := (5, 59, .bool true)) 5 rfl rfl (hon 5 (by kernel_rfl)) (by rw [hsz]; rfl)
      replace ha := Aside0.mk ha
      obtain ⟨p0, p1, p2, p3, p4, p5⟩ := hI.1.get
      refine value_ (w1 := w') (v := .int .i64 (-c)) (wanted_on rfl rfl rfl e59) rfl ?_ ?_
      · go_simp; try rfl
      exact hK.out _ _ ⟨(by rw [ha.out]; exact putSel_upk 10 hb_ rfl rfl rfl), hI⟩
    refine steps_cons ?_ ?_
    · rintro b a w' ⟨ha, hI⟩ hb_ hon hoff
      refine ⟨_, rfl, fun K hK => ?_⟩
      have e62 : a.tmps[62]? = some (.int .i64 (-c)) := by rw [ha]; exact putSel_on (e := (8, 62, .int .i64 (-c))) 8 rfl rfl (hon 8 (by kernel_rfl)) (by rw [hsz]; rfl)
      have e64 : a.tmps[64]? = some (.int .i64 (-c)) := by rw [ha]; exact putSel_on (e := (10, 64, .int .i64 (-c))) 10 rfl rfl (hon 10 (by kernel_rfl)) (by rw [hsz]; rfl)
      have e59 : a.tmps[59]? = some (.bool true) := by rw [ha]; exact putSel_on (e := (5, 59, .bool true)) 5 rfl rfl (hon 5 (by kernel_rfl)) (by rw [hsz]; rfl)
      replace ha := Aside0.mk ha
      obtain ⟨p0, p1, p2, p3, p4, p5⟩ := hI.1.get
      refine value_ (w1 := w') (v := .bool true) (wanted_on rfl rfl rfl e59) rfl ?_ ?_
      · go_simp; try rfl
      exact hK.out _ _ ⟨(by rw [ha.out]; exact putSel_upk 11 hb_ rfl rfl rfl), hI⟩
    refine steps_cons ?_ ?_
    · rintro b a w' ⟨ha, hI⟩ hb_ hon hoff
      refine ⟨_, rfl, fun K hK => ?_⟩
      have e59 : a.tmps[59]? = some (.bool true) := by rw [ha]; exact putSel_on (e := (5, 59, .bool true)) 5 rfl rfl (hon 5 (by kernel_rfl)) (by rw [hsz]; rfl)
      have e65 : a.tmps[65]? = some (.bool true) := by rw [ha]; exact putSel_on (e := (11, 65, .bool true)) 11 rfl rfl (hon 11 (by kernel_rfl)) (by rw [hsz]; rfl)
      replace ha := Aside0.mk ha
      obtain ⟨p0, p1, p2, p3, p4, p5⟩ := hI.1.get
      refine value_ (w1 := w') (v := .bool true) (by rfl) rfl ?_ ?_
      · go_simp; try rfl
      exact hK.out _ _ ⟨(by rw [ha.out]; exact putSel_upk 12 hb_ rfl rfl rfl), hI⟩
    refine steps_cons ?_ ?_
    · rintro b a w' ⟨ha, hI⟩ hb_ hon hoff
      refine ⟨_, rfl, fun K hK => ?_⟩
      have e66 : a.tmps[66]? = some (.bool true) := by rw [ha]; exact putSel_on (e := (12, 66, .bool true)) 12 rfl rfl (hon 12 (by kernel_rfl)) (by rw [hsz]; rfl)
      replace ha := Aside0.mk ha
      obtain ⟨p0, p1, p2, p3, p4, p5⟩ := hI.1.get
      refine value_ (w1 := w') (v := .bool true) (by rfl) rfl ?_ ?_
      · go_simp; try rfl
      exact hK.out _ _ ⟨(by rw [ha.out]; exact putSel_upk 13 hb_ rfl rfl rfl), hI⟩
    refine steps_cons ?_ ?_
    · rintro b a w' ⟨ha, hI⟩ hb_ hon hoff
      refine ⟨_, rfl, fun K hK => ?_⟩
      have e2 : a.tmps[2]? = some (.pointer (some ⟨w.heap.size, 0, none⟩)) := by rw [ha]; exact (putSel_off rfl).trans s2
      have e67 : a.tmps[67]? = some (.bool true) := by rw [ha]; exact putSel_on (e := (13, 67, .bool true)) 13 rfl rfl (hon 13 (by kernel_rfl)) (by rw [hsz]; rfl)
      replace ha := Aside0.mk ha
      obtain ⟨p0, p1, p2, p3, p4, p5⟩ := hI.1.get
      refine value_ (w1 := w') (v := .agg #[.bool n1, .string d1, .int .i64 k1]) (wanted_on rfl rfl rfl e67) rfl ?_ ?_
      · go_simp; try rfl
      exact hK.out _ _ ⟨(by rw [ha.out]; exact putSel_upk 14 hb_ rfl rfl rfl), hI⟩
    refine steps_cons ?_ ?_
    · rintro b a w' ⟨ha, hI⟩ hb_ hon hoff
      refine ⟨_, rfl, fun K hK => ?_⟩
      have e68 : a.tmps[68]? = some (.agg #[.bool n1, .string d1, .int .i64 k1]) := by rw [ha]; exact putSel_on (e := (14, 68, .agg #[.bool n1, .string d1, .int .i64 k1])) 14 rfl rfl (hon 14 (by kernel_rfl)) (by rw [hsz]; rfl)
      have e67 : a.tmps[67]? = some (.bool true) := by rw [ha]; exact putSel_on (e := (13, 67, .bool true)) 13 rfl rfl (hon 13 (by kernel_rfl)) (by rw [hsz]; rfl)
      replace ha := Aside0.mk ha
      obtain ⟨p0, p1, p2, p3, p4, p5⟩ := hI.1.get
      refine goes_ Tryd.func32 (by kernel_rfl) rfl #[.agg #[.bool n1, .string d1, .int .i64 k1]] (wanted_on rfl rfl rfl e67) rfl rfl (by first | (simp only [List.map_toArray, List.map_cons, List.map_nil, Act.eval, Array.getD_eq_getD_getElem?, Option.getD_some, e68]; done) | (simp only [List.map_toArray, List.map_cons, List.map_nil, Act.eval, Array.getD_eq_getD_getElem?, Option.getD_some, e68]; rfl)) ?_
      refine (cZ _ hI.1).mono ?_
      rintro e w1 ⟨rfl, h1, b1⟩; have hI1 : Two w n1 n2 d1 d2 k1 k2 w1 ∧ Fx gx X w1 := ⟨h1, hI.2.step b1⟩
      exact ⟨_, rfl, hK.out _ _ ⟨(by rw [ha.out]; exact putSel_upk 15 hb_ rfl rfl rfl), hI1⟩⟩
    refine steps_cons ?_ ?_
    · rintro b a w' ⟨ha, hI⟩ hb_ hon hoff
      refine ⟨_, rfl, fun K hK => ?_⟩
      have e5 : a.tmps[5]? = some (.pointer (some ⟨gx, 0, none⟩)) := by rw [ha]; exact (putSel_off rfl).trans s5
      have e67 : a.tmps[67]? = some (.bool true) := by rw [ha]; exact putSel_on (e := (13, 67, .bool true)) 13 rfl rfl (hon 13 (by kernel_rfl)) (by rw [hsz]; rfl)
      replace ha := Aside0.mk ha
      obtain ⟨p0, p1, p2, p3, p4, p5⟩ := hI.1.get
      refine value_ (w1 := w') (v := .agg X) (wanted_on rfl rfl rfl e67) rfl ?_ ?_
      · exact exec_load_fix hI.2 _ rfl (eval_of e5)
      exact hK.out _ _ ⟨(by rw [ha.out]; exact putSel_upk 16 hb_ rfl rfl rfl), hI⟩
    refine steps_cons ?_ ?_
    · rintro b a w' ⟨ha, hI⟩ hb_ hon hoff
      refine ⟨_, rfl, fun K hK => ?_⟩
      have e67 : a.tmps[67]? = some (.bool true) := by rw [ha]; exact putSel_on (e := (13, 67, .bool true)) 13 rfl rfl (hon 13 (by kernel_rfl)) (by rw [hsz]; rfl)
      replace ha := Aside0.mk ha
      obtain ⟨p0, p1, p2, p3, p4, p5⟩ := hI.1.get
      refine value_ (w1 := w') (v := .agg Z) (wanted_on rfl rfl rfl e67) rfl ?_ ?_
      · exact exec_build_fix hZ _ rfl
      exact hK.out _ _ ⟨(by rw [ha.out]; exact putSel_upk 17 hb_ rfl rfl rfl), hI⟩
    refine steps_cons ?_ ?_
    · rintro b a w' ⟨ha, hI⟩ hb_ hon hoff
      refine ⟨_, rfl, fun K hK => ?_⟩
      have e70 : a.tmps[70]? = some (.agg X) := by rw [ha]; exact putSel_on (e := (16, 70, .agg X)) 16 rfl rfl (hon 16 (by kernel_rfl)) (by rw [hsz]; rfl)
      have e71 : a.tmps[71]? = some (.agg Z) := by rw [ha]; exact putSel_on (e := (17, 71, .agg Z)) 17 rfl rfl (hon 17 (by kernel_rfl)) (by rw [hsz]; rfl)
      have e67 : a.tmps[67]? = some (.bool true) := by rw [ha]; exact putSel_on (e := (13, 67, .bool true)) 13 rfl rfl (hon 13 (by kernel_rfl)) (by rw [hsz]; rfl)
      replace ha := Aside0.mk ha
      obtain ⟨p0, p1, p2, p3, p4, p5⟩ := hI.1.get
      refine value_ (w1 := w') (v := .bool z) (wanted_on rfl rfl rfl e67) rfl ?_ ?_
      · exact exec_eql_fix (hE w') _ _ _ rfl (eval_of e70) (eval_of e71)
      exact hK.out _ _ ⟨(by rw [ha.out]; exact putSel_upk 18 hb_ rfl rfl rfl), hI⟩
    refine steps_cons ?_ ?_
    · rintro b a w' ⟨ha, hI⟩ hb_ hon hoff
      refine ⟨_, rfl, fun K hK => ?_⟩
      have e69 : a.tmps[69]? = some (.bool z) := by rw [ha]; exact putSel_on (e := (15, 69, .bool z)) 15 rfl rfl (hon 15 (by kernel_rfl)) (by rw [hsz]; rfl)
      have e72 : a.tmps[72]? = some (.bool z) := by rw [ha]; exact putSel_on (e := (18, 72, .bool z)) 18 rfl rfl (hon 18 (by kernel_rfl)) (by rw [hsz]; rfl)
      have e67 : a.tmps[67]? = some (.bool true) := by rw [ha]; exact putSel_on (e := (13, 67, .bool true)) 13 rfl rfl (hon 13 (by kernel_rfl)) (by rw [hsz]; rfl)
      replace ha := Aside0.mk ha
      obtain ⟨p0, p1, p2, p3, p4, p5⟩ := hI.1.get
      refine value_ (w1 := w') (v := .bool true) (wanted_on rfl rfl rfl e67) rfl ?_ ?_
      · go_simp; try rfl
      exact hK.out _ _ ⟨(by rw [ha.out]; exact putSel_upk 19 hb_ rfl rfl rfl), hI⟩
    refine steps_cons ?_ ?_
    · rintro b a w' ⟨ha, hI⟩ hb_ hon hoff
      refine ⟨_, rfl, fun K hK => ?_⟩
      have e67 : a.tmps[67]? = some (.bool true) := by rw [ha]; exact putSel_on (e := (13, 67, .bool true)) 13 rfl rfl (hon 13 (by kernel_rfl)) (by rw [hsz]; rfl)
      have e73 : a.tmps[73]? = some (.bool true) := by rw [ha]; exact putSel_on (e := (19, 73, .bool true)) 19 rfl rfl (hon 19 (by kernel_rfl)) (by rw [hsz]; rfl)
      replace ha := Aside0.mk ha
      obtain ⟨p0, p1, p2, p3, p4, p5⟩ := hI.1.get
      refine value_ (w1 := w') (v := .bool true) (by rfl) rfl ?_ ?_
      · go_simp; try rfl
      exact hK.out _ _ ⟨(by rw [ha.out]; exact putSel_upk 20 hb_ rfl rfl rfl), hI⟩
    refine steps_cons ?_ ?_
    · rintro b a w' ⟨ha, hI⟩ hb_ hon hoff
      refine ⟨_, rfl, fun K hK => ?_⟩
      have e74 : a.tmps[74]? = some (.bool true) := by rw [ha]; exact putSel_on (e := (20, 74, .bool true)) 20 rfl rfl (hon 20 (by kernel_rfl)) (by rw [hsz]; rfl)
      replace ha := Aside0.mk ha
      obtain ⟨p0, p1, p2, p3, p4, p5⟩ := hI.1.get
      refine value_ (w1 := w') (v := .bool true) (by rfl) rfl ?_ ?_
      · go_simp; try rfl
      exact hK.out _ _ ⟨(by rw [ha.out]; exact putSel_upk 21 hb_ rfl rfl rfl), hI⟩
    exact steps_nil
  rintro b a w1 hall ⟨ha, hI1⟩
  exact hend a w1 hI1 (by rw [ha]; exact (putSel_size b _ a0).2) (by rw [ha]; exact putSel_on (e := (21, 4, .bool true)) 21 rfl rfl (hall 21 (by kernel_rfl)) (by rw [hsz]; rfl))
end Go.Proofs.YtonjkoeacedaiaaDoor
namespace Go.Proofs.YtonjkoeacedaiaaDoor
open Go.RowKit Go.Proofs.YtonjkoeacedaiaaDoorW.PrintLast
open Go.Proofs.YtonjkoeacedaiaaDoorW.PrintWords (gate_dst)
set_option linter.unusedVariables false
set_option linter.unusedSimpArgs false
set_option maxRecDepth 100000 in
set_option maxHeartbeats 8000000 in
theorem cmp_yes (n1 n2 : Bool) (d1 d2 : ByteArray) (k1 k2 : Int) (f1 f2 : Nat → Int) (c0 want : Int) (z1 z2 : Bool) (hneg : IntKind.i64.wrap (-want) = -want) (hneg0 : IntKind.i64.wrap (-c0) = -c0)
    (hw : want = if (n1 && !z1) = true then (if (n2 && !z2) = true then -c0 else -1) else if (n2 && !z2) = true then 1 else c0)
    (c1 : ∀ W, Calls Tryd.prog 18 #[decV n1 d1 k1] W fun e w' => e = .returned (.bool true) ∧ Below W.heap.size W w')
    (c2 : ∀ W, Calls Tryd.prog 18 #[decV n2 d2 k2] W fun e w' => e = .returned (.bool true) ∧ Below W.heap.size W w')
    (o1 : ∀ W, Calls Tryd.prog 41 #[decV n1 d1 k1] W fun e w' => e = .returned (.agg (fixC f1)) ∧ Below W.heap.size W w')
    (o2 : ∀ W, Calls Tryd.prog 41 #[decV n2 d2 k2] W fun e w' => e = .returned (.agg (fixC f2)) ∧ Below W.heap.size W w')
    (hl : lessF f1 f2 200 = c0) (e1 : ((List.range 200).all fun i => f1 i == 0) = z1) (e2 : ((List.range 200).all fun i => f2 i == 0) = z2)
    (m12 : ∀ W, Calls Tryd.prog 48 #[decV n1 d1 k1, decV n2 d2 k2] W fun e w' => e = .returned (.int .i64 want) ∧ Below W.heap.size W w')
    (m21 : ∀ W, Calls Tryd.prog 48 #[decV n2 d2 k2, decV n1 d1 k1] W fun e w' => e = .returned (.int .i64 (-want)) ∧ Below W.heap.size W w')
    (mz : ∀ W, Calls Tryd.prog 32 #[decV n1 d1 k1] W fun e w' => e = .returned (.bool z1) ∧ Below W.heap.size W w') (w : World) (hT : G.Tab_ w) :
    Calls Tryd.prog 13 #[decV n1 d1 k1, decV n2 d2 k2] w fun e w' => e = .returned (.bool true) ∧ Below w.heap.size w w' := by
  have hS := Two.start w n1 n2 d1 d2 k1 k2 hT
  have cH := fun W (h : Two w n1 n2 d1 d2 k1 k2 W) => h.calls (head2_any W h.tab)
  have cA := fun W (h : Two w n1 n2 d1 d2 k1 k2 W) => h.calls (c1 W)
  have cB := fun W (h : Two w n1 n2 d1 d2 k1 k2 W) => h.calls (c2 W)
  have cX := fun W (h : Two w n1 n2 d1 d2 k1 k2 W) => h.calls (o1 W)
  have cY := fun W (h : Two w n1 n2 d1 d2 k1 k2 W) => h.calls (o2 W)
  have cL := fun W (h : Two w n1 n2 d1 d2 k1 k2 W) => h.calls (less_any f1 f2 W)
  rw [hl] at cL
  have cM := fun W (h : Two w n1 n2 d1 d2 k1 k2 W) => h.calls (m12 W)
  have cN := fun W (h : Two w n1 n2 d1 d2 k1 k2 W) => h.calls (m21 W)
  have cZ := fun W (h : Two w n1 n2 d1 d2 k1 k2 W) => h.calls (mz W)
  have q1 := fun W => run_equal_fix f1 (fun _ => 0) W
  have q2 := fun W => run_equal_fix f2 (fun _ => 0) W
  rw [e1] at q1
  rw [e2] at q2
  have hs1 := fixC_size f1
  have hs2 := fixC_size f2
  have ho1 := fixC_one f1
  have ho2 := fixC_one f2
  have hZ : fixC (fun _ => 0) = fixC (fun _ => 0) := rfl
  generalize hZZ : fixC (fun _ => 0) = Z at *
  clear hZ
  generalize fixC f1 = X at *
  generalize fixC f2 = Y at *
  unfold decV at *
  clear c1 c2 o1 o2 m12 m21 mz e1 e2 hl
  go_enter Tryd.func13, Tryd.ntmps13
  go_upto_region 7 with (first
    | (go_at_call 34; ((with_reducible refine (cH _ (by first | assumption | (refine Two.drew ?_; assumption))).mono ?_); rintro e W1 ⟨rfl, hH1, b1⟩; obtain ⟨p0, p1, p2, p3, p4, p5⟩ := hH1.get))
    | (go_at_call 18; ((with_reducible refine (cA _ (by first | assumption | (refine Two.drew ?_; assumption))).mono ?_); rintro e W2 ⟨rfl, hH2, b2⟩; obtain ⟨p0, p1, p2, p3, p4, p5⟩ := hH2.get))
    | (go_at_call 18; ((with_reducible refine (cB _ (by first | assumption | (refine Two.drew ?_; assumption))).mono ?_); rintro e W3 ⟨rfl, hH3, b3⟩; obtain ⟨p0, p1, p2, p3, p4, p5⟩ := hH3.get))
    | (go_at_call 41; ((with_reducible refine (cX _ (by first | assumption | (refine Two.drew ?_; assumption))).mono ?_); rintro e W4 ⟨rfl, hH4, b4⟩; obtain ⟨p0, p1, p2, p3, p4, p5⟩ := hH4.get; have st4 := run_storeCells_new (P := Tryd.prog) W4 69 Tryd.zeroCells69 X (by rw [hs1]; exact fixInfo) (by rw [hs1, zc_size]) ho1; have hX4 := Fx.new (W := W4) hs1; have hA4 := hH4.step ((Below.refl W4.heap.size W4).alloc (Nat.le_refl _) (.cells X 69)); obtain ⟨p0, p1, p2, p3, p4, p5⟩ := hA4.get))
    | (go_at_call 41; ((with_reducible refine (cY _ (by first | assumption | (refine Two.drew ?_; assumption))).mono ?_); rintro e W5 ⟨rfl, hH5, b5⟩; obtain ⟨p0, p1, p2, p3, p4, p5⟩ := hH5.get; have st5 := run_storeCells_new (P := Tryd.prog) W5 69 Tryd.zeroCells69 Y (by rw [hs2]; exact fixInfo) (by rw [hs2, zc_size]) ho2; have hX5 := (hX4.step b5).step ((Below.refl W5.heap.size W5).alloc (Nat.le_refl _) (.cells Y 69)); have hY5 := Fx.new (W := W5) hs2; have hA5 := hH5.step ((Below.refl W5.heap.size W5).alloc (Nat.le_refl _) (.cells Y 69)); obtain ⟨p0, p1, p2, p3, p4, p5⟩ := hA5.get; have lx5 := hX5.ld; have ly5 := hY5.ld)))
  clear st4 st5 lx5 ly5
  go_upto_region 8 with (first
    | ((with_reducible refine gate_dst (N := 25) rfl ?_); refine wpl_load_fix hX5 _ rfl rfl rfl ?_)
    | ((with_reducible refine gate_dst (N := 26) rfl ?_); refine wpl_load_fix hY5 _ rfl rfl rfl ?_)
    | (go_at_call 42; ((with_reducible refine (cL _ (by first | assumption | (refine Two.drew ?_; assumption))).mono ?_); rintro e W6 ⟨rfl, hH6, b6⟩; obtain ⟨p0, p1, p2, p3, p4, p5⟩ := hH6.get; have hX6 := hX5.step b6; have hY6 := hY5.step b6)))
  clear cA cB cH cX cY cL
  cases n1
  · go_upto_region 9 with (fail)
    cases n2
    · simp at hw
      subst hw
      go_upto_region 10 with (fail)
      go_upto_region 17 with (fail)
      refine cmp_end w _ _ d1 d2 k1 k2 _ _ X Z _ hZZ hneg cM cN cZ q1 _ rfl rfl rfl rfl rfl _ ⟨hH6.drew, hX6.step ((Below.refl _ _).drew)⟩ _ ?_
      intro a9 W9 hI9 hd9 h4
      go_wp2
      exact bodyPost_ret (results_tmp rfl _ _ _) hd9 ⟨by rw [Array.getD_eq_getD_getElem?, h4]; rfl, hI9.1.bel⟩
    · cases z2
      · simp at hw
        subst hw
        go_upto_region 10 with (first
          | ((with_reducible refine gate_dst (N := 38) rfl ?_); refine wpl_load_fix hY6 _ rfl rfl rfl ?_)
          | ((with_reducible refine gate_dst (N := 39) rfl ?_); refine wpl_build_fix hZZ rfl rfl ?_)
          | ((with_reducible refine gate_dst (N := 40) rfl ?_); refine wpl_neq_fix (q2 W6) _ _ _ rfl rfl rfl rfl ?_))
        go_upto_region 17 with (fail)
        refine cmp_end w _ _ d1 d2 k1 k2 _ _ X Z _ hZZ hneg cM cN cZ q1 _ rfl rfl rfl rfl rfl _ ⟨hH6.drew, hX6.step ((Below.refl _ _).drew)⟩ _ ?_
        intro a9 W9 hI9 hd9 h4
        go_wp2
        exact bodyPost_ret (results_tmp rfl _ _ _) hd9 ⟨by rw [Array.getD_eq_getD_getElem?, h4]; rfl, hI9.1.bel⟩
      · simp at hw
        subst hw
        go_upto_region 10 with (first
          | ((with_reducible refine gate_dst (N := 38) rfl ?_); refine wpl_load_fix hY6 _ rfl rfl rfl ?_)
          | ((with_reducible refine gate_dst (N := 39) rfl ?_); refine wpl_build_fix hZZ rfl rfl ?_)
          | ((with_reducible refine gate_dst (N := 40) rfl ?_); refine wpl_neq_fix (q2 W6) _ _ _ rfl rfl rfl rfl ?_))
        go_upto_region 17 with (fail)
        refine cmp_end w _ _ d1 d2 k1 k2 _ _ X Z _ hZZ hneg cM cN cZ q1 _ rfl rfl rfl rfl rfl _ ⟨hH6.drew, hX6.step ((Below.refl _ _).drew)⟩ _ ?_
        intro a9 W9 hI9 hd9 h4
        go_wp2
        exact bodyPost_ret (results_tmp rfl _ _ _) hd9 ⟨by rw [Array.getD_eq_getD_getElem?, h4]; rfl, hI9.1.bel⟩
  · cases z1
    · go_upto_region 9 with (first
        | ((with_reducible refine gate_dst (N := 31) rfl ?_); refine wpl_load_fix hX6 _ rfl rfl rfl ?_)
        | ((with_reducible refine gate_dst (N := 32) rfl ?_); refine wpl_build_fix hZZ rfl rfl ?_)
        | ((with_reducible refine gate_dst (N := 33) rfl ?_); refine wpl_neq_fix (q1 W6) _ _ _ rfl rfl rfl rfl ?_))
      cases n2
      · simp at hw
        subst hw
        go_upto_region 10 with (fail)
        go_upto_region 17 with (fail)
        refine cmp_end w _ _ d1 d2 k1 k2 _ _ X Z _ hZZ hneg cM cN cZ q1 _ rfl rfl rfl rfl rfl _ ⟨hH6.drew, hX6.step ((Below.refl _ _).drew)⟩ _ ?_
        intro a9 W9 hI9 hd9 h4
        go_wp2
        exact bodyPost_ret (results_tmp rfl _ _ _) hd9 ⟨by rw [Array.getD_eq_getD_getElem?, h4]; rfl, hI9.1.bel⟩
      · cases z2
        · simp at hw
          subst hw
          go_upto_region 10 with (first
            | ((with_reducible refine gate_dst (N := 38) rfl ?_); refine wpl_load_fix hY6 _ rfl rfl rfl ?_)
            | ((with_reducible refine gate_dst (N := 39) rfl ?_); refine wpl_build_fix hZZ rfl rfl ?_)
            | ((with_reducible refine gate_dst (N := 40) rfl ?_); refine wpl_neq_fix (q2 W6) _ _ _ rfl rfl rfl rfl ?_))
          go_upto_region 17 with (fail)
          refine cmp_end w _ _ d1 d2 k1 k2 _ _ X Z _ hZZ hneg cM cN cZ q1 _ rfl rfl rfl rfl rfl _ ⟨hH6.drew, hX6.step ((Below.refl _ _).drew)⟩ _ ?_
          intro a9 W9 hI9 hd9 h4
          go_wp2
          exact bodyPost_ret (results_tmp rfl _ _ _) hd9 ⟨by rw [Array.getD_eq_getD_getElem?, h4]; rfl, hI9.1.bel⟩
        · simp at hw
          subst hw
          go_upto_region 10 with (first
            | ((with_reducible refine gate_dst (N := 38) rfl ?_); refine wpl_load_fix hY6 _ rfl rfl rfl ?_)
            | ((with_reducible refine gate_dst (N := 39) rfl ?_); refine wpl_build_fix hZZ rfl rfl ?_)
            | ((with_reducible refine gate_dst (N := 40) rfl ?_); refine wpl_neq_fix (q2 W6) _ _ _ rfl rfl rfl rfl ?_))
          go_upto_region 17 with (fail)
          refine cmp_end w _ _ d1 d2 k1 k2 _ _ X Z _ hZZ hneg cM cN cZ q1 _ rfl rfl rfl rfl rfl _ ⟨hH6.drew, hX6.step ((Below.refl _ _).drew)⟩ _ ?_
          intro a9 W9 hI9 hd9 h4
          go_wp2
          exact bodyPost_ret (results_tmp rfl _ _ _) hd9 ⟨by rw [Array.getD_eq_getD_getElem?, h4]; rfl, hI9.1.bel⟩
    · go_upto_region 9 with (first
        | ((with_reducible refine gate_dst (N := 31) rfl ?_); refine wpl_load_fix hX6 _ rfl rfl rfl ?_)
        | ((with_reducible refine gate_dst (N := 32) rfl ?_); refine wpl_build_fix hZZ rfl rfl ?_)
        | ((with_reducible refine gate_dst (N := 33) rfl ?_); refine wpl_neq_fix (q1 W6) _ _ _ rfl rfl rfl rfl ?_))
      cases n2
      · simp at hw
        subst hw
        go_upto_region 10 with (fail)
        go_upto_region 17 with (fail)
        refine cmp_end w _ _ d1 d2 k1 k2 _ _ X Z _ hZZ hneg cM cN cZ q1 _ rfl rfl rfl rfl rfl _ ⟨hH6.drew, hX6.step ((Below.refl _ _).drew)⟩ _ ?_
        intro a9 W9 hI9 hd9 h4
        go_wp2
        exact bodyPost_ret (results_tmp rfl _ _ _) hd9 ⟨by rw [Array.getD_eq_getD_getElem?, h4]; rfl, hI9.1.bel⟩
      · cases z2
        · simp at hw
          subst hw
          go_upto_region 10 with (first
            | ((with_reducible refine gate_dst (N := 38) rfl ?_); refine wpl_load_fix hY6 _ rfl rfl rfl ?_)
            | ((with_reducible refine gate_dst (N := 39) rfl ?_); refine wpl_build_fix hZZ rfl rfl ?_)
            | ((with_reducible refine gate_dst (N := 40) rfl ?_); refine wpl_neq_fix (q2 W6) _ _ _ rfl rfl rfl rfl ?_))
          go_upto_region 17 with (fail)
          refine cmp_end w _ _ d1 d2 k1 k2 _ _ X Z _ hZZ hneg cM cN cZ q1 _ rfl rfl rfl rfl rfl _ ⟨hH6.drew, hX6.step ((Below.refl _ _).drew)⟩ _ ?_
          intro a9 W9 hI9 hd9 h4
          go_wp2
          exact bodyPost_ret (results_tmp rfl _ _ _) hd9 ⟨by rw [Array.getD_eq_getD_getElem?, h4]; rfl, hI9.1.bel⟩
        · simp at hw
          subst hw
          go_upto_region 10 with (first
            | ((with_reducible refine gate_dst (N := 38) rfl ?_); refine wpl_load_fix hY6 _ rfl rfl rfl ?_)
            | ((with_reducible refine gate_dst (N := 39) rfl ?_); refine wpl_build_fix hZZ rfl rfl ?_)
            | ((with_reducible refine gate_dst (N := 40) rfl ?_); refine wpl_neq_fix (q2 W6) _ _ _ rfl rfl rfl rfl ?_))
          go_upto_region 17 with (fail)
          refine cmp_end w _ _ d1 d2 k1 k2 _ _ X Z _ hZZ hneg cM cN cZ q1 _ rfl rfl rfl rfl rfl _ ⟨hH6.drew, hX6.step ((Below.refl _ _).drew)⟩ _ ?_
          intro a9 W9 hI9 hd9 h4
          go_wp2
          exact bodyPost_ret (results_tmp rfl _ _ _) hd9 ⟨by rw [Array.getD_eq_getD_getElem?, h4]; rfl, hI9.1.bel⟩
end Go.Proofs.YtonjkoeacedaiaaDoor
namespace Go.Proofs.YtonjkoeacedaiaaDoor.S
open Go.RowKit Go.Proofs.YtonjkoeacedaiaaDoor Go.Proofs.YtonjkoeacedaiaaDoor.G Go.Proofs.YtonjkoeacedaiaaDoor.U Go.Proofs.YtonjkoeacedaiaaDoor.R Go.Proofs.YtonjkoeacedaiaaDoor.PU Go.Proofs.YtonjkoeacedaiaaDoorW.PrintWords Go.Proofs.YtonjkoeacedaiaaDoorW.PrintMore
set_option linter.unusedVariables false
set_option linter.unusedSimpArgs false
def fv (f : Nat → Int) : Nat → Int
  | 0 => 0
  | j + 1 => f (199 - j) * ((10 ^ j : Nat) : Int) + fv f j
def Dg (f : Nat → Int) : Prop := ∀ p, 0 ≤ f p ∧ f p ≤ 9
theorem fv_lt {f : Nat → Int} (hf : Dg f) : ∀ j, 0 ≤ fv f j ∧ fv f j < ((10 ^ j : Nat) : Int)
  | 0 => by simp [fv]
  | j + 1 => by
    obtain ⟨h1, h2⟩ := fv_lt hf j
    obtain ⟨h3, h4⟩ := hf (199 - j)
    have h5 : f (199 - j) * ((10 ^ j : Nat) : Int) ≤ 9 * ((10 ^ j : Nat) : Int) := Int.mul_le_mul_of_nonneg_right h4 (by omega)
    have h6 : 0 ≤ f (199 - j) * ((10 ^ j : Nat) : Int) := Int.mul_nonneg h3 (by omega)
    rw [fv, Nat.pow_succ]
    omega
theorem mul_step {x y P : Int} (hP : 0 < P) (h : x < y) : x * P + P ≤ y * P := by
  have := Int.mul_le_mul_of_nonneg_right (show x + 1 ≤ y by omega) (show 0 ≤ P by omega)
  rw [Int.add_mul, Int.one_mul] at this
  exact this
theorem lessF_fv {f g : Nat → Int} (hf : Dg f) (hg : Dg g) : ∀ j, lessF f g j = isg (fv f j) (fv g j)
  | 0 => rfl
  | j + 1 => by
    have ih := lessF_fv hf hg j
    obtain ⟨a1, a2⟩ := fv_lt hf j
    obtain ⟨b1, b2⟩ := fv_lt hg j
    have hP : (0 : Int) < ((10 ^ j : Nat) : Int) := by have : 0 < 10 ^ j := Nat.pow_pos (by decide); omega
    rw [lessF, fv, fv]
    generalize ((10 ^ j : Nat) : Int) = P at *
    unfold isg
    rcases Int.lt_trichotomy (f (199 - j)) (g (199 - j)) with h | h | h
    · have := mul_step hP h
      rw [if_pos h, if_pos (by omega)]
    · rw [if_neg (by omega), if_neg (by omega), ih, h]
      unfold isg
      generalize g (199 - j) * P = z
      by_cases c1 : fv f j < fv g j
      · rw [if_pos c1, if_pos (by omega)]
      · by_cases c2 : fv f j = fv g j
        · rw [if_neg c1, if_pos c2, if_neg (by omega), if_pos (by omega)]
        · rw [if_neg c1, if_neg c2, if_neg (by omega), if_neg (by omega)]
    · have := mul_step hP h
      rw [if_neg (by omega), if_pos h, if_neg (by omega), if_neg (by omega)]
theorem fv_zero {f : Nat → Int} (hf : Dg f) : ∀ j, j ≤ 200 → (fv f j = 0 ↔ ∀ p, 200 - j ≤ p → p < 200 → f p = 0)
  | 0, _ => by
    simp only [fv, true_iff]
    intro p h1 h2
    omega
  | j + 1, hj => by
    have ih := fv_zero hf j (by omega)
    obtain ⟨a1, a2⟩ := fv_lt hf j
    have hP : (0 : Int) < ((10 ^ j : Nat) : Int) := by have : 0 < 10 ^ j := Nat.pow_pos (by decide); omega
    have h0 := hf (199 - j)
    have hm : 0 ≤ f (199 - j) * ((10 ^ j : Nat) : Int) := Int.mul_nonneg h0.1 (by omega)
    rw [fv]
    constructor
    · intro h
      have e1 : fv f j = 0 := by omega
      have e2 : f (199 - j) * ((10 ^ j : Nat) : Int) = 0 := by omega
      have e3 : f (199 - j) = 0 := by
        rcases Int.mul_eq_zero.1 e2 with h | h
        · exact h
        · omega
      intro p h1 h2
      by_cases hp : p = 199 - j
      · subst hp; exact e3
      · exact ih.1 e1 p (by omega) h2
    · intro h
      rw [h (199 - j) (by omega) (by omega), ih.2 (fun p h1 h2 => h p (by omega) h2)]
      omega
theorem all_zero {f : Nat → Int} (hf : Dg f) : ((List.range 200).all fun i => f i == 0) = decide (fv f 200 = 0) := by
  rw [Bool.eq_iff_iff, decide_eq_true_iff, fv_zero hf 200 (by decide), List.all_eq_true]
  constructor
  · intro h p h1 h2
    exact eq_of_beq (h p (List.mem_range.2 h2))
  · intro h p hp
    exact beq_iff_eq.2 (h p (by omega) (List.mem_range.1 hp))
theorem fv_list (L : List UInt8) (hL : L.length = 200) (f : Nat → Int) (hf : ∀ p, p < 200 → f p = (dv (L.getD p 0) : Int)) : ∀ j, j ≤ 200 → fv f j = (val (L.drop (200 - j)) : Int)
  | 0, _ => by rw [List.drop_of_length_le (by omega)]; rfl
  | j + 1, hj => by
    have ih := fv_list L hL f hf j (by omega)
    have hlt : 200 - (j + 1) < L.length := by omega
    rw [fv, ih, List.drop_eq_getElem_cons hlt, val_cons, show 200 - (j + 1) + 1 = 200 - j by omega, List.length_drop, hL, show 200 - (200 - j) = j by omega, hf _ (by omega), show 199 - j = 200 - (j + 1) by omega,
      List.getD_eq_getElem?_getD, List.getElem?_eq_getElem hlt]
    simp
theorem fixD_val (D : List UInt8) (m : Nat) (hd : digs D = true) (hm : m ≤ 100) (hl : D.length ≤ 100 + m) : fv (fixD D m D.length) 200 = ((val D * 10 ^ (100 + m - D.length) : Nat) : Int) ∧ Dg (fixD D m D.length) := by
  constructor
  · have hlen : (List.replicate (100 - m) (48 : UInt8) ++ (D ++ List.replicate (100 + m - D.length) 48)).length = 200 := by simp; omega
    have := fv_list (List.replicate (100 - m) 48 ++ (D ++ List.replicate (100 + m - D.length) 48)) hlen (fixD D m D.length) (fun p hp => by
      unfold fixD
      simp only [List.getD_eq_getElem?_getD]
      rw [List.getElem?_append, List.length_replicate]
      by_cases h1 : p < 100 - m
      · rw [if_neg (by omega), if_pos h1, List.getElem?_replicate, if_pos h1]
        rfl
      · rw [if_neg h1, List.getElem?_append]
        by_cases h2 : p - (100 - m) < D.length
        · rw [if_pos (by omega), if_pos h2, List.getElem?_eq_getElem h2]
          have := dig_le (digs_at hd _ (List.getElem_mem h2))
          show _ = ((D[p - (100 - m)].toNat - 48 : Nat) : Int)
          simp
          omega
        · rw [if_neg (by omega), if_neg h2, List.getElem?_replicate, if_pos (by omega)]
          rfl) 200 (Nat.le_refl _)
    rw [this, show 200 - 200 = 0 from rfl, List.drop_zero, val_app, val_app, val_rep, val_rep, List.length_replicate]
    simp
  · intro p
    unfold fixD
    split
    · rename_i h
      have hlt : p - (100 - m) < D.length := by omega
      rw [List.getD_eq_getElem?_getD, List.getElem?_eq_getElem hlt]
      have := dig_le (digs_at hd _ (List.getElem_mem hlt))
      simp
      omega
    · omega
end Go.Proofs.YtonjkoeacedaiaaDoor.S
namespace Go.Proofs.YtonjkoeacedaiaaDoor.S
open Go.RowKit Go.Proofs.YtonjkoeacedaiaaDoor Go.Proofs.YtonjkoeacedaiaaDoor.G Go.Proofs.YtonjkoeacedaiaaDoor.U Go.Proofs.YtonjkoeacedaiaaDoor.R Go.Proofs.YtonjkoeacedaiaaDoor.PU Go.Proofs.YtonjkoeacedaiaaDoorW.PrintWords Go.Proofs.YtonjkoeacedaiaaDoorW.PrintMore
set_option linter.unusedVariables false
set_option linter.unusedSimpArgs false
theorem isg_or (x y : Int) : isg x y = -1 ∨ isg x y = 0 ∨ isg x y = 1 := by
  unfold isg
  split
  · exact Or.inl rfl
  · split
    · exact Or.inr (Or.inl rfl)
    · exact Or.inr (Or.inr rfl)
theorem isg_mul (x y P : Int) (hP : 0 < P) : isg (x * P) (y * P) = isg x y := by
  unfold isg
  rcases Int.lt_trichotomy x y with h | h | h
  · rw [if_pos (Int.mul_lt_mul_of_pos_right h hP), if_pos h]
  · subst h
    rw [if_neg (Int.lt_irrefl _), if_pos rfl, if_neg (Int.lt_irrefl _), if_pos rfl]
  · have := Int.mul_lt_mul_of_pos_right h hP
    rw [if_neg (by omega), if_neg (by omega), if_neg (by omega), if_neg (by omega)]
theorem S_mul (n : Bool) (x P : Nat) : S n (x * P) = S n x * (P : Int) := by
  unfold S
  cases n
  · simp
  · simp [Int.neg_mul]
theorem isg_signs (na nb : Bool) (x y : Nat) : isg (S na x) (S nb y) = if (na && !(decide ((x : Int) = 0))) = true then (if (nb && !(decide ((y : Int) = 0))) = true then -isg (x : Int) (y : Int) else -1) else if (nb && !(decide ((y : Int) = 0))) = true then 1 else isg (x : Int) (y : Int) := by
  unfold isg S
  cases na <;> cases nb <;> by_cases h1 : x = 0 <;> by_cases h2 : y = 0 <;> simp [h1, h2] <;> (try split) <;> (try split) <;> (try split) <;> (try split) <;> (try omega)
theorem isg_swap (x y : Int) : isg y x = -isg x y := by
  unfold isg
  rcases Int.lt_trichotomy x y with h | h | h
  · rw [if_neg (by omega), if_neg (by omega), if_pos h]; rfl
  · subst h
    rw [if_neg (Int.lt_irrefl _), if_pos rfl]; rfl
  · rw [if_pos h, if_neg (by omega), if_neg (by omega)]
theorem neg_wrap (x : Int) (h : x = -1 ∨ x = 0 ∨ x = 1) : IntKind.i64.wrap (-x) = -x := by
  rw [IntKind.wrap_i64]
  omega
theorem of_num {A : List UInt8} {a : Nat} (hA : Num A a) (h60 : A.length ≤ 60) : ∃ x : Nat, fv (fixD A (A.length - a) A.length) 200 = (x : Int) ∧ V A a = x * 10 ^ 100 ∧ Dg (fixD A (A.length - a) A.length) := by
  have hlt := hA.lt
  obtain ⟨h1, h2⟩ := fixD_val A (A.length - a) hA.dig (by omega) (by omega)
  refine ⟨_, h1, ?_, h2⟩
  unfold V
  rw [show 200 - a = (100 + (A.length - a) - A.length) + 100 by omega, Nat.pow_add, Nat.mul_assoc]
theorem of_calls (n : Bool) {A : List UInt8} {a : Nat} (hA : Num A a) (h60 : A.length ≤ 60) (W : World) :
    Calls Tryd.prog 41 #[decV n ⟨A.toArray⟩ a] W fun e w' => e = .returned (.agg (fixC (fixD A (A.length - a) A.length))) ∧ Below W.heap.size W w' := by
  have hz : (⟨A.toArray⟩ : ByteArray).size = A.length := sz _
  have h := fix_any n ⟨A.toArray⟩ a W (by rw [hz]; exact hA.lt) (by rw [hz]; exact h60) (fun c hc => dig_le (digs_at hA.dig c hc))
  rw [hz] at h
  exact h
theorem compares_walk (na nb : Bool) (A B : ByteArray) (sa sb : Int) (w : World) (hT : Tab_ w) : Calls Tryd.prog 13 #[.agg #[.bool na, .string A, .int .i64 sa], .agg #[.bool nb, .string B, .int .i64 sb]] w fun e w' => e = .returned (.bool true) ∧ Below w.heap.size w w' := by
  obtain ⟨A, rfl⟩ : ∃ l : List UInt8, A = ⟨l.toArray⟩ := ⟨bl A, (mk_bl A).symm⟩
  obtain ⟨B, rfl⟩ : ∃ l : List UInt8, B = ⟨l.toArray⟩ := ⟨bl B, (mk_bl B).symm⟩
  obtain ⟨ba, ea, fa⟩ := right_any na A sa 200 (by decide)
  obtain ⟨bb, eb, fb⟩ := right_any nb B sb 200 (by decide)
  have c1 := fun W => polyglotlaw02_Right.calls 200 na ⟨A.toArray⟩ sa ba W ea
  have c2 := fun W => polyglotlaw02_Right.calls 200 nb ⟨B.toArray⟩ sb bb W eb
  by_cases hr : ba = false ∨ bb = false
  · exact cmp_not na nb ⟨A.toArray⟩ ⟨B.toArray⟩ sa sb ba bb hr c1 c2 w hT
  · obtain rfl : ba = true := by cases ba <;> simp_all
    obtain rfl : bb = true := by cases bb <;> simp_all
    obtain ⟨a, rfl, hA, hAl⟩ := fa rfl
    obtain ⟨b, rfl, hB, hBl⟩ := fb rfl
    obtain ⟨x, x1, x2, x3⟩ := of_num hA hAl
    obtain ⟨y, y1, y2, y3⟩ := of_num hB hBl
    have hl := lessF_fv x3 y3 200
    rw [x1, y1] at hl
    have e1 := all_zero x3
    have e2 := all_zero y3
    rw [x1] at e1
    rw [y1] at e2
    have hP : (0 : Int) < ((10 ^ 100 : Nat) : Int) := by decide
    have k1 := compare_ok 0 na nb hA hB
    have k2 := compare_ok 0 nb na hB hA
    have k3 := zero_ok na hA (a : Int)
    rw [x2, y2, S_mul, S_mul, isg_mul _ _ _ hP] at k1 k2
    have hd : decide (x * 10 ^ 100 = 0) = decide ((x : Int) = 0) := by
      congr 1
      have : 0 < 10 ^ 100 := by decide
      rw [Nat.mul_eq_zero]
      apply propext
      omega
    rw [x2, hd] at k3
    rw [isg_swap] at k2
    refine cmp_yes na nb ⟨A.toArray⟩ ⟨B.toArray⟩ a b _ _ _ (isg (S na x) (S nb y)) _ _ (neg_wrap _ (isg_or _ _)) (neg_wrap _ (isg_or x y)) (isg_signs na nb x y) c1 c2 (of_calls na hA hAl) (of_calls nb hB hBl) hl e1 e2 (fun W => dec_Dec_Compare.calls 6 na ⟨A.toArray⟩ a nb ⟨B.toArray⟩ b _ W k1) (fun W => dec_Dec_Compare.calls 6 nb ⟨B.toArray⟩ b na ⟨A.toArray⟩ a _ W k2) (fun W => dec_Dec_Zero.calls na ⟨A.toArray⟩ a _ W k3) w hT
end Go.Proofs.YtonjkoeacedaiaaDoor.S
namespace Go.Proofs.YtonjkoeacedaiaaDoor.decCompares
open Go.ChangeShapes Go.WideShapes Go.ChangeAt Go.RowKit Go.Proofs.YtonjkoeacedaiaaDoor.E
open Go.ChangeMaps (open_string shut_string)
set_option linter.unusedVariables false
set_option linter.unusedSimpArgs false
theorem laid_met (os : Os) : laidMet Tryd.prog Rows.decComparesRow.laid ((laidWorld os).forCall (fun _ _ => 0) ⟨#[], #[.agg #[.bool false, .string ByteArray.empty, .int .i64 0], .agg #[.bool false, .string ByteArray.empty, .int .i64 0]], []⟩).memory :=
  laidMet_of_run3 8 (by kernel_rfl) (by kernel_rfl) (by kernel_rfl)
set_option maxRecDepth 100000 in
theorem reads (os : Os) {H : Type} (enc : TypeId × Value → H) : ∃ places, DataW.whole enc Tryd.prog ((laidWorld os).forCall (fun _ _ => 0) ⟨#[], #[.agg #[.bool false, .string ByteArray.empty, .int .i64 0], .agg #[.bool false, .string ByteArray.empty, .int .i64 0]], []⟩).memory Tryd.f13.params.toList Rows.decComparesSpec.vars false #[Value.agg #[.bool false, .string ByteArray.empty, .int .i64 0], Value.agg #[.bool false, .string ByteArray.empty, .int .i64 0]].toList 8 = some ([.agg [.lit (.bool false), .lit (.string []), .lit (.int .i64 0)], .agg [.lit (.bool false), .lit (.string []), .lit (.int .i64 0)]], [], places) :=
  ⟨[], by kernel_rfl⟩
set_option maxRecDepth 100000 in
theorem contract (H : Type) (enc : TypeId × Value → H) (W : World) (base : Nat) (args : Array Value) (ds gs : List (DataW H)) (before : List MemPlace)
    (hval : ∀ (j : Nat) t v, Tryd.f13.params[j]? = some t → args[j]? = some v → Value.okWide Tryd.prog W .any base t v)
    (hW : DataW.Whole enc Tryd.prog Tryd.f13.params.toList Rows.decComparesSpec.vars false W args.toList ds gs before) (hL : laidMetH Tryd.prog Rows.decComparesRow.laid W) (hS : W.ShapedOpen Tryd.prog) :
    Calls Tryd.prog 13 args W fun e W' => ∃ v, e = .returned v ∧ Rows.decComparesSpec.post enc Tryd.prog Tryd.f13 false true false false W args v W' := by
  have hW' := hW
  obtain ⟨p, q, hA0, hV, rfl, hfz, hnd⟩ := hW
  have hA : DataW.TrodAll enc Tryd.prog W 0 (fun _ => true) true Tryd.f13.params.toList args.toList ds p := hA0
  rw [Tryd.params13] at hA hval
  have hAk := hA
  have hlt : ∀ x ∈ p, x.block < W.heap.size := fun x hx => by simpa using hW'.lt x (List.mem_append.2 (Or.inl hx))
  obtain ⟨v0, vs0, d0, ds0, p0, q0, hargs, rfl, rfl, h0, r0⟩ := trodAll_cons hA
  obtain ⟨v1, vs1, d1, ds1, p1, q1, rfl, rfl, rfl, h1, r1⟩ := trodAll_cons r0
  obtain ⟨rfl, rfl, rfl⟩ := trodAll_nil r1
  obtain rfl : args = #[v0, v1] := by cases args; simp_all
  obtain ⟨rfl, rfl⟩ := trodVars_none hV
  obtain ⟨n0, s0, k0, rfl, rfl, rfl⟩ := open_dec (hval 0 23 v0 rfl rfl) h0
  obtain ⟨n1, s1, k1, rfl, rfl, rfl⟩ := open_dec (hval 1 23 v1 rfl rfl) h1
  clear hA0
  simp only [List.append_nil] at hW' hAk hlt
  have hT := tab_of hS
  refine (S.compares_walk n0 n1 s0 s1 k0 k1 W hT).mono fun e W' ⟨he, hb⟩ => ?_
  subst he
  exact ⟨_, rfl, _, _, _, [], _, [], hW', trodAll_mk1 (shut_bool Tryd.underlying4 _), args_below laidOut hb _ _ _ _ (by decide +kernel) hAk hlt, rfl, hb.frame _, fun h => by cases h⟩
set_option maxRecDepth 100000 in
theorem lifted (os : Os) (started : os.Started) (H : Type) (enc : TypeId × Value → H) (F : Stop.Interp) :
    ReturnsInHanded {} Tryd.checked os 13 .any ((OpenSpec.ofChange Rows.decComparesSpec).preRow enc Tryd.prog Tryd.f13 Rows.decComparesRow.domain false Rows.decComparesRow.laid) (((OpenSpec.ofChange Rows.decComparesSpec).at F).post enc Tryd.prog Tryd.f13 false true false false) := by
  obtain ⟨places, hx⟩ := reads os enc
  refine returnsInHanded_of_row (C := Tryd.checked) (s := OpenSpec.ofChange Rows.decComparesSpec) own started (by kernel_rfl) Tryd.func13
    (witness_row_atRef (enc := enc) (C := Tryd.checked) false (laidWorld os) #[.agg #[.bool false, .string ByteArray.empty, .int .i64 0], .agg #[.bool false, .string ByteArray.empty, .int .i64 0]] rfl (by kernel_rfl) (by kernel_rfl) (by kernel_rfl)
      (OpenSpec.preRow_of_cond 8 hx (by kernel_rfl) (fun k hk => by cases hk) (by kernel_rfl) (laid_met os))) ?_
  intro W base args ds gs before hval hW _ _ _ hL hS _
  exact contract H enc W base args ds gs before hval hW hL hS
theorem said : Rows.DecComparesSaid :=
  OpenClaim.holds_of_cond 13 Tryd.f13 rfl rfl rfl rfl rfl rfl rfl ⟨rfl, rfl, rfl, rfl, rfl⟩ rfl rfl rfl rfl rfl (by kernel_rfl) Tryd.func13 (by kernel_rfl)
    (of_decide_eq_true (by kernel_rfl)) (by unfold Func.isWrapper; first | (rw [if_pos (by decide +kernel)]; kernel_rfl) | (rw [if_neg (by decide +kernel)]; exact ⟨rfl, rfl⟩))
    (fun os started H enc _ F => by rw [OpenClaim.pre_eq_preRow]; exact lifted os started H enc F)
theorem plain (f : FuncId) (fn : Func) (hf : Tryd.pinned.checked.prog.funcNamed "polyglot/polyglotlaw02.DecCompares" = some f) (hfn : Tryd.pinned.checked.prog.funcs[f]? = some fn) :
    false = Tryd.pinned.checked.prog.looks [] ∧ ∀ (j : Nat) t, fn.params[j]? = some t → Tryd.pinned.checked.prog.wantsStandIn t = false := by
  obtain rfl : f = 13 := Option.some.inj ((show Tryd.prog.funcNamed "polyglot/polyglotlaw02.DecCompares" = some 13 by kernel_rfl).symm.trans hf) |>.symm
  obtain rfl : fn = Tryd.f13 := (Option.some.inj (Tryd.func13.symm.trans hfn)).symm
  refine ⟨by kernel_rfl, fun j t ht => ?_⟩
  rw [Tryd.params13] at ht
  have hmem := Array.mem_of_getElem? ht
  have hall : ∀ t ∈ (#[23, 23] : Array TypeId), Tryd.prog.wantsStandIn t = false := by
    intro t ht
    simp at ht
    subst ht
    kernel_rfl
  exact hall t hmem
end Go.Proofs.YtonjkoeacedaiaaDoor.decCompares
namespace Go.Proofs.YtonjkoeacedaiaaDoor
theorem decCompares_holds : Rows.DecComparesCardSaid :=
  Claim7.holds_tied_plain_at .later [] _ _ _ _ decCompares.said (fun _ h => by cases h) (by kernel_rfl) (fun _ h => by cases h) decCompares_row_tie rfl ⟨rfl, rfl⟩ (by kernel_rfl) rfl decCompares.plain (by kernel_rfl)
end Go.Proofs.YtonjkoeacedaiaaDoor
