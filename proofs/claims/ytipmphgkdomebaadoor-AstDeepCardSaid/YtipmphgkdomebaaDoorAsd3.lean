/- Whatever number: braces within braces may be as deep as is said, and no deeper: AstDeep answers true. (Text 4 of 5: what the law's proof rests on, joined; walks printed by the kit's print over given contracts, walks and plain laws by hand.) -/
import Derived.Test.YtipmphgkdomebaaDoorAsd0
import Derived.Test.YtipmphgkdomebaaDoorAsd1
import Derived.Test.YtipmphgkdomebaaDoorAsd2
namespace Go.Proofs.YtipmphgkdomebaaDoor
open Go.RowKit Go.Proofs.YtipmphgkdomebaaDoorW.PrintWords Go.Proofs.YtipmphgkdomebaaDoorW.PrintLast
set_option linter.unusedVariables false
set_option linter.unusedSimpArgs false
def as47d.T : Bool × List (List Nat × List Nat) := (true, [([], []), ([], []), ([0, 1], [0, 1]), ([2], [2]), ([3], [3]), ([], []), ([], []), ([5, 6], [5, 6]), ([7], [7]), ([8], [8]), ([4, 9], [4, 9]), ([10], [10]), ([11], [11]), ([12, 11], [11, 12]), ([11], [11]), ([14, 11], [11, 14]), ([13, 15, 11], [11, 13, 15]), ([11, 16], [11, 16]), ([17, 11], [17]), ([18], [18]), ([19, 18], [18, 19]), ([20, 18, 18], [18, 20]), ([21], [21]), ([22, 21], [21, 22]), ([23, 21], [21, 23]), ([21], [21]), ([25, 21], [21, 25]), ([26, 21], [21, 26]), ([24, 27, 21, 21], [21, 24, 27]), ([28, 21], [21, 28]), ([21, 29, 18], [18, 21, 29]), ([18, 30], [18, 30])])
def as47d.B : List Nat := [0, 0, 3, 7, 15, 0, 0, 96, 224, 480, 1023, 2047, 4095, 8191, 4095, 20479, 65535, 131071, 262143, 524287, 1048575, 2097151, 4194303, 8388607, 16777215, 4194303, 37748735, 104857599, 268435455, 536870911, 1073741823, 2147483647]
theorem as47d.tab : rtab .any (opsOf Tryd.f47 8) = as47d.T := by kernel_rfl
theorem as47d.bits : waitsOk as47d.T.2 as47d.B = true := by kernel_rfl
set_option maxRecDepth 100000 in
set_option maxHeartbeats 4000000 in
theorem as47d (w0 : World) (t1 t2 : ByteArray) (hq : (t1.toList == t2.toList) = true) (n ca cb i b1 o1 b2 o2 : Nat) (q1 : (0 : Int) ≤ (i : Int)) (q2 : (i : Int) < (n : Int)) (b3 o3 b4 o4 : Nat) (y1 y2 : EX) (j1 j2 : Tri) (E1 : ExAt w0 ⟨b3, o3, none⟩ y1 j1) (E2 : ExAt w0 ⟨b4, o4, none⟩ y2 j2) (s : Bool) (cS : ∀ W, Below w0.heap.size w0 W → Calls Tryd.prog 82 #[.agg #[.int .i64 y1.kind, .string y1.text, .string y1.name, .string y1.attr, .slice j1.A y1.na j1.ca, .pointer j1.P, .slice j1.V y1.nv j1.cv], .agg #[.int .i64 y2.kind, .string y2.text, .string y2.name, .string y2.attr, .slice j2.A y2.na j2.ca, .pointer j2.P, .slice j2.V y2.nv j2.cv]] W fun e w' => e = .returned (.bool s) ∧ Below W.heap.size W w') (d10 : w0.cell? ⟨b1, o1 + i * 2, none⟩ = some (.string t1)) (d20 : w0.cell? ⟨b2, o2 + i * 2, none⟩ = some (.string t2)) (a0 : Act) (s0 : a0.tmps[0]? = some (.slice (some ⟨b1, o1, none⟩) n ca)) (s1 : a0.tmps[1]? = some (.slice (some ⟨b2, o2, none⟩) n cb)) (s5 : a0.tmps[5]? = some (.int .i64 (i : Int))) (s6 : a0.tmps[6]? = some (.pointer (some ⟨b3, o3, none⟩))) (s7 : a0.tmps[7]? = some (.pointer (some ⟨b4, o4, none⟩))) (hsz : a0.tmps.size = Tryd.f47.ntmps) (W : World) (hI : Below w0.heap.size w0 W.drew) (Q : Exit → Act → World → Prop) (hend : ∀ (a9 : Act) w', Below w0.heap.size w0 w' → a9 = putSel a0 (fun _ => true) [(0, 28, .slice (some ⟨b1, o1, none⟩) n ca), (1, 29, .int .i64 (i : Int)), (2, 30, .pointer (some ⟨b1, o1 + i * 2, none⟩)), (3, 31, .pointer (some ⟨b1, o1 + i * 2, none⟩)), (4, 32, .string t1), (5, 33, .slice (some ⟨b2, o2, none⟩) n cb), (6, 34, .int .i64 (i : Int)), (7, 35, .pointer (some ⟨b2, o2 + i * 2, none⟩)), (8, 36, .pointer (some ⟨b2, o2 + i * 2, none⟩)), (9, 37, .string t2), (10, 38, .bool false), (11, 39, .bool false), (12, 40, .pointer (some ⟨b3, o3, none⟩)), (13, 41, .bool false), (14, 42, .pointer (some ⟨b4, o4, none⟩)), (15, 43, .bool false), (16, 44, .bool false), (17, 45, .bool false), (18, 46, .bool false), (19, 47, .pointer (some ⟨b3, o3, none⟩)), (20, 48, .bool true), (21, 49, .bool true), (22, 50, .pointer (some ⟨b3, o3, none⟩)), (23, 51, .pointer (some ⟨b3, o3, none⟩)), (24, 52, .agg #[.int .i64 y1.kind, .string y1.text, .string y1.name, .string y1.attr, .slice j1.A y1.na j1.ca, .pointer j1.P, .slice j1.V y1.nv j1.cv]), (25, 53, .pointer (some ⟨b4, o4, none⟩)), (26, 54, .pointer (some ⟨b4, o4, none⟩)), (27, 55, .agg #[.int .i64 y2.kind, .string y2.text, .string y2.name, .string y2.attr, .slice j2.A y2.na j2.ca, .pointer j2.P, .slice j2.V y2.nv j2.cv]), (28, 56, .bool s), (29, 57, .bool (!s)), (30, 58, .bool (!s)), (31, 59, .bool (!s))] → a9.defers = a0.defers → a9.tmps[59]? = some (.bool (!s)) → Q .normal a9 w') :
    (Code.region 8 #[{ dst := some 28, op := Op.move (Operand.tmp 0), type := 26, pos := "law.go:246", after := #[], guard := none }, { dst := some 29, op := Op.move (Operand.tmp 5), type := 3, pos := "law.go:246", after := #[], guard := none }, { dst := some 30, op := Op.indexAddr 26 (Operand.tmp 28) (Operand.tmp 29), type := 0, pos := "law.go:246", after := #[{ on := 0, ground := Ground.data }, { on := 1, ground := Ground.data }], guard := none }, { dst := some 31, op := Op.fieldAddr 42 (Operand.tmp 30) 0, type := 0, pos := "law.go:246", after := #[{ on := 2, ground := Ground.data }], guard := none }, { dst := some 32, op := Op.load 9 (Operand.tmp 31), type := 9, pos := "law.go:246", after := #[{ on := 3, ground := Ground.data }], guard := none }, { dst := some 33, op := Op.move (Operand.tmp 1), type := 26, pos := "law.go:246", after := #[], guard := none }, { dst := some 34, op := Op.move (Operand.tmp 5), type := 3, pos := "law.go:246", after := #[], guard := none }, { dst := some 35, op := Op.indexAddr 26 (Operand.tmp 33) (Operand.tmp 34), type := 0, pos := "law.go:246", after := #[{ on := 5, ground := Ground.data }, { on := 6, ground := Ground.data }], guard := none }, { dst := some 36, op := Op.fieldAddr 42 (Operand.tmp 35) 0, type := 0, pos := "law.go:246", after := #[{ on := 7, ground := Ground.data }], guard := none }, { dst := some 37, op := Op.load 9 (Operand.tmp 36), type := 9, pos := "law.go:246", after := #[{ on := 8, ground := Ground.data }], guard := none }, { dst := some 38, op := Op.binOp BinOp.neq 9 (Operand.tmp 32) (Operand.tmp 37) 9, type := 4, pos := "law.go:246", after := #[{ on := 4, ground := Ground.data }, { on := 9, ground := Ground.data }], guard := none }, { dst := some 39, op := Op.move (Operand.tmp 38), type := 4, pos := "law.go:246", after := #[{ on := 10, ground := Ground.data }], guard := none }, { dst := some 40, op := Op.move (Operand.tmp 6), type := 37, pos := "law.go:246", after := #[{ on := 11, ground := Ground.guard }], guard := some (11, false) }, { dst := some 41, op := Op.binOp BinOp.eql 37 (Operand.tmp 40) (Operand.const (Value.pointer none)) 37, type := 4, pos := "law.go:246", after := #[{ on := 12, ground := Ground.data }, { on := 11, ground := Ground.guard }], guard := some (11, false) }, { dst := some 42, op := Op.move (Operand.tmp 7), type := 37, pos := "law.go:246", after := #[{ on := 11, ground := Ground.guard }], guard := some (11, false) }, { dst := some 43, op := Op.binOp BinOp.eql 37 (Operand.tmp 42) (Operand.const (Value.pointer none)) 37, type := 4, pos := "law.go:246", after := #[{ on := 14, ground := Ground.data }, { on := 11, ground := Ground.guard }], guard := some (11, false) }, { dst := some 44, op := Op.binOp BinOp.neq 4 (Operand.tmp 41) (Operand.tmp 43) 4, type := 4, pos := "law.go:246", after := #[{ on := 13, ground := Ground.data }, { on := 15, ground := Ground.data }, { on := 11, ground := Ground.guard }], guard := some (11, false) }, { dst := some 45, op := Op.pick (Operand.tmp 39) (Operand.const (Value.bool true)) (Operand.tmp 44), type := 4, pos := "law.go:246", after := #[{ on := 11, ground := Ground.data }, { on := 16, ground := Ground.data }], guard := none }, { dst := some 46, op := Op.move (Operand.tmp 45), type := 4, pos := "law.go:246", after := #[{ on := 17, ground := Ground.data }, { on := 11, ground := Ground.chain }], guard := none }, { dst := some 47, op := Op.move (Operand.tmp 6), type := 37, pos := "law.go:246", after := #[{ on := 18, ground := Ground.guard }], guard := some (18, false) }, { dst := some 48, op := Op.binOp BinOp.neq 37 (Operand.tmp 47) (Operand.const (Value.pointer none)) 37, type := 4, pos := "law.go:246", after := #[{ on := 19, ground := Ground.data }, { on := 18, ground := Ground.guard }], guard := some (18, false) }, { dst := some 49, op := Op.move (Operand.tmp 48), type := 4, pos := "law.go:246", after := #[{ on := 20, ground := Ground.data }, { on := 18, ground := Ground.chain }, { on := 18, ground := Ground.guard }], guard := some (18, false) }, { dst := some 50, op := Op.move (Operand.tmp 6), type := 37, pos := "law.go:246", after := #[{ on := 21, ground := Ground.guard }], guard := some (21, true) }, { dst := some 51, op := Op.nilCheck (Operand.tmp 50), type := 0, pos := "law.go:246", after := #[{ on := 22, ground := Ground.data }, { on := 21, ground := Ground.guard }], guard := some (21, true) }, { dst := some 52, op := Op.load 40 (Operand.tmp 51), type := 40, pos := "law.go:246", after := #[{ on := 23, ground := Ground.data }, { on := 21, ground := Ground.guard }], guard := some (21, true) }, { dst := some 53, op := Op.move (Operand.tmp 7), type := 37, pos := "law.go:246", after := #[{ on := 21, ground := Ground.guard }], guard := some (21, true) }, { dst := some 54, op := Op.nilCheck (Operand.tmp 53), type := 0, pos := "law.go:246", after := #[{ on := 25, ground := Ground.data }, { on := 21, ground := Ground.guard }], guard := some (21, true) }, { dst := some 55, op := Op.load 40 (Operand.tmp 54), type := 40, pos := "law.go:246", after := #[{ on := 26, ground := Ground.data }, { on := 21, ground := Ground.guard }], guard := some (21, true) }, { dst := some 56, op := Op.call { callee := Callee.value (Operand.func 82), args := #[Operand.tmp 52, Operand.tmp 55], argTypes := #[40, 40] }, type := 4, pos := "law.go:246", after := #[{ on := 24, ground := Ground.data }, { on := 27, ground := Ground.data }, { on := 21, ground := Ground.chain }, { on := 21, ground := Ground.guard }], guard := some (21, true) }, { dst := some 57, op := Op.unOp UnOp.not 4 (Operand.tmp 56), type := 4, pos := "law.go:246", after := #[{ on := 28, ground := Ground.data }, { on := 21, ground := Ground.guard }], guard := some (21, true) }, { dst := some 58, op := Op.pick (Operand.tmp 49) (Operand.tmp 57) (Operand.const (Value.bool false)), type := 4, pos := "law.go:246", after := #[{ on := 21, ground := Ground.data }, { on := 29, ground := Ground.data }, { on := 18, ground := Ground.guard }], guard := some (18, false) }, { dst := some 59, op := Op.pick (Operand.tmp 46) (Operand.const (Value.bool true)) (Operand.tmp 58), type := 4, pos := "law.go:246", after := #[{ on := 18, ground := Ground.data }, { on := 30, ground := Ground.data }], guard := none }] true).wp Tryd.prog Q a0 W := by
  refine start_ (n := 32) (S := fun w' => True) (ds := []) #[false, false, false, false, false, false, false, false, false, false, false, false, false, false, false, false, false, false, false, false, false, false, false, false, false, false, false, false, false, false, false, false] (by kernel_rfl) rfl rfl trivial (fun hHeld => ?_)
  refine with_tabW as47d.tab as47d.bits (fun HT_ HW_ => ?_)
  refine inv_at [0, 1, 2, 3, 4, 5, 6, 7, 8, 9, 10, 11, 12, 13, 14, 15, 16, 17, 18, 19, 20, 21, 22, 23, 24, 25, 26, 27, 28, 29, 30, 31] (fun a0_ b a w' => a = putSel a0_ b [(0, 28, .slice (some ⟨b1, o1, none⟩) n ca), (1, 29, .int .i64 (i : Int)), (2, 30, .pointer (some ⟨b1, o1 + i * 2, none⟩)), (3, 31, .pointer (some ⟨b1, o1 + i * 2, none⟩)), (4, 32, .string t1), (5, 33, .slice (some ⟨b2, o2, none⟩) n cb), (6, 34, .int .i64 (i : Int)), (7, 35, .pointer (some ⟨b2, o2 + i * 2, none⟩)), (8, 36, .pointer (some ⟨b2, o2 + i * 2, none⟩)), (9, 37, .string t2), (10, 38, .bool false), (11, 39, .bool false), (12, 40, .pointer (some ⟨b3, o3, none⟩)), (13, 41, .bool false), (14, 42, .pointer (some ⟨b4, o4, none⟩)), (15, 43, .bool false), (16, 44, .bool false), (17, 45, .bool false), (18, 46, .bool false), (19, 47, .pointer (some ⟨b3, o3, none⟩)), (20, 48, .bool true), (21, 49, .bool true), (22, 50, .pointer (some ⟨b3, o3, none⟩)), (23, 51, .pointer (some ⟨b3, o3, none⟩)), (24, 52, .agg #[.int .i64 y1.kind, .string y1.text, .string y1.name, .string y1.attr, .slice j1.A y1.na j1.ca, .pointer j1.P, .slice j1.V y1.nv j1.cv]), (25, 53, .pointer (some ⟨b4, o4, none⟩)), (26, 54, .pointer (some ⟨b4, o4, none⟩)), (27, 55, .agg #[.int .i64 y2.kind, .string y2.text, .string y2.name, .string y2.attr, .slice j2.A y2.na j2.ca, .pointer j2.P, .slice j2.V y2.nv j2.cv]), (28, 56, .bool s), (29, 57, .bool (!s)), (30, 58, .bool (!s)), (31, 59, .bool (!s))] ∧ (Below w0.heap.size w0 w')) HT_.out HW_.out (by kernel_rfl) (by kernel_rfl) ?_ ?_ ?_
  · exact ⟨(by simp only [putSel, Bool.false_eq_true, if_false]), hI⟩
  · clear hI hend hHeld
    refine steps_cons ?_ ?_
    · rintro b a w' ⟨ha, hI⟩ hb_ hon hoff
      refine ⟨_, rfl, fun K hK => ?_⟩
      have e0 : a.tmps[0]? = some (.slice (some ⟨b1, o1, none⟩) n ca) := by rw [ha]; exact (putSel_off rfl).trans s0
      replace ha := Aside0.mk ha
      refine value_ (w1 := w') (v := .slice (some ⟨b1, o1, none⟩) n ca) (by rfl) rfl ?_ ?_
      · go_simp; try rfl
        all_goals (try (simp only [IntKind.wrap_i64]; omega))
      exact hK.out _ _ ⟨(by rw [ha.out]; exact putSel_upk 0 hb_ rfl rfl rfl), hI⟩
    refine steps_cons ?_ ?_
    · rintro b a w' ⟨ha, hI⟩ hb_ hon hoff
      refine ⟨_, rfl, fun K hK => ?_⟩
      have e5 : a.tmps[5]? = some (.int .i64 (i : Int)) := by rw [ha]; exact (putSel_off rfl).trans s5
      replace ha := Aside0.mk ha
      refine value_ (w1 := w') (v := .int .i64 (i : Int)) (by rfl) rfl ?_ ?_
      · go_simp; try rfl
        all_goals (try (simp only [IntKind.wrap_i64]; omega))
      exact hK.out _ _ ⟨(by rw [ha.out]; exact putSel_upk 1 hb_ rfl rfl rfl), hI⟩
    refine steps_cons ?_ ?_
    · rintro b a w' ⟨ha, hI⟩ hb_ hon hoff
      refine ⟨_, rfl, fun K hK => ?_⟩
      have e28 : a.tmps[28]? = some (.slice (some ⟨b1, o1, none⟩) n ca) := by rw [ha]; exact putSel_on (e := (0, 28, .slice (some ⟨b1, o1, none⟩) n ca)) 0 rfl rfl (hon 0 (by kernel_rfl)) (by rw [hsz]; rfl)
      have e29 : a.tmps[29]? = some (.int .i64 (i : Int)) := by rw [ha]; exact putSel_on (e := (1, 29, .int .i64 (i : Int))) 1 rfl rfl (hon 1 (by kernel_rfl)) (by rw [hsz]; rfl)
      replace ha := Aside0.mk ha
      refine value_ (w1 := w') (v := .pointer (some ⟨b1, o1 + i * 2, none⟩)) (by rfl) rfl ?_ ?_
      · go_simp; try rfl
        all_goals (try (simp only [IntKind.wrap_i64]; omega))
      exact hK.out _ _ ⟨(by rw [ha.out]; exact putSel_upk 2 hb_ rfl rfl rfl), hI⟩
    refine steps_cons ?_ ?_
    · rintro b a w' ⟨ha, hI⟩ hb_ hon hoff
      refine ⟨_, rfl, fun K hK => ?_⟩
      have e30 : a.tmps[30]? = some (.pointer (some ⟨b1, o1 + i * 2, none⟩)) := by rw [ha]; exact putSel_on (e := (2, 30, .pointer (some ⟨b1, o1 + i * 2, none⟩))) 2 rfl rfl (hon 2 (by kernel_rfl)) (by rw [hsz]; rfl)
      replace ha := Aside0.mk ha
      refine value_ (w1 := w') (v := .pointer (some ⟨b1, o1 + i * 2, none⟩)) (by rfl) rfl ?_ ?_
      · go_simp; try rfl
        all_goals (try (simp only [IntKind.wrap_i64]; omega))
      exact hK.out _ _ ⟨(by rw [ha.out]; exact putSel_upk 3 hb_ rfl rfl rfl), hI⟩
    refine steps_cons ?_ ?_
    · rintro b a w' ⟨ha, hI⟩ hb_ hon hoff
      refine ⟨_, rfl, fun K hK => ?_⟩
      have e31 : a.tmps[31]? = some (.pointer (some ⟨b1, o1 + i * 2, none⟩)) := by rw [ha]; exact putSel_on (e := (3, 31, .pointer (some ⟨b1, o1 + i * 2, none⟩))) 3 rfl rfl (hon 3 (by kernel_rfl)) (by rw [hsz]; rfl)
      replace ha := Aside0.mk ha
      have m0 := Kept.of hI _ _ _ d10
      refine value_ (w1 := w') (v := .string t1) (by rfl) rfl ?_ ?_
      · go_simp; try rfl
        all_goals (try (simp only [IntKind.wrap_i64]; omega))
      exact hK.out _ _ ⟨(by rw [ha.out]; exact putSel_upk 4 hb_ rfl rfl rfl), hI⟩
    refine steps_cons ?_ ?_
    · rintro b a w' ⟨ha, hI⟩ hb_ hon hoff
      refine ⟨_, rfl, fun K hK => ?_⟩
      have e1 : a.tmps[1]? = some (.slice (some ⟨b2, o2, none⟩) n cb) := by rw [ha]; exact (putSel_off rfl).trans s1
      replace ha := Aside0.mk ha
      refine value_ (w1 := w') (v := .slice (some ⟨b2, o2, none⟩) n cb) (by rfl) rfl ?_ ?_
      · go_simp; try rfl
        all_goals (try (simp only [IntKind.wrap_i64]; omega))
      exact hK.out _ _ ⟨(by rw [ha.out]; exact putSel_upk 5 hb_ rfl rfl rfl), hI⟩
    refine steps_cons ?_ ?_
    · rintro b a w' ⟨ha, hI⟩ hb_ hon hoff
      refine ⟨_, rfl, fun K hK => ?_⟩
      have e5 : a.tmps[5]? = some (.int .i64 (i : Int)) := by rw [ha]; exact (putSel_off rfl).trans s5
      replace ha := Aside0.mk ha
      refine value_ (w1 := w') (v := .int .i64 (i : Int)) (by rfl) rfl ?_ ?_
      · go_simp; try rfl
        all_goals (try (simp only [IntKind.wrap_i64]; omega))
      exact hK.out _ _ ⟨(by rw [ha.out]; exact putSel_upk 6 hb_ rfl rfl rfl), hI⟩
    refine steps_cons ?_ ?_
    · rintro b a w' ⟨ha, hI⟩ hb_ hon hoff
      refine ⟨_, rfl, fun K hK => ?_⟩
      have e33 : a.tmps[33]? = some (.slice (some ⟨b2, o2, none⟩) n cb) := by rw [ha]; exact putSel_on (e := (5, 33, .slice (some ⟨b2, o2, none⟩) n cb)) 5 rfl rfl (hon 5 (by kernel_rfl)) (by rw [hsz]; rfl)
      have e34 : a.tmps[34]? = some (.int .i64 (i : Int)) := by rw [ha]; exact putSel_on (e := (6, 34, .int .i64 (i : Int))) 6 rfl rfl (hon 6 (by kernel_rfl)) (by rw [hsz]; rfl)
      replace ha := Aside0.mk ha
      refine value_ (w1 := w') (v := .pointer (some ⟨b2, o2 + i * 2, none⟩)) (by rfl) rfl ?_ ?_
      · go_simp; try rfl
        all_goals (try (simp only [IntKind.wrap_i64]; omega))
      exact hK.out _ _ ⟨(by rw [ha.out]; exact putSel_upk 7 hb_ rfl rfl rfl), hI⟩
    refine steps_cons ?_ ?_
    · rintro b a w' ⟨ha, hI⟩ hb_ hon hoff
      refine ⟨_, rfl, fun K hK => ?_⟩
      have e35 : a.tmps[35]? = some (.pointer (some ⟨b2, o2 + i * 2, none⟩)) := by rw [ha]; exact putSel_on (e := (7, 35, .pointer (some ⟨b2, o2 + i * 2, none⟩))) 7 rfl rfl (hon 7 (by kernel_rfl)) (by rw [hsz]; rfl)
      replace ha := Aside0.mk ha
      refine value_ (w1 := w') (v := .pointer (some ⟨b2, o2 + i * 2, none⟩)) (by rfl) rfl ?_ ?_
      · go_simp; try rfl
        all_goals (try (simp only [IntKind.wrap_i64]; omega))
      exact hK.out _ _ ⟨(by rw [ha.out]; exact putSel_upk 8 hb_ rfl rfl rfl), hI⟩
    refine steps_cons ?_ ?_
    · rintro b a w' ⟨ha, hI⟩ hb_ hon hoff
      refine ⟨_, rfl, fun K hK => ?_⟩
      have e36 : a.tmps[36]? = some (.pointer (some ⟨b2, o2 + i * 2, none⟩)) := by rw [ha]; exact putSel_on (e := (8, 36, .pointer (some ⟨b2, o2 + i * 2, none⟩))) 8 rfl rfl (hon 8 (by kernel_rfl)) (by rw [hsz]; rfl)
      replace ha := Aside0.mk ha
      have m0 := Kept.of hI _ _ _ d20
      refine value_ (w1 := w') (v := .string t2) (by rfl) rfl ?_ ?_
      · go_simp; try rfl
        all_goals (try (simp only [IntKind.wrap_i64]; omega))
      exact hK.out _ _ ⟨(by rw [ha.out]; exact putSel_upk 9 hb_ rfl rfl rfl), hI⟩
    refine steps_cons ?_ ?_
    · rintro b a w' ⟨ha, hI⟩ hb_ hon hoff
      refine ⟨_, rfl, fun K hK => ?_⟩
      have e32 : a.tmps[32]? = some (.string t1) := by rw [ha]; exact putSel_on (e := (4, 32, .string t1)) 4 rfl rfl (hon 4 (by kernel_rfl)) (by rw [hsz]; rfl)
      have e37 : a.tmps[37]? = some (.string t2) := by rw [ha]; exact putSel_on (e := (9, 37, .string t2)) 9 rfl rfl (hon 9 (by kernel_rfl)) (by rw [hsz]; rfl)
      replace ha := Aside0.mk ha
      refine value_ (w1 := w') (v := .bool false) (by rfl) rfl ?_ ?_
      · go_simp; try rfl
        all_goals (try (simp only [IntKind.wrap_i64]; omega))
      exact hK.out _ _ ⟨(by rw [ha.out]; exact putSel_upk 10 hb_ rfl rfl rfl), hI⟩
    refine steps_cons ?_ ?_
    · rintro b a w' ⟨ha, hI⟩ hb_ hon hoff
      refine ⟨_, rfl, fun K hK => ?_⟩
      have e38 : a.tmps[38]? = some (.bool false) := by rw [ha]; exact putSel_on (e := (10, 38, .bool false)) 10 rfl rfl (hon 10 (by kernel_rfl)) (by rw [hsz]; rfl)
      replace ha := Aside0.mk ha
      refine value_ (w1 := w') (v := .bool false) (by rfl) rfl ?_ ?_
      · go_simp; try rfl
        all_goals (try (simp only [IntKind.wrap_i64]; omega))
      exact hK.out _ _ ⟨(by rw [ha.out]; exact putSel_upk 11 hb_ rfl rfl rfl), hI⟩
    refine steps_cons ?_ ?_
    · rintro b a w' ⟨ha, hI⟩ hb_ hon hoff
      refine ⟨_, rfl, fun K hK => ?_⟩
      have e6 : a.tmps[6]? = some (.pointer (some ⟨b3, o3, none⟩)) := by rw [ha]; exact (putSel_off rfl).trans s6
      have e39 : a.tmps[39]? = some (.bool false) := by rw [ha]; exact putSel_on (e := (11, 39, .bool false)) 11 rfl rfl (hon 11 (by kernel_rfl)) (by rw [hsz]; rfl)
      replace ha := Aside0.mk ha
      refine value_ (w1 := w') (v := .pointer (some ⟨b3, o3, none⟩)) (wanted_on rfl rfl rfl e39) rfl ?_ ?_
      · go_simp; try rfl
        all_goals (try (simp only [IntKind.wrap_i64]; omega))
      exact hK.out _ _ ⟨(by rw [ha.out]; exact putSel_upk 12 hb_ rfl rfl rfl), hI⟩
    refine steps_cons ?_ ?_
    · rintro b a w' ⟨ha, hI⟩ hb_ hon hoff
      refine ⟨_, rfl, fun K hK => ?_⟩
      have e40 : a.tmps[40]? = some (.pointer (some ⟨b3, o3, none⟩)) := by rw [ha]; exact putSel_on (e := (12, 40, .pointer (some ⟨b3, o3, none⟩))) 12 rfl rfl (hon 12 (by kernel_rfl)) (by rw [hsz]; rfl)
      have e39 : a.tmps[39]? = some (.bool false) := by rw [ha]; exact putSel_on (e := (11, 39, .bool false)) 11 rfl rfl (hon 11 (by kernel_rfl)) (by rw [hsz]; rfl)
      replace ha := Aside0.mk ha
      refine value_ (w1 := w') (v := .bool false) (wanted_on rfl rfl rfl e39) rfl ?_ ?_
      · go_simp; try rfl
        all_goals (try (simp only [IntKind.wrap_i64]; omega))
      exact hK.out _ _ ⟨(by rw [ha.out]; exact putSel_upk 13 hb_ rfl rfl rfl), hI⟩
    refine steps_cons ?_ ?_
    · rintro b a w' ⟨ha, hI⟩ hb_ hon hoff
      refine ⟨_, rfl, fun K hK => ?_⟩
      have e7 : a.tmps[7]? = some (.pointer (some ⟨b4, o4, none⟩)) := by rw [ha]; exact (putSel_off rfl).trans s7
      have e39 : a.tmps[39]? = some (.bool false) := by rw [ha]; exact putSel_on (e := (11, 39, .bool false)) 11 rfl rfl (hon 11 (by kernel_rfl)) (by rw [hsz]; rfl)
      replace ha := Aside0.mk ha
      refine value_ (w1 := w') (v := .pointer (some ⟨b4, o4, none⟩)) (wanted_on rfl rfl rfl e39) rfl ?_ ?_
      · go_simp; try rfl
        all_goals (try (simp only [IntKind.wrap_i64]; omega))
      exact hK.out _ _ ⟨(by rw [ha.out]; exact putSel_upk 14 hb_ rfl rfl rfl), hI⟩
    refine steps_cons ?_ ?_
    · rintro b a w' ⟨ha, hI⟩ hb_ hon hoff
      refine ⟨_, rfl, fun K hK => ?_⟩
      have e42 : a.tmps[42]? = some (.pointer (some ⟨b4, o4, none⟩)) := by rw [ha]; exact putSel_on (e := (14, 42, .pointer (some ⟨b4, o4, none⟩))) 14 rfl rfl (hon 14 (by kernel_rfl)) (by rw [hsz]; rfl)
      have e39 : a.tmps[39]? = some (.bool false) := by rw [ha]; exact putSel_on (e := (11, 39, .bool false)) 11 rfl rfl (hon 11 (by kernel_rfl)) (by rw [hsz]; rfl)
      replace ha := Aside0.mk ha
      refine value_ (w1 := w') (v := .bool false) (wanted_on rfl rfl rfl e39) rfl ?_ ?_
      · go_simp; try rfl
        all_goals (try (simp only [IntKind.wrap_i64]; omega))
      exact hK.out _ _ ⟨(by rw [ha.out]; exact putSel_upk 15 hb_ rfl rfl rfl), hI⟩
    refine steps_cons ?_ ?_
    · rintro b a w' ⟨ha, hI⟩ hb_ hon hoff
      refine ⟨_, rfl, fun K hK => ?_⟩
      have e41 : a.tmps[41]? = some (.bool false) := by rw [ha]; exact putSel_on (e := (13, 41, .bool false)) 13 rfl rfl (hon 13 (by kernel_rfl)) (by rw [hsz]; rfl)
      have e43 : a.tmps[43]? = some (.bool false) := by rw [ha]; exact putSel_on (e := (15, 43, .bool false)) 15 rfl rfl (hon 15 (by kernel_rfl)) (by rw [hsz]; rfl)
      have e39 : a.tmps[39]? = some (.bool false) := by rw [ha]; exact putSel_on (e := (11, 39, .bool false)) 11 rfl rfl (hon 11 (by kernel_rfl)) (by rw [hsz]; rfl)
      replace ha := Aside0.mk ha
      refine value_ (w1 := w') (v := .bool false) (wanted_on rfl rfl rfl e39) rfl ?_ ?_
      · go_simp; try rfl
        all_goals (try (simp only [IntKind.wrap_i64]; omega))
      exact hK.out _ _ ⟨(by rw [ha.out]; exact putSel_upk 16 hb_ rfl rfl rfl), hI⟩
    refine steps_cons ?_ ?_
    · rintro b a w' ⟨ha, hI⟩ hb_ hon hoff
      refine ⟨_, rfl, fun K hK => ?_⟩
      have e39 : a.tmps[39]? = some (.bool false) := by rw [ha]; exact putSel_on (e := (11, 39, .bool false)) 11 rfl rfl (hon 11 (by kernel_rfl)) (by rw [hsz]; rfl)
      have e44 : a.tmps[44]? = some (.bool false) := by rw [ha]; exact putSel_on (e := (16, 44, .bool false)) 16 rfl rfl (hon 16 (by kernel_rfl)) (by rw [hsz]; rfl)
      replace ha := Aside0.mk ha
      refine value_ (w1 := w') (v := .bool false) (by rfl) rfl ?_ ?_
      · go_simp; try rfl
        all_goals (try (simp only [IntKind.wrap_i64]; omega))
      exact hK.out _ _ ⟨(by rw [ha.out]; exact putSel_upk 17 hb_ rfl rfl rfl), hI⟩
    refine steps_cons ?_ ?_
    · rintro b a w' ⟨ha, hI⟩ hb_ hon hoff
      refine ⟨_, rfl, fun K hK => ?_⟩
      have e45 : a.tmps[45]? = some (.bool false) := by rw [ha]; exact putSel_on (e := (17, 45, .bool false)) 17 rfl rfl (hon 17 (by kernel_rfl)) (by rw [hsz]; rfl)
      replace ha := Aside0.mk ha
      refine value_ (w1 := w') (v := .bool false) (by rfl) rfl ?_ ?_
      · go_simp; try rfl
        all_goals (try (simp only [IntKind.wrap_i64]; omega))
      exact hK.out _ _ ⟨(by rw [ha.out]; exact putSel_upk 18 hb_ rfl rfl rfl), hI⟩
    refine steps_cons ?_ ?_
    · rintro b a w' ⟨ha, hI⟩ hb_ hon hoff
      refine ⟨_, rfl, fun K hK => ?_⟩
      have e6 : a.tmps[6]? = some (.pointer (some ⟨b3, o3, none⟩)) := by rw [ha]; exact (putSel_off rfl).trans s6
      have e46 : a.tmps[46]? = some (.bool false) := by rw [ha]; exact putSel_on (e := (18, 46, .bool false)) 18 rfl rfl (hon 18 (by kernel_rfl)) (by rw [hsz]; rfl)
      replace ha := Aside0.mk ha
      refine value_ (w1 := w') (v := .pointer (some ⟨b3, o3, none⟩)) (wanted_on rfl rfl rfl e46) rfl ?_ ?_
      · go_simp; try rfl
        all_goals (try (simp only [IntKind.wrap_i64]; omega))
      exact hK.out _ _ ⟨(by rw [ha.out]; exact putSel_upk 19 hb_ rfl rfl rfl), hI⟩
    refine steps_cons ?_ ?_
    · rintro b a w' ⟨ha, hI⟩ hb_ hon hoff
      refine ⟨_, rfl, fun K hK => ?_⟩
      have e47 : a.tmps[47]? = some (.pointer (some ⟨b3, o3, none⟩)) := by rw [ha]; exact putSel_on (e := (19, 47, .pointer (some ⟨b3, o3, none⟩))) 19 rfl rfl (hon 19 (by kernel_rfl)) (by rw [hsz]; rfl)
      have e46 : a.tmps[46]? = some (.bool false) := by rw [ha]; exact putSel_on (e := (18, 46, .bool false)) 18 rfl rfl (hon 18 (by kernel_rfl)) (by rw [hsz]; rfl)
      replace ha := Aside0.mk ha
      refine value_ (w1 := w') (v := .bool true) (wanted_on rfl rfl rfl e46) rfl ?_ ?_
      · go_simp; try rfl
        all_goals (try (simp only [IntKind.wrap_i64]; omega))
      exact hK.out _ _ ⟨(by rw [ha.out]; exact putSel_upk 20 hb_ rfl rfl rfl), hI⟩
    refine steps_cons ?_ ?_
    · rintro b a w' ⟨ha, hI⟩ hb_ hon hoff
      refine ⟨_, rfl, fun K hK => ?_⟩
      have e48 : a.tmps[48]? = some (.bool true) := by rw [ha]; exact putSel_on (e := (20, 48, .bool true)) 20 rfl rfl (hon 20 (by kernel_rfl)) (by rw [hsz]; rfl)
      have e46 : a.tmps[46]? = some (.bool false) := by rw [ha]; exact putSel_on (e := (18, 46, .bool false)) 18 rfl rfl (hon 18 (by kernel_rfl)) (by rw [hsz]; rfl)
      replace ha := Aside0.mk ha
      refine value_ (w1 := w') (v := .bool true) (wanted_on rfl rfl rfl e46) rfl ?_ ?_
      · go_simp; try rfl
        all_goals (try (simp only [IntKind.wrap_i64]; omega))
      exact hK.out _ _ ⟨(by rw [ha.out]; exact putSel_upk 21 hb_ rfl rfl rfl), hI⟩
    refine steps_cons ?_ ?_
    · rintro b a w' ⟨ha, hI⟩ hb_ hon hoff
      refine ⟨_, rfl, fun K hK => ?_⟩
      have e6 : a.tmps[6]? = some (.pointer (some ⟨b3, o3, none⟩)) := by rw [ha]; exact (putSel_off rfl).trans s6
      have e49 : a.tmps[49]? = some (.bool true) := by rw [ha]; exact putSel_on (e := (21, 49, .bool true)) 21 rfl rfl (hon 21 (by kernel_rfl)) (by rw [hsz]; rfl)
      replace ha := Aside0.mk ha
      refine value_ (w1 := w') (v := .pointer (some ⟨b3, o3, none⟩)) (wanted_on rfl rfl rfl e49) rfl ?_ ?_
      · go_simp; try rfl
        all_goals (try (simp only [IntKind.wrap_i64]; omega))
      exact hK.out _ _ ⟨(by rw [ha.out]; exact putSel_upk 22 hb_ rfl rfl rfl), hI⟩
    refine steps_cons ?_ ?_
    · rintro b a w' ⟨ha, hI⟩ hb_ hon hoff
      refine ⟨_, rfl, fun K hK => ?_⟩
      have e50 : a.tmps[50]? = some (.pointer (some ⟨b3, o3, none⟩)) := by rw [ha]; exact putSel_on (e := (22, 50, .pointer (some ⟨b3, o3, none⟩))) 22 rfl rfl (hon 22 (by kernel_rfl)) (by rw [hsz]; rfl)
      have e49 : a.tmps[49]? = some (.bool true) := by rw [ha]; exact putSel_on (e := (21, 49, .bool true)) 21 rfl rfl (hon 21 (by kernel_rfl)) (by rw [hsz]; rfl)
      replace ha := Aside0.mk ha
      refine value_ (w1 := w') (v := .pointer (some ⟨b3, o3, none⟩)) (wanted_on rfl rfl rfl e49) rfl ?_ ?_
      · go_simp; try rfl
        all_goals (try (simp only [IntKind.wrap_i64]; omega))
      exact hK.out _ _ ⟨(by rw [ha.out]; exact putSel_upk 23 hb_ rfl rfl rfl), hI⟩
    refine steps_cons ?_ ?_
    · rintro b a w' ⟨ha, hI⟩ hb_ hon hoff
      refine ⟨_, rfl, fun K hK => ?_⟩
      have e51 : a.tmps[51]? = some (.pointer (some ⟨b3, o3, none⟩)) := by rw [ha]; exact putSel_on (e := (23, 51, .pointer (some ⟨b3, o3, none⟩))) 23 rfl rfl (hon 23 (by kernel_rfl)) (by rw [hsz]; rfl)
      have e49 : a.tmps[49]? = some (.bool true) := by rw [ha]; exact putSel_on (e := (21, 49, .bool true)) 21 rfl rfl (hon 21 (by kernel_rfl)) (by rw [hsz]; rfl)
      replace ha := Aside0.mk ha
      have m0 := Kept.of hI _ _ _ E1.c0
      have m1 := Kept.of hI _ _ _ E1.c1
      have m2 := Kept.of hI _ _ _ E1.c2
      have m3 := Kept.of hI _ _ _ E1.c3
      have m4 := Kept.of hI _ _ _ E1.c4
      have m5 := Kept.of hI _ _ _ E1.c5
      have m6 := Kept.of hI _ _ _ E1.c6
      refine value_ (w1 := w') (v := .agg #[.int .i64 y1.kind, .string y1.text, .string y1.name, .string y1.attr, .slice j1.A y1.na j1.ca, .pointer j1.P, .slice j1.V y1.nv j1.cv]) (wanted_on rfl rfl rfl e49) rfl ?_ ?_
      · go_simp; try rfl
        all_goals (try (simp only [IntKind.wrap_i64]; omega))
      exact hK.out _ _ ⟨(by rw [ha.out]; exact putSel_upk 24 hb_ rfl rfl rfl), hI⟩
    refine steps_cons ?_ ?_
    · rintro b a w' ⟨ha, hI⟩ hb_ hon hoff
      refine ⟨_, rfl, fun K hK => ?_⟩
      have e7 : a.tmps[7]? = some (.pointer (some ⟨b4, o4, none⟩)) := by rw [ha]; exact (putSel_off rfl).trans s7
      have e49 : a.tmps[49]? = some (.bool true) := by rw [ha]; exact putSel_on (e := (21, 49, .bool true)) 21 rfl rfl (hon 21 (by kernel_rfl)) (by rw [hsz]; rfl)
      replace ha := Aside0.mk ha
      refine value_ (w1 := w') (v := .pointer (some ⟨b4, o4, none⟩)) (wanted_on rfl rfl rfl e49) rfl ?_ ?_
      · go_simp; try rfl
        all_goals (try (simp only [IntKind.wrap_i64]; omega))
      exact hK.out _ _ ⟨(by rw [ha.out]; exact putSel_upk 25 hb_ rfl rfl rfl), hI⟩
    refine steps_cons ?_ ?_
    · rintro b a w' ⟨ha, hI⟩ hb_ hon hoff
      refine ⟨_, rfl, fun K hK => ?_⟩
      have e53 : a.tmps[53]? = some (.pointer (some ⟨b4, o4, none⟩)) := by rw [ha]; exact putSel_on (e := (25, 53, .pointer (some ⟨b4, o4, none⟩))) 25 rfl rfl (hon 25 (by kernel_rfl)) (by rw [hsz]; rfl)
      have e49 : a.tmps[49]? = some (.bool true) := by rw [ha]; exact putSel_on (e := (21, 49, .bool true)) 21 rfl rfl (hon 21 (by kernel_rfl)) (by rw [hsz]; rfl)
      replace ha := Aside0.mk ha
      refine value_ (w1 := w') (v := .pointer (some ⟨b4, o4, none⟩)) (wanted_on rfl rfl rfl e49) rfl ?_ ?_
      · go_simp; try rfl
        all_goals (try (simp only [IntKind.wrap_i64]; omega))
      exact hK.out _ _ ⟨(by rw [ha.out]; exact putSel_upk 26 hb_ rfl rfl rfl), hI⟩
    refine steps_cons ?_ ?_
    · rintro b a w' ⟨ha, hI⟩ hb_ hon hoff
      refine ⟨_, rfl, fun K hK => ?_⟩
      have e54 : a.tmps[54]? = some (.pointer (some ⟨b4, o4, none⟩)) := by rw [ha]; exact putSel_on (e := (26, 54, .pointer (some ⟨b4, o4, none⟩))) 26 rfl rfl (hon 26 (by kernel_rfl)) (by rw [hsz]; rfl)
      have e49 : a.tmps[49]? = some (.bool true) := by rw [ha]; exact putSel_on (e := (21, 49, .bool true)) 21 rfl rfl (hon 21 (by kernel_rfl)) (by rw [hsz]; rfl)
      replace ha := Aside0.mk ha
      have m0 := Kept.of hI _ _ _ E2.c0
      have m1 := Kept.of hI _ _ _ E2.c1
      have m2 := Kept.of hI _ _ _ E2.c2
      have m3 := Kept.of hI _ _ _ E2.c3
      have m4 := Kept.of hI _ _ _ E2.c4
      have m5 := Kept.of hI _ _ _ E2.c5
      have m6 := Kept.of hI _ _ _ E2.c6
      refine value_ (w1 := w') (v := .agg #[.int .i64 y2.kind, .string y2.text, .string y2.name, .string y2.attr, .slice j2.A y2.na j2.ca, .pointer j2.P, .slice j2.V y2.nv j2.cv]) (wanted_on rfl rfl rfl e49) rfl ?_ ?_
      · go_simp; try rfl
        all_goals (try (simp only [IntKind.wrap_i64]; omega))
      exact hK.out _ _ ⟨(by rw [ha.out]; exact putSel_upk 27 hb_ rfl rfl rfl), hI⟩
    refine steps_cons ?_ ?_
    · rintro b a w' ⟨ha, hI⟩ hb_ hon hoff
      refine ⟨_, rfl, fun K hK => ?_⟩
      have e52 : a.tmps[52]? = some (.agg #[.int .i64 y1.kind, .string y1.text, .string y1.name, .string y1.attr, .slice j1.A y1.na j1.ca, .pointer j1.P, .slice j1.V y1.nv j1.cv]) := by rw [ha]; exact putSel_on (e := (24, 52, .agg #[.int .i64 y1.kind, .string y1.text, .string y1.name, .string y1.attr, .slice j1.A y1.na j1.ca, .pointer j1.P, .slice j1.V y1.nv j1.cv])) 24 rfl rfl (hon 24 (by kernel_rfl)) (by rw [hsz]; rfl)
      have e55 : a.tmps[55]? = some (.agg #[.int .i64 y2.kind, .string y2.text, .string y2.name, .string y2.attr, .slice j2.A y2.na j2.ca, .pointer j2.P, .slice j2.V y2.nv j2.cv]) := by rw [ha]; exact putSel_on (e := (27, 55, .agg #[.int .i64 y2.kind, .string y2.text, .string y2.name, .string y2.attr, .slice j2.A y2.na j2.ca, .pointer j2.P, .slice j2.V y2.nv j2.cv])) 27 rfl rfl (hon 27 (by kernel_rfl)) (by rw [hsz]; rfl)
      have e49 : a.tmps[49]? = some (.bool true) := by rw [ha]; exact putSel_on (e := (21, 49, .bool true)) 21 rfl rfl (hon 21 (by kernel_rfl)) (by rw [hsz]; rfl)
      replace ha := Aside0.mk ha
      refine goes_ Tryd.func82 (by kernel_rfl) rfl #[.agg #[.int .i64 y1.kind, .string y1.text, .string y1.name, .string y1.attr, .slice j1.A y1.na j1.ca, .pointer j1.P, .slice j1.V y1.nv j1.cv], .agg #[.int .i64 y2.kind, .string y2.text, .string y2.name, .string y2.attr, .slice j2.A y2.na j2.ca, .pointer j2.P, .slice j2.V y2.nv j2.cv]] (wanted_on rfl rfl rfl e49) rfl rfl (by first | (simp only [List.map_toArray, List.map_cons, List.map_nil, Act.eval, Array.getD_eq_getD_getElem?, Option.getD_some, e52, e55]; done) | (simp only [List.map_toArray, List.map_cons, List.map_nil, Act.eval, Array.getD_eq_getD_getElem?, Option.getD_some, e52, e55]; rfl)) ?_
      refine (cS w' hI).mono ?_
      rintro e w1 ⟨rfl, b1⟩; have hI1 := below_on hI b1 hI.size
      exact ⟨_, rfl, hK.out _ _ ⟨(by rw [ha.out]; exact putSel_upk 28 hb_ rfl rfl rfl), hI1⟩⟩
    refine steps_cons ?_ ?_
    · rintro b a w' ⟨ha, hI⟩ hb_ hon hoff
      refine ⟨_, rfl, fun K hK => ?_⟩
      have e56 : a.tmps[56]? = some (.bool s) := by rw [ha]; exact putSel_on (e := (28, 56, .bool s)) 28 rfl rfl (hon 28 (by kernel_rfl)) (by rw [hsz]; rfl)
      have e49 : a.tmps[49]? = some (.bool true) := by rw [ha]; exact putSel_on (e := (21, 49, .bool true)) 21 rfl rfl (hon 21 (by kernel_rfl)) (by rw [hsz]; rfl)
      replace ha := Aside0.mk ha
      refine value_ (w1 := w') (v := .bool (!s)) (wanted_on rfl rfl rfl e49) rfl ?_ ?_
      · go_simp; try rfl
        all_goals (try (simp only [IntKind.wrap_i64]; omega))
      exact hK.out _ _ ⟨(by rw [ha.out]; exact putSel_upk 29 hb_ rfl rfl rfl), hI⟩
    refine steps_cons ?_ ?_
    · rintro b a w' ⟨ha, hI⟩ hb_ hon hoff
      refine ⟨_, rfl, fun K hK => ?_⟩
      have e49 : a.tmps[49]? = some (.bool true) := by rw [ha]; exact putSel_on (e := (21, 49, .bool true)) 21 rfl rfl (hon 21 (by kernel_rfl)) (by rw [hsz]; rfl)
      have e57 : a.tmps[57]? = some (.bool (!s)) := by rw [ha]; exact putSel_on (e := (29, 57, .bool (!s))) 29 rfl rfl (hon 29 (by kernel_rfl)) (by rw [hsz]; rfl)
      have e46 : a.tmps[46]? = some (.bool false) := by rw [ha]; exact putSel_on (e := (18, 46, .bool false)) 18 rfl rfl (hon 18 (by kernel_rfl)) (by rw [hsz]; rfl)
      replace ha := Aside0.mk ha
      refine value_ (w1 := w') (v := .bool (!s)) (wanted_on rfl rfl rfl e46) rfl ?_ ?_
      · go_simp; try rfl
        all_goals (try (simp only [IntKind.wrap_i64]; omega))
      exact hK.out _ _ ⟨(by rw [ha.out]; exact putSel_upk 30 hb_ rfl rfl rfl), hI⟩
    refine steps_cons ?_ ?_
    · rintro b a w' ⟨ha, hI⟩ hb_ hon hoff
      refine ⟨_, rfl, fun K hK => ?_⟩
      have e46 : a.tmps[46]? = some (.bool false) := by rw [ha]; exact putSel_on (e := (18, 46, .bool false)) 18 rfl rfl (hon 18 (by kernel_rfl)) (by rw [hsz]; rfl)
      have e58 : a.tmps[58]? = some (.bool (!s)) := by rw [ha]; exact putSel_on (e := (30, 58, .bool (!s))) 30 rfl rfl (hon 30 (by kernel_rfl)) (by rw [hsz]; rfl)
      replace ha := Aside0.mk ha
      refine value_ (w1 := w') (v := .bool (!s)) (by rfl) rfl ?_ ?_
      · go_simp; try rfl
        all_goals (try (simp only [IntKind.wrap_i64]; omega))
      exact hK.out _ _ ⟨(by rw [ha.out]; exact putSel_upk 31 hb_ rfl rfl rfl), hI⟩
    exact steps_nil
  rintro b a w1 hall ⟨ha, hI1⟩
  exact hend a w1 hI1 (by rw [ha]; simp only [putSel, if_true, hall 0 (by kernel_rfl), hall 1 (by kernel_rfl), hall 2 (by kernel_rfl), hall 3 (by kernel_rfl), hall 4 (by kernel_rfl), hall 5 (by kernel_rfl), hall 6 (by kernel_rfl), hall 7 (by kernel_rfl), hall 8 (by kernel_rfl), hall 9 (by kernel_rfl), hall 10 (by kernel_rfl), hall 11 (by kernel_rfl), hall 12 (by kernel_rfl), hall 13 (by kernel_rfl), hall 14 (by kernel_rfl), hall 15 (by kernel_rfl), hall 16 (by kernel_rfl), hall 17 (by kernel_rfl), hall 18 (by kernel_rfl), hall 19 (by kernel_rfl), hall 20 (by kernel_rfl), hall 21 (by kernel_rfl), hall 22 (by kernel_rfl), hall 23 (by kernel_rfl), hall 24 (by kernel_rfl), hall 25 (by kernel_rfl), hall 26 (by kernel_rfl), hall 27 (by kernel_rfl), hall 28 (by kernel_rfl), hall 29 (by kernel_rfl), hall 30 (by kernel_rfl), hall 31 (by kernel_rfl)]) (by rw [ha]; exact (putSel_size b _ a0).2) (by rw [ha]; exact putSel_on (e := (31, 59, .bool (!s))) 31 rfl rfl (hall 31 (by kernel_rfl)) (by rw [hsz]; rfl))
end Go.Proofs.YtipmphgkdomebaaDoor
namespace Go.Proofs.YtipmphgkdomebaaDoor
open Go.RowKit Go.Proofs.YtipmphgkdomebaaDoorW.PrintWords Go.Proofs.YtipmphgkdomebaaDoorW.PrintLast
set_option linter.unusedVariables false
set_option linter.unusedSimpArgs false
def as82xa.T : Bool × List (List Nat × List Nat) := (true, [([], []), ([0], [0]), ([], []), ([1, 2], [1, 2]), ([3], [3]), ([4], [4]), ([], []), ([6], [6]), ([], []), ([7, 8], [7, 8]), ([9], [9]), ([10], [10]), ([5, 11], [5, 11]), ([12], [12]), ([13], [13]), ([14, 13], [13, 14]), ([13], [13]), ([15, 16, 13], [13, 15, 16]), ([17, 13], [13, 17]), ([18, 13], [13, 18]), ([13], [13]), ([20, 13], [13, 20]), ([13], [13]), ([21, 22, 13], [13, 21, 22]), ([23, 13], [13, 23]), ([24, 13], [13, 24]), ([19, 25, 13, 13], [13, 19, 25]), ([26, 13], [13, 26]), ([13, 27], [13, 27])])
def as82xa.B : List Nat := [0, 1, 0, 7, 15, 31, 0, 64, 0, 448, 960, 1984, 4095, 8191, 16383, 32767, 16383, 131071, 262143, 524287, 16383, 1064959, 16383, 7356415, 15745023, 32522239, 67108863, 134217727, 268435455]
theorem as82xa.tab : rtab .any (opsOf Tryd.f82 6) = as82xa.T := by kernel_rfl
theorem as82xa.bits : waitsOk as82xa.T.2 as82xa.B = true := by kernel_rfl
set_option maxRecDepth 100000 in
set_option maxHeartbeats 4000000 in
theorem as82xa (w0 : World) (x1 x2 : EX) (ca1 ca2 cv1 cv2 : Nat) (V1 V2 : Option Addr) (P1 P2 : Option Addr) (t1 t2 : ByteArray) (hq : (t1.toList == t2.toList) = false) (n i b1 o1 b2 o2 : Nat) (n1 : x1.na = n) (n2 : x2.na = n) (q1 : (0 : Int) ≤ (i : Int)) (q2 : (i : Int) < (n : Int)) (d10 : w0.cell? ⟨b1, o1 + i * 8, none⟩ = some (.string t1)) (d20 : w0.cell? ⟨b2, o2 + i * 8, none⟩ = some (.string t2)) (a0 : Act) (s2 : a0.tmps[2]? = some (.pointer (some ⟨w0.heap.size, 0, none⟩))) (s3 : a0.tmps[3]? = some (.pointer (some ⟨w0.heap.size + 1, 0, none⟩))) (s5 : a0.tmps[5]? = some (.int .i64 (i : Int))) (hsz : a0.tmps.size = Tryd.f82.ntmps) (W : World) (hI : ExI w0 x1 x2 (some ⟨b1, o1, none⟩) ca1 P1 V1 cv1 (some ⟨b2, o2, none⟩) ca2 P2 V2 cv2 W.drew) (Q : Exit → Act → World → Prop) (hend : ∀ (a9 : Act) w', ExI w0 x1 x2 (some ⟨b1, o1, none⟩) ca1 P1 V1 cv1 (some ⟨b2, o2, none⟩) ca2 P2 V2 cv2 w' → a9 = putSel a0 (fun _ => true) [(0, 68, .pointer (some ⟨w0.heap.size, 4, none⟩)), (1, 69, .slice (some ⟨b1, o1, none⟩) x1.na ca1), (2, 70, .int .i64 (i : Int)), (3, 71, .pointer (some ⟨b1, o1 + i * 8, none⟩)), (4, 72, .pointer (some ⟨b1, o1 + i * 8, none⟩)), (5, 73, .string t1), (6, 74, .pointer (some ⟨w0.heap.size + 1, 4, none⟩)), (7, 75, .slice (some ⟨b2, o2, none⟩) x2.na ca2), (8, 76, .int .i64 (i : Int)), (9, 77, .pointer (some ⟨b2, o2 + i * 8, none⟩)), (10, 78, .pointer (some ⟨b2, o2 + i * 8, none⟩)), (11, 79, .string t2), (12, 80, .bool true), (13, 81, .bool true), (14, 82, undef), (15, 83, undef), (16, 84, undef), (17, 85, undef), (18, 86, undef), (19, 87, undef), (20, 88, undef), (21, 89, undef), (22, 90, undef), (23, 91, undef), (24, 92, undef), (25, 93, undef), (26, 94, undef), (27, 95, undef), (28, 96, .bool true)] → a9.defers = a0.defers → a9.tmps[96]? = some (.bool true) → Q .normal a9 w') :
    (Code.region 6 #[{ dst := some 68, op := Op.fieldAddr 40 (Operand.tmp 2) 4, type := 0, pos := "law.go:259", after := #[], guard := none }, { dst := some 69, op := Op.load 36 (Operand.tmp 68), type := 36, pos := "law.go:259", after := #[{ on := 0, ground := Ground.data }], guard := none }, { dst := some 70, op := Op.move (Operand.tmp 5), type := 3, pos := "law.go:259", after := #[], guard := none }, { dst := some 71, op := Op.indexAddr 36 (Operand.tmp 69) (Operand.tmp 70), type := 0, pos := "law.go:259", after := #[{ on := 1, ground := Ground.data }, { on := 2, ground := Ground.data }], guard := none }, { dst := some 72, op := Op.fieldAddr 77 (Operand.tmp 71) 0, type := 0, pos := "law.go:259", after := #[{ on := 3, ground := Ground.data }], guard := none }, { dst := some 73, op := Op.load 9 (Operand.tmp 72), type := 9, pos := "law.go:259", after := #[{ on := 4, ground := Ground.data }], guard := none }, { dst := some 74, op := Op.fieldAddr 40 (Operand.tmp 3) 4, type := 0, pos := "law.go:259", after := #[], guard := none }, { dst := some 75, op := Op.load 36 (Operand.tmp 74), type := 36, pos := "law.go:259", after := #[{ on := 6, ground := Ground.data }], guard := none }, { dst := some 76, op := Op.move (Operand.tmp 5), type := 3, pos := "law.go:259", after := #[], guard := none }, { dst := some 77, op := Op.indexAddr 36 (Operand.tmp 75) (Operand.tmp 76), type := 0, pos := "law.go:259", after := #[{ on := 7, ground := Ground.data }, { on := 8, ground := Ground.data }], guard := none }, { dst := some 78, op := Op.fieldAddr 77 (Operand.tmp 77) 0, type := 0, pos := "law.go:259", after := #[{ on := 9, ground := Ground.data }], guard := none }, { dst := some 79, op := Op.load 9 (Operand.tmp 78), type := 9, pos := "law.go:259", after := #[{ on := 10, ground := Ground.data }], guard := none }, { dst := some 80, op := Op.binOp BinOp.neq 9 (Operand.tmp 73) (Operand.tmp 79) 9, type := 4, pos := "law.go:259", after := #[{ on := 5, ground := Ground.data }, { on := 11, ground := Ground.data }], guard := none }, { dst := some 81, op := Op.move (Operand.tmp 80), type := 4, pos := "law.go:259", after := #[{ on := 12, ground := Ground.data }], guard := none }, { dst := some 82, op := Op.fieldAddr 40 (Operand.tmp 2) 4, type := 0, pos := "law.go:259", after := #[{ on := 13, ground := Ground.guard }], guard := some (13, false) }, { dst := some 83, op := Op.load 36 (Operand.tmp 82), type := 36, pos := "law.go:259", after := #[{ on := 14, ground := Ground.data }, { on := 13, ground := Ground.guard }], guard := some (13, false) }, { dst := some 84, op := Op.move (Operand.tmp 5), type := 3, pos := "law.go:259", after := #[{ on := 13, ground := Ground.guard }], guard := some (13, false) }, { dst := some 85, op := Op.indexAddr 36 (Operand.tmp 83) (Operand.tmp 84), type := 0, pos := "law.go:259", after := #[{ on := 15, ground := Ground.data }, { on := 16, ground := Ground.data }, { on := 13, ground := Ground.guard }], guard := some (13, false) }, { dst := some 86, op := Op.fieldAddr 77 (Operand.tmp 85) 1, type := 0, pos := "law.go:259", after := #[{ on := 17, ground := Ground.data }, { on := 13, ground := Ground.guard }], guard := some (13, false) }, { dst := some 87, op := Op.load 40 (Operand.tmp 86), type := 40, pos := "law.go:259", after := #[{ on := 18, ground := Ground.data }, { on := 13, ground := Ground.guard }], guard := some (13, false) }, { dst := some 88, op := Op.fieldAddr 40 (Operand.tmp 3) 4, type := 0, pos := "law.go:259", after := #[{ on := 13, ground := Ground.guard }], guard := some (13, false) }, { dst := some 89, op := Op.load 36 (Operand.tmp 88), type := 36, pos := "law.go:259", after := #[{ on := 20, ground := Ground.data }, { on := 13, ground := Ground.guard }], guard := some (13, false) }, { dst := some 90, op := Op.move (Operand.tmp 5), type := 3, pos := "law.go:259", after := #[{ on := 13, ground := Ground.guard }], guard := some (13, false) }, { dst := some 91, op := Op.indexAddr 36 (Operand.tmp 89) (Operand.tmp 90), type := 0, pos := "law.go:259", after := #[{ on := 21, ground := Ground.data }, { on := 22, ground := Ground.data }, { on := 13, ground := Ground.guard }], guard := some (13, false) }, { dst := some 92, op := Op.fieldAddr 77 (Operand.tmp 91) 1, type := 0, pos := "law.go:259", after := #[{ on := 23, ground := Ground.data }, { on := 13, ground := Ground.guard }], guard := some (13, false) }, { dst := some 93, op := Op.load 40 (Operand.tmp 92), type := 40, pos := "law.go:259", after := #[{ on := 24, ground := Ground.data }, { on := 13, ground := Ground.guard }], guard := some (13, false) }, { dst := some 94, op := Op.call { callee := Callee.value (Operand.func 82), args := #[Operand.tmp 87, Operand.tmp 93], argTypes := #[40, 40] }, type := 4, pos := "law.go:259", after := #[{ on := 19, ground := Ground.data }, { on := 25, ground := Ground.data }, { on := 13, ground := Ground.chain }, { on := 13, ground := Ground.guard }], guard := some (13, false) }, { dst := some 95, op := Op.unOp UnOp.not 4 (Operand.tmp 94), type := 4, pos := "law.go:259", after := #[{ on := 26, ground := Ground.data }, { on := 13, ground := Ground.guard }], guard := some (13, false) }, { dst := some 96, op := Op.pick (Operand.tmp 81) (Operand.const (Value.bool true)) (Operand.tmp 95), type := 4, pos := "law.go:259", after := #[{ on := 13, ground := Ground.data }, { on := 27, ground := Ground.data }], guard := none }] true).wp Tryd.prog Q a0 W := by
  refine start_ (n := 29) (S := fun w' => True) (ds := []) #[false, false, false, false, false, false, false, false, false, false, false, false, false, false, false, false, false, false, false, false, false, false, false, false, false, false, false, false, false] (by kernel_rfl) rfl rfl trivial (fun hHeld => ?_)
  refine with_tabW as82xa.tab as82xa.bits (fun HT_ HW_ => ?_)
  refine inv_at [0, 1, 2, 3, 4, 5, 6, 7, 8, 9, 10, 11, 12, 13, 14, 15, 16, 17, 18, 19, 20, 21, 22, 23, 24, 25, 26, 27, 28] (fun a0_ b a w' => a = putSel a0_ b [(0, 68, .pointer (some ⟨w0.heap.size, 4, none⟩)), (1, 69, .slice (some ⟨b1, o1, none⟩) x1.na ca1), (2, 70, .int .i64 (i : Int)), (3, 71, .pointer (some ⟨b1, o1 + i * 8, none⟩)), (4, 72, .pointer (some ⟨b1, o1 + i * 8, none⟩)), (5, 73, .string t1), (6, 74, .pointer (some ⟨w0.heap.size + 1, 4, none⟩)), (7, 75, .slice (some ⟨b2, o2, none⟩) x2.na ca2), (8, 76, .int .i64 (i : Int)), (9, 77, .pointer (some ⟨b2, o2 + i * 8, none⟩)), (10, 78, .pointer (some ⟨b2, o2 + i * 8, none⟩)), (11, 79, .string t2), (12, 80, .bool true), (13, 81, .bool true), (14, 82, undef), (15, 83, undef), (16, 84, undef), (17, 85, undef), (18, 86, undef), (19, 87, undef), (20, 88, undef), (21, 89, undef), (22, 90, undef), (23, 91, undef), (24, 92, undef), (25, 93, undef), (26, 94, undef), (27, 95, undef), (28, 96, .bool true)] ∧ (ExI w0 x1 x2 (some ⟨b1, o1, none⟩) ca1 P1 V1 cv1 (some ⟨b2, o2, none⟩) ca2 P2 V2 cv2 w')) HT_.out HW_.out (by kernel_rfl) (by kernel_rfl) ?_ ?_ ?_
  · exact ⟨(by simp only [putSel, Bool.false_eq_true, if_false]), hI⟩
  · clear hI hend hHeld
    refine steps_cons ?_ ?_
    · rintro b a w' ⟨ha, hI⟩ hb_ hon hoff
      refine ⟨_, rfl, fun K hK => ?_⟩
      have e2 : a.tmps[2]? = some (.pointer (some ⟨w0.heap.size, 0, none⟩)) := by rw [ha]; exact (putSel_off rfl).trans s2
      replace ha := Aside0.mk ha
      refine value_ (w1 := w') (v := .pointer (some ⟨w0.heap.size, 4, none⟩)) (by rfl) rfl ?_ ?_
      · go_simp; try rfl
        all_goals (try (simp only [IntKind.wrap_i64]; omega))
      exact hK.out _ _ ⟨(by rw [ha.out]; exact putSel_upk 0 hb_ rfl rfl rfl), hI⟩
    refine steps_cons ?_ ?_
    · rintro b a w' ⟨ha, hI⟩ hb_ hon hoff
      refine ⟨_, rfl, fun K hK => ?_⟩
      have e68 : a.tmps[68]? = some (.pointer (some ⟨w0.heap.size, 4, none⟩)) := by rw [ha]; exact putSel_on (e := (0, 68, .pointer (some ⟨w0.heap.size, 4, none⟩))) 0 rfl rfl (hon 0 (by kernel_rfl)) (by rw [hsz]; rfl)
      replace ha := Aside0.mk ha
      have m0 := Own.c hI 1 4 rfl rfl
      refine value_ (w1 := w') (v := .slice (some ⟨b1, o1, none⟩) x1.na ca1) (by rfl) rfl ?_ ?_
      · go_simp; try rfl
        all_goals (try (simp only [IntKind.wrap_i64]; omega))
      exact hK.out _ _ ⟨(by rw [ha.out]; exact putSel_upk 1 hb_ rfl rfl rfl), hI⟩
    refine steps_cons ?_ ?_
    · rintro b a w' ⟨ha, hI⟩ hb_ hon hoff
      refine ⟨_, rfl, fun K hK => ?_⟩
      have e5 : a.tmps[5]? = some (.int .i64 (i : Int)) := by rw [ha]; exact (putSel_off rfl).trans s5
      replace ha := Aside0.mk ha
      refine value_ (w1 := w') (v := .int .i64 (i : Int)) (by rfl) rfl ?_ ?_
      · go_simp; try rfl
        all_goals (try (simp only [IntKind.wrap_i64]; omega))
      exact hK.out _ _ ⟨(by rw [ha.out]; exact putSel_upk 2 hb_ rfl rfl rfl), hI⟩
    refine steps_cons ?_ ?_
    · rintro b a w' ⟨ha, hI⟩ hb_ hon hoff
      refine ⟨_, rfl, fun K hK => ?_⟩
      have e69 : a.tmps[69]? = some (.slice (some ⟨b1, o1, none⟩) x1.na ca1) := by rw [ha]; exact putSel_on (e := (1, 69, .slice (some ⟨b1, o1, none⟩) x1.na ca1)) 1 rfl rfl (hon 1 (by kernel_rfl)) (by rw [hsz]; rfl)
      have e70 : a.tmps[70]? = some (.int .i64 (i : Int)) := by rw [ha]; exact putSel_on (e := (2, 70, .int .i64 (i : Int))) 2 rfl rfl (hon 2 (by kernel_rfl)) (by rw [hsz]; rfl)
      replace ha := Aside0.mk ha
      refine value_ (w1 := w') (v := .pointer (some ⟨b1, o1 + i * 8, none⟩)) (by rfl) rfl ?_ ?_
      · go_simp; try rfl
        all_goals (try (simp only [IntKind.wrap_i64]; omega))
      exact hK.out _ _ ⟨(by rw [ha.out]; exact putSel_upk 3 hb_ rfl rfl rfl), hI⟩
    refine steps_cons ?_ ?_
    · rintro b a w' ⟨ha, hI⟩ hb_ hon hoff
      refine ⟨_, rfl, fun K hK => ?_⟩
      have e71 : a.tmps[71]? = some (.pointer (some ⟨b1, o1 + i * 8, none⟩)) := by rw [ha]; exact putSel_on (e := (3, 71, .pointer (some ⟨b1, o1 + i * 8, none⟩))) 3 rfl rfl (hon 3 (by kernel_rfl)) (by rw [hsz]; rfl)
      replace ha := Aside0.mk ha
      refine value_ (w1 := w') (v := .pointer (some ⟨b1, o1 + i * 8, none⟩)) (by rfl) rfl ?_ ?_
      · go_simp; try rfl
        all_goals (try (simp only [IntKind.wrap_i64]; omega))
      exact hK.out _ _ ⟨(by rw [ha.out]; exact putSel_upk 4 hb_ rfl rfl rfl), hI⟩
    refine steps_cons ?_ ?_
    · rintro b a w' ⟨ha, hI⟩ hb_ hon hoff
      refine ⟨_, rfl, fun K hK => ?_⟩
      have e72 : a.tmps[72]? = some (.pointer (some ⟨b1, o1 + i * 8, none⟩)) := by rw [ha]; exact putSel_on (e := (4, 72, .pointer (some ⟨b1, o1 + i * 8, none⟩))) 4 rfl rfl (hon 4 (by kernel_rfl)) (by rw [hsz]; rfl)
      replace ha := Aside0.mk ha
      have m0 := Kept.of (Own.bel hI) _ _ _ d10
      refine value_ (w1 := w') (v := .string t1) (by rfl) rfl ?_ ?_
      · go_simp; try rfl
        all_goals (try (simp only [IntKind.wrap_i64]; omega))
      exact hK.out _ _ ⟨(by rw [ha.out]; exact putSel_upk 5 hb_ rfl rfl rfl), hI⟩
    refine steps_cons ?_ ?_
    · rintro b a w' ⟨ha, hI⟩ hb_ hon hoff
      refine ⟨_, rfl, fun K hK => ?_⟩
      have e3 : a.tmps[3]? = some (.pointer (some ⟨w0.heap.size + 1, 0, none⟩)) := by rw [ha]; exact (putSel_off rfl).trans s3
      replace ha := Aside0.mk ha
      refine value_ (w1 := w') (v := .pointer (some ⟨w0.heap.size + 1, 4, none⟩)) (by rfl) rfl ?_ ?_
      · go_simp; try rfl
        all_goals (try (simp only [IntKind.wrap_i64]; omega))
      exact hK.out _ _ ⟨(by rw [ha.out]; exact putSel_upk 6 hb_ rfl rfl rfl), hI⟩
    refine steps_cons ?_ ?_
    · rintro b a w' ⟨ha, hI⟩ hb_ hon hoff
      refine ⟨_, rfl, fun K hK => ?_⟩
      have e74 : a.tmps[74]? = some (.pointer (some ⟨w0.heap.size + 1, 4, none⟩)) := by rw [ha]; exact putSel_on (e := (6, 74, .pointer (some ⟨w0.heap.size + 1, 4, none⟩))) 6 rfl rfl (hon 6 (by kernel_rfl)) (by rw [hsz]; rfl)
      replace ha := Aside0.mk ha
      have m0 := Own.c hI 0 4 rfl rfl
      refine value_ (w1 := w') (v := .slice (some ⟨b2, o2, none⟩) x2.na ca2) (by rfl) rfl ?_ ?_
      · go_simp; try rfl
        all_goals (try (simp only [IntKind.wrap_i64]; omega))
      exact hK.out _ _ ⟨(by rw [ha.out]; exact putSel_upk 7 hb_ rfl rfl rfl), hI⟩
    refine steps_cons ?_ ?_
    · rintro b a w' ⟨ha, hI⟩ hb_ hon hoff
      refine ⟨_, rfl, fun K hK => ?_⟩
      have e5 : a.tmps[5]? = some (.int .i64 (i : Int)) := by rw [ha]; exact (putSel_off rfl).trans s5
      replace ha := Aside0.mk ha
      refine value_ (w1 := w') (v := .int .i64 (i : Int)) (by rfl) rfl ?_ ?_
      · go_simp; try rfl
        all_goals (try (simp only [IntKind.wrap_i64]; omega))
      exact hK.out _ _ ⟨(by rw [ha.out]; exact putSel_upk 8 hb_ rfl rfl rfl), hI⟩
    refine steps_cons ?_ ?_
    · rintro b a w' ⟨ha, hI⟩ hb_ hon hoff
      refine ⟨_, rfl, fun K hK => ?_⟩
      have e75 : a.tmps[75]? = some (.slice (some ⟨b2, o2, none⟩) x2.na ca2) := by rw [ha]; exact putSel_on (e := (7, 75, .slice (some ⟨b2, o2, none⟩) x2.na ca2)) 7 rfl rfl (hon 7 (by kernel_rfl)) (by rw [hsz]; rfl)
      have e76 : a.tmps[76]? = some (.int .i64 (i : Int)) := by rw [ha]; exact putSel_on (e := (8, 76, .int .i64 (i : Int))) 8 rfl rfl (hon 8 (by kernel_rfl)) (by rw [hsz]; rfl)
      replace ha := Aside0.mk ha
      refine value_ (w1 := w') (v := .pointer (some ⟨b2, o2 + i * 8, none⟩)) (by rfl) rfl ?_ ?_
      · go_simp; try rfl
        all_goals (try (simp only [IntKind.wrap_i64]; omega))
      exact hK.out _ _ ⟨(by rw [ha.out]; exact putSel_upk 9 hb_ rfl rfl rfl), hI⟩
    refine steps_cons ?_ ?_
    · rintro b a w' ⟨ha, hI⟩ hb_ hon hoff
      refine ⟨_, rfl, fun K hK => ?_⟩
      have e77 : a.tmps[77]? = some (.pointer (some ⟨b2, o2 + i * 8, none⟩)) := by rw [ha]; exact putSel_on (e := (9, 77, .pointer (some ⟨b2, o2 + i * 8, none⟩))) 9 rfl rfl (hon 9 (by kernel_rfl)) (by rw [hsz]; rfl)
      replace ha := Aside0.mk ha
      refine value_ (w1 := w') (v := .pointer (some ⟨b2, o2 + i * 8, none⟩)) (by rfl) rfl ?_ ?_
      · go_simp; try rfl
        all_goals (try (simp only [IntKind.wrap_i64]; omega))
      exact hK.out _ _ ⟨(by rw [ha.out]; exact putSel_upk 10 hb_ rfl rfl rfl), hI⟩
    refine steps_cons ?_ ?_
    · rintro b a w' ⟨ha, hI⟩ hb_ hon hoff
      refine ⟨_, rfl, fun K hK => ?_⟩
      have e78 : a.tmps[78]? = some (.pointer (some ⟨b2, o2 + i * 8, none⟩)) := by rw [ha]; exact putSel_on (e := (10, 78, .pointer (some ⟨b2, o2 + i * 8, none⟩))) 10 rfl rfl (hon 10 (by kernel_rfl)) (by rw [hsz]; rfl)
      replace ha := Aside0.mk ha
      have m0 := Kept.of (Own.bel hI) _ _ _ d20
      refine value_ (w1 := w') (v := .string t2) (by rfl) rfl ?_ ?_
      · go_simp; try rfl
        all_goals (try (simp only [IntKind.wrap_i64]; omega))
      exact hK.out _ _ ⟨(by rw [ha.out]; exact putSel_upk 11 hb_ rfl rfl rfl), hI⟩
    refine steps_cons ?_ ?_
    · rintro b a w' ⟨ha, hI⟩ hb_ hon hoff
      refine ⟨_, rfl, fun K hK => ?_⟩
      have e73 : a.tmps[73]? = some (.string t1) := by rw [ha]; exact putSel_on (e := (5, 73, .string t1)) 5 rfl rfl (hon 5 (by kernel_rfl)) (by rw [hsz]; rfl)
      have e79 : a.tmps[79]? = some (.string t2) := by rw [ha]; exact putSel_on (e := (11, 79, .string t2)) 11 rfl rfl (hon 11 (by kernel_rfl)) (by rw [hsz]; rfl)
      replace ha := Aside0.mk ha
      refine value_ (w1 := w') (v := .bool true) (by rfl) rfl ?_ ?_
      · go_simp; try rfl
        all_goals (try (simp only [IntKind.wrap_i64]; omega))
      exact hK.out _ _ ⟨(by rw [ha.out]; exact putSel_upk 12 hb_ rfl rfl rfl), hI⟩
    refine steps_cons ?_ ?_
    · rintro b a w' ⟨ha, hI⟩ hb_ hon hoff
      refine ⟨_, rfl, fun K hK => ?_⟩
      have e80 : a.tmps[80]? = some (.bool true) := by rw [ha]; exact putSel_on (e := (12, 80, .bool true)) 12 rfl rfl (hon 12 (by kernel_rfl)) (by rw [hsz]; rfl)
      replace ha := Aside0.mk ha
      refine value_ (w1 := w') (v := .bool true) (by rfl) rfl ?_ ?_
      · go_simp; try rfl
        all_goals (try (simp only [IntKind.wrap_i64]; omega))
      exact hK.out _ _ ⟨(by rw [ha.out]; exact putSel_upk 13 hb_ rfl rfl rfl), hI⟩
    refine steps_cons ?_ ?_
    · rintro b a w' ⟨ha, hI⟩ hb_ hon hoff
      refine ⟨_, rfl, fun K hK => ?_⟩
      have e81 : a.tmps[81]? = some (.bool true) := by rw [ha]; exact putSel_on (e := (13, 81, .bool true)) 13 rfl rfl (hon 13 (by kernel_rfl)) (by rw [hsz]; rfl)
      exact off_ (wanted_off rfl rfl rfl e81) (hK.out _ _ ⟨(by rw [ha]; exact putSel_upk 14 hb_ rfl rfl rfl), hI⟩)
    refine steps_cons ?_ ?_
    · rintro b a w' ⟨ha, hI⟩ hb_ hon hoff
      refine ⟨_, rfl, fun K hK => ?_⟩
      have e81 : a.tmps[81]? = some (.bool true) := by rw [ha]; exact putSel_on (e := (13, 81, .bool true)) 13 rfl rfl (hon 13 (by kernel_rfl)) (by rw [hsz]; rfl)
      exact off_ (wanted_off rfl rfl rfl e81) (hK.out _ _ ⟨(by rw [ha]; exact putSel_upk 15 hb_ rfl rfl rfl), hI⟩)
    refine steps_cons ?_ ?_
    · rintro b a w' ⟨ha, hI⟩ hb_ hon hoff
      refine ⟨_, rfl, fun K hK => ?_⟩
      have e81 : a.tmps[81]? = some (.bool true) := by rw [ha]; exact putSel_on (e := (13, 81, .bool true)) 13 rfl rfl (hon 13 (by kernel_rfl)) (by rw [hsz]; rfl)
      exact off_ (wanted_off rfl rfl rfl e81) (hK.out _ _ ⟨(by rw [ha]; exact putSel_upk 16 hb_ rfl rfl rfl), hI⟩)
    refine steps_cons ?_ ?_
    · rintro b a w' ⟨ha, hI⟩ hb_ hon hoff
      refine ⟨_, rfl, fun K hK => ?_⟩
      have e81 : a.tmps[81]? = some (.bool true) := by rw [ha]; exact putSel_on (e := (13, 81, .bool true)) 13 rfl rfl (hon 13 (by kernel_rfl)) (by rw [hsz]; rfl)
      exact off_ (wanted_off rfl rfl rfl e81) (hK.out _ _ ⟨(by rw [ha]; exact putSel_upk 17 hb_ rfl rfl rfl), hI⟩)
    refine steps_cons ?_ ?_
    · rintro b a w' ⟨ha, hI⟩ hb_ hon hoff
      refine ⟨_, rfl, fun K hK => ?_⟩
      have e81 : a.tmps[81]? = some (.bool true) := by rw [ha]; exact putSel_on (e := (13, 81, .bool true)) 13 rfl rfl (hon 13 (by kernel_rfl)) (by rw [hsz]; rfl)
      exact off_ (wanted_off rfl rfl rfl e81) (hK.out _ _ ⟨(by rw [ha]; exact putSel_upk 18 hb_ rfl rfl rfl), hI⟩)
    refine steps_cons ?_ ?_
    · rintro b a w' ⟨ha, hI⟩ hb_ hon hoff
      refine ⟨_, rfl, fun K hK => ?_⟩
      have e81 : a.tmps[81]? = some (.bool true) := by rw [ha]; exact putSel_on (e := (13, 81, .bool true)) 13 rfl rfl (hon 13 (by kernel_rfl)) (by rw [hsz]; rfl)
      exact off_ (wanted_off rfl rfl rfl e81) (hK.out _ _ ⟨(by rw [ha]; exact putSel_upk 19 hb_ rfl rfl rfl), hI⟩)
    refine steps_cons ?_ ?_
    · rintro b a w' ⟨ha, hI⟩ hb_ hon hoff
      refine ⟨_, rfl, fun K hK => ?_⟩
      have e81 : a.tmps[81]? = some (.bool true) := by rw [ha]; exact putSel_on (e := (13, 81, .bool true)) 13 rfl rfl (hon 13 (by kernel_rfl)) (by rw [hsz]; rfl)
      exact off_ (wanted_off rfl rfl rfl e81) (hK.out _ _ ⟨(by rw [ha]; exact putSel_upk 20 hb_ rfl rfl rfl), hI⟩)
    refine steps_cons ?_ ?_
    · rintro b a w' ⟨ha, hI⟩ hb_ hon hoff
      refine ⟨_, rfl, fun K hK => ?_⟩
      have e81 : a.tmps[81]? = some (.bool true) := by rw [ha]; exact putSel_on (e := (13, 81, .bool true)) 13 rfl rfl (hon 13 (by kernel_rfl)) (by rw [hsz]; rfl)
      exact off_ (wanted_off rfl rfl rfl e81) (hK.out _ _ ⟨(by rw [ha]; exact putSel_upk 21 hb_ rfl rfl rfl), hI⟩)
    refine steps_cons ?_ ?_
    · rintro b a w' ⟨ha, hI⟩ hb_ hon hoff
      refine ⟨_, rfl, fun K hK => ?_⟩
      have e81 : a.tmps[81]? = some (.bool true) := by rw [ha]; exact putSel_on (e := (13, 81, .bool true)) 13 rfl rfl (hon 13 (by kernel_rfl)) (by rw [hsz]; rfl)
      exact off_ (wanted_off rfl rfl rfl e81) (hK.out _ _ ⟨(by rw [ha]; exact putSel_upk 22 hb_ rfl rfl rfl), hI⟩)
    refine steps_cons ?_ ?_
    · rintro b a w' ⟨ha, hI⟩ hb_ hon hoff
      refine ⟨_, rfl, fun K hK => ?_⟩
      have e81 : a.tmps[81]? = some (.bool true) := by rw [ha]; exact putSel_on (e := (13, 81, .bool true)) 13 rfl rfl (hon 13 (by kernel_rfl)) (by rw [hsz]; rfl)
      exact off_ (wanted_off rfl rfl rfl e81) (hK.out _ _ ⟨(by rw [ha]; exact putSel_upk 23 hb_ rfl rfl rfl), hI⟩)
    refine steps_cons ?_ ?_
    · rintro b a w' ⟨ha, hI⟩ hb_ hon hoff
      refine ⟨_, rfl, fun K hK => ?_⟩
      have e81 : a.tmps[81]? = some (.bool true) := by rw [ha]; exact putSel_on (e := (13, 81, .bool true)) 13 rfl rfl (hon 13 (by kernel_rfl)) (by rw [hsz]; rfl)
      exact off_ (wanted_off rfl rfl rfl e81) (hK.out _ _ ⟨(by rw [ha]; exact putSel_upk 24 hb_ rfl rfl rfl), hI⟩)
    refine steps_cons ?_ ?_
    · rintro b a w' ⟨ha, hI⟩ hb_ hon hoff
      refine ⟨_, rfl, fun K hK => ?_⟩
      have e81 : a.tmps[81]? = some (.bool true) := by rw [ha]; exact putSel_on (e := (13, 81, .bool true)) 13 rfl rfl (hon 13 (by kernel_rfl)) (by rw [hsz]; rfl)
      exact off_ (wanted_off rfl rfl rfl e81) (hK.out _ _ ⟨(by rw [ha]; exact putSel_upk 25 hb_ rfl rfl rfl), hI⟩)
    refine steps_cons ?_ ?_
    · rintro b a w' ⟨ha, hI⟩ hb_ hon hoff
      refine ⟨_, rfl, fun K hK => ?_⟩
      have e81 : a.tmps[81]? = some (.bool true) := by rw [ha]; exact putSel_on (e := (13, 81, .bool true)) 13 rfl rfl (hon 13 (by kernel_rfl)) (by rw [hsz]; rfl)
      exact off_ (wanted_off rfl rfl rfl e81) (hK.out _ _ ⟨(by rw [ha]; exact putSel_upk 26 hb_ rfl rfl rfl), hI⟩)
    refine steps_cons ?_ ?_
    · rintro b a w' ⟨ha, hI⟩ hb_ hon hoff
      refine ⟨_, rfl, fun K hK => ?_⟩
      have e81 : a.tmps[81]? = some (.bool true) := by rw [ha]; exact putSel_on (e := (13, 81, .bool true)) 13 rfl rfl (hon 13 (by kernel_rfl)) (by rw [hsz]; rfl)
      exact off_ (wanted_off rfl rfl rfl e81) (hK.out _ _ ⟨(by rw [ha]; exact putSel_upk 27 hb_ rfl rfl rfl), hI⟩)
    refine steps_cons ?_ ?_
    · rintro b a w' ⟨ha, hI⟩ hb_ hon hoff
      refine ⟨_, rfl, fun K hK => ?_⟩
      have e81 : a.tmps[81]? = some (.bool true) := by rw [ha]; exact putSel_on (e := (13, 81, .bool true)) 13 rfl rfl (hon 13 (by kernel_rfl)) (by rw [hsz]; rfl)
      have e95 : a.tmps[95]? = some (undef) := by rw [ha]; exact putSel_on (e := (27, 95, undef)) 27 rfl rfl (hon 27 (by kernel_rfl)) (by rw [hsz]; rfl)
      replace ha := Aside0.mk ha
      refine value_ (w1 := w') (v := .bool true) (by rfl) rfl ?_ ?_
      · go_simp; try rfl
        all_goals (try (simp only [IntKind.wrap_i64]; omega))
      exact hK.out _ _ ⟨(by rw [ha.out]; exact putSel_upk 28 hb_ rfl rfl rfl), hI⟩
    exact steps_nil
  rintro b a w1 hall ⟨ha, hI1⟩
  exact hend a w1 hI1 (by rw [ha]; simp only [putSel, if_true, hall 0 (by kernel_rfl), hall 1 (by kernel_rfl), hall 2 (by kernel_rfl), hall 3 (by kernel_rfl), hall 4 (by kernel_rfl), hall 5 (by kernel_rfl), hall 6 (by kernel_rfl), hall 7 (by kernel_rfl), hall 8 (by kernel_rfl), hall 9 (by kernel_rfl), hall 10 (by kernel_rfl), hall 11 (by kernel_rfl), hall 12 (by kernel_rfl), hall 13 (by kernel_rfl), hall 14 (by kernel_rfl), hall 15 (by kernel_rfl), hall 16 (by kernel_rfl), hall 17 (by kernel_rfl), hall 18 (by kernel_rfl), hall 19 (by kernel_rfl), hall 20 (by kernel_rfl), hall 21 (by kernel_rfl), hall 22 (by kernel_rfl), hall 23 (by kernel_rfl), hall 24 (by kernel_rfl), hall 25 (by kernel_rfl), hall 26 (by kernel_rfl), hall 27 (by kernel_rfl), hall 28 (by kernel_rfl)]) (by rw [ha]; exact (putSel_size b _ a0).2) (by rw [ha]; exact putSel_on (e := (28, 96, .bool true)) 28 rfl rfl (hall 28 (by kernel_rfl)) (by rw [hsz]; rfl))
end Go.Proofs.YtipmphgkdomebaaDoor
namespace Go.Proofs.YtipmphgkdomebaaDoor
open Go.RowKit Go.Proofs.YtipmphgkdomebaaDoorW.PrintWords Go.Proofs.YtipmphgkdomebaaDoorW.PrintLast
set_option linter.unusedVariables false
set_option linter.unusedSimpArgs false
def as82xd.T : Bool × List (List Nat × List Nat) := (true, [([], []), ([0], [0]), ([], []), ([1, 2], [1, 2]), ([3], [3]), ([4], [4]), ([], []), ([6], [6]), ([], []), ([7, 8], [7, 8]), ([9], [9]), ([10], [10]), ([5, 11], [5, 11]), ([12], [12]), ([13], [13]), ([14, 13], [13, 14]), ([13], [13]), ([15, 16, 13], [13, 15, 16]), ([17, 13], [13, 17]), ([18, 13], [13, 18]), ([13], [13]), ([20, 13], [13, 20]), ([13], [13]), ([21, 22, 13], [13, 21, 22]), ([23, 13], [13, 23]), ([24, 13], [13, 24]), ([19, 25, 13, 13], [13, 19, 25]), ([26, 13], [13, 26]), ([13, 27], [13, 27])])
def as82xd.B : List Nat := [0, 1, 0, 7, 15, 31, 0, 64, 0, 448, 960, 1984, 4095, 8191, 16383, 32767, 16383, 131071, 262143, 524287, 16383, 1064959, 16383, 7356415, 15745023, 32522239, 67108863, 134217727, 268435455]
theorem as82xd.tab : rtab .any (opsOf Tryd.f82 6) = as82xd.T := by kernel_rfl
theorem as82xd.bits : waitsOk as82xd.T.2 as82xd.B = true := by kernel_rfl
set_option maxRecDepth 100000 in
set_option maxHeartbeats 4000000 in
theorem as82xd (w0 : World) (x1 x2 : EX) (ca1 ca2 cv1 cv2 : Nat) (V1 V2 : Option Addr) (P1 P2 : Option Addr) (t1 t2 : ByteArray) (hq : (t1.toList == t2.toList) = true) (n i b1 o1 b2 o2 : Nat) (n1 : x1.na = n) (n2 : x2.na = n) (q1 : (0 : Int) ≤ (i : Int)) (q2 : (i : Int) < (n : Int)) (d10 : w0.cell? ⟨b1, o1 + i * 8, none⟩ = some (.string t1)) (d20 : w0.cell? ⟨b2, o2 + i * 8, none⟩ = some (.string t2)) (y1 y2 : EX) (j1 j2 : Tri) (E1 : ExAt w0 ⟨b1, o1 + i * 8 + 1, none⟩ y1 j1) (E2 : ExAt w0 ⟨b2, o2 + i * 8 + 1, none⟩ y2 j2) (s : Bool) (cS : ∀ W, Below w0.heap.size w0 W → Calls Tryd.prog 82 #[.agg #[.int .i64 y1.kind, .string y1.text, .string y1.name, .string y1.attr, .slice j1.A y1.na j1.ca, .pointer j1.P, .slice j1.V y1.nv j1.cv], .agg #[.int .i64 y2.kind, .string y2.text, .string y2.name, .string y2.attr, .slice j2.A y2.na j2.ca, .pointer j2.P, .slice j2.V y2.nv j2.cv]] W fun e w' => e = .returned (.bool s) ∧ Below W.heap.size W w') (a0 : Act) (s2 : a0.tmps[2]? = some (.pointer (some ⟨w0.heap.size, 0, none⟩))) (s3 : a0.tmps[3]? = some (.pointer (some ⟨w0.heap.size + 1, 0, none⟩))) (s5 : a0.tmps[5]? = some (.int .i64 (i : Int))) (hsz : a0.tmps.size = Tryd.f82.ntmps) (W : World) (hI : ExI w0 x1 x2 (some ⟨b1, o1, none⟩) ca1 P1 V1 cv1 (some ⟨b2, o2, none⟩) ca2 P2 V2 cv2 W.drew) (Q : Exit → Act → World → Prop) (hend : ∀ (a9 : Act) w', ExI w0 x1 x2 (some ⟨b1, o1, none⟩) ca1 P1 V1 cv1 (some ⟨b2, o2, none⟩) ca2 P2 V2 cv2 w' → a9 = putSel a0 (fun _ => true) [(0, 68, .pointer (some ⟨w0.heap.size, 4, none⟩)), (1, 69, .slice (some ⟨b1, o1, none⟩) x1.na ca1), (2, 70, .int .i64 (i : Int)), (3, 71, .pointer (some ⟨b1, o1 + i * 8, none⟩)), (4, 72, .pointer (some ⟨b1, o1 + i * 8, none⟩)), (5, 73, .string t1), (6, 74, .pointer (some ⟨w0.heap.size + 1, 4, none⟩)), (7, 75, .slice (some ⟨b2, o2, none⟩) x2.na ca2), (8, 76, .int .i64 (i : Int)), (9, 77, .pointer (some ⟨b2, o2 + i * 8, none⟩)), (10, 78, .pointer (some ⟨b2, o2 + i * 8, none⟩)), (11, 79, .string t2), (12, 80, .bool false), (13, 81, .bool false), (14, 82, .pointer (some ⟨w0.heap.size, 4, none⟩)), (15, 83, .slice (some ⟨b1, o1, none⟩) x1.na ca1), (16, 84, .int .i64 (i : Int)), (17, 85, .pointer (some ⟨b1, o1 + i * 8, none⟩)), (18, 86, .pointer (some ⟨b1, o1 + i * 8 + 1, none⟩)), (19, 87, .agg #[.int .i64 y1.kind, .string y1.text, .string y1.name, .string y1.attr, .slice j1.A y1.na j1.ca, .pointer j1.P, .slice j1.V y1.nv j1.cv]), (20, 88, .pointer (some ⟨w0.heap.size + 1, 4, none⟩)), (21, 89, .slice (some ⟨b2, o2, none⟩) x2.na ca2), (22, 90, .int .i64 (i : Int)), (23, 91, .pointer (some ⟨b2, o2 + i * 8, none⟩)), (24, 92, .pointer (some ⟨b2, o2 + i * 8 + 1, none⟩)), (25, 93, .agg #[.int .i64 y2.kind, .string y2.text, .string y2.name, .string y2.attr, .slice j2.A y2.na j2.ca, .pointer j2.P, .slice j2.V y2.nv j2.cv]), (26, 94, .bool s), (27, 95, .bool (!s)), (28, 96, .bool (!s))] → a9.defers = a0.defers → a9.tmps[96]? = some (.bool (!s)) → Q .normal a9 w') :
    (Code.region 6 #[{ dst := some 68, op := Op.fieldAddr 40 (Operand.tmp 2) 4, type := 0, pos := "law.go:259", after := #[], guard := none }, { dst := some 69, op := Op.load 36 (Operand.tmp 68), type := 36, pos := "law.go:259", after := #[{ on := 0, ground := Ground.data }], guard := none }, { dst := some 70, op := Op.move (Operand.tmp 5), type := 3, pos := "law.go:259", after := #[], guard := none }, { dst := some 71, op := Op.indexAddr 36 (Operand.tmp 69) (Operand.tmp 70), type := 0, pos := "law.go:259", after := #[{ on := 1, ground := Ground.data }, { on := 2, ground := Ground.data }], guard := none }, { dst := some 72, op := Op.fieldAddr 77 (Operand.tmp 71) 0, type := 0, pos := "law.go:259", after := #[{ on := 3, ground := Ground.data }], guard := none }, { dst := some 73, op := Op.load 9 (Operand.tmp 72), type := 9, pos := "law.go:259", after := #[{ on := 4, ground := Ground.data }], guard := none }, { dst := some 74, op := Op.fieldAddr 40 (Operand.tmp 3) 4, type := 0, pos := "law.go:259", after := #[], guard := none }, { dst := some 75, op := Op.load 36 (Operand.tmp 74), type := 36, pos := "law.go:259", after := #[{ on := 6, ground := Ground.data }], guard := none }, { dst := some 76, op := Op.move (Operand.tmp 5), type := 3, pos := "law.go:259", after := #[], guard := none }, { dst := some 77, op := Op.indexAddr 36 (Operand.tmp 75) (Operand.tmp 76), type := 0, pos := "law.go:259", after := #[{ on := 7, ground := Ground.data }, { on := 8, ground := Ground.data }], guard := none }, { dst := some 78, op := Op.fieldAddr 77 (Operand.tmp 77) 0, type := 0, pos := "law.go:259", after := #[{ on := 9, ground := Ground.data }], guard := none }, { dst := some 79, op := Op.load 9 (Operand.tmp 78), type := 9, pos := "law.go:259", after := #[{ on := 10, ground := Ground.data }], guard := none }, { dst := some 80, op := Op.binOp BinOp.neq 9 (Operand.tmp 73) (Operand.tmp 79) 9, type := 4, pos := "law.go:259", after := #[{ on := 5, ground := Ground.data }, { on := 11, ground := Ground.data }], guard := none }, { dst := some 81, op := Op.move (Operand.tmp 80), type := 4, pos := "law.go:259", after := #[{ on := 12, ground := Ground.data }], guard := none }, { dst := some 82, op := Op.fieldAddr 40 (Operand.tmp 2) 4, type := 0, pos := "law.go:259", after := #[{ on := 13, ground := Ground.guard }], guard := some (13, false) }, { dst := some 83, op := Op.load 36 (Operand.tmp 82), type := 36, pos := "law.go:259", after := #[{ on := 14, ground := Ground.data }, { on := 13, ground := Ground.guard }], guard := some (13, false) }, { dst := some 84, op := Op.move (Operand.tmp 5), type := 3, pos := "law.go:259", after := #[{ on := 13, ground := Ground.guard }], guard := some (13, false) }, { dst := some 85, op := Op.indexAddr 36 (Operand.tmp 83) (Operand.tmp 84), type := 0, pos := "law.go:259", after := #[{ on := 15, ground := Ground.data }, { on := 16, ground := Ground.data }, { on := 13, ground := Ground.guard }], guard := some (13, false) }, { dst := some 86, op := Op.fieldAddr 77 (Operand.tmp 85) 1, type := 0, pos := "law.go:259", after := #[{ on := 17, ground := Ground.data }, { on := 13, ground := Ground.guard }], guard := some (13, false) }, { dst := some 87, op := Op.load 40 (Operand.tmp 86), type := 40, pos := "law.go:259", after := #[{ on := 18, ground := Ground.data }, { on := 13, ground := Ground.guard }], guard := some (13, false) }, { dst := some 88, op := Op.fieldAddr 40 (Operand.tmp 3) 4, type := 0, pos := "law.go:259", after := #[{ on := 13, ground := Ground.guard }], guard := some (13, false) }, { dst := some 89, op := Op.load 36 (Operand.tmp 88), type := 36, pos := "law.go:259", after := #[{ on := 20, ground := Ground.data }, { on := 13, ground := Ground.guard }], guard := some (13, false) }, { dst := some 90, op := Op.move (Operand.tmp 5), type := 3, pos := "law.go:259", after := #[{ on := 13, ground := Ground.guard }], guard := some (13, false) }, { dst := some 91, op := Op.indexAddr 36 (Operand.tmp 89) (Operand.tmp 90), type := 0, pos := "law.go:259", after := #[{ on := 21, ground := Ground.data }, { on := 22, ground := Ground.data }, { on := 13, ground := Ground.guard }], guard := some (13, false) }, { dst := some 92, op := Op.fieldAddr 77 (Operand.tmp 91) 1, type := 0, pos := "law.go:259", after := #[{ on := 23, ground := Ground.data }, { on := 13, ground := Ground.guard }], guard := some (13, false) }, { dst := some 93, op := Op.load 40 (Operand.tmp 92), type := 40, pos := "law.go:259", after := #[{ on := 24, ground := Ground.data }, { on := 13, ground := Ground.guard }], guard := some (13, false) }, { dst := some 94, op := Op.call { callee := Callee.value (Operand.func 82), args := #[Operand.tmp 87, Operand.tmp 93], argTypes := #[40, 40] }, type := 4, pos := "law.go:259", after := #[{ on := 19, ground := Ground.data }, { on := 25, ground := Ground.data }, { on := 13, ground := Ground.chain }, { on := 13, ground := Ground.guard }], guard := some (13, false) }, { dst := some 95, op := Op.unOp UnOp.not 4 (Operand.tmp 94), type := 4, pos := "law.go:259", after := #[{ on := 26, ground := Ground.data }, { on := 13, ground := Ground.guard }], guard := some (13, false) }, { dst := some 96, op := Op.pick (Operand.tmp 81) (Operand.const (Value.bool true)) (Operand.tmp 95), type := 4, pos := "law.go:259", after := #[{ on := 13, ground := Ground.data }, { on := 27, ground := Ground.data }], guard := none }] true).wp Tryd.prog Q a0 W := by
  refine start_ (n := 29) (S := fun w' => True) (ds := []) #[false, false, false, false, false, false, false, false, false, false, false, false, false, false, false, false, false, false, false, false, false, false, false, false, false, false, false, false, false] (by kernel_rfl) rfl rfl trivial (fun hHeld => ?_)
  refine with_tabW as82xd.tab as82xd.bits (fun HT_ HW_ => ?_)
  refine inv_at [0, 1, 2, 3, 4, 5, 6, 7, 8, 9, 10, 11, 12, 13, 14, 15, 16, 17, 18, 19, 20, 21, 22, 23, 24, 25, 26, 27, 28] (fun a0_ b a w' => a = putSel a0_ b [(0, 68, .pointer (some ⟨w0.heap.size, 4, none⟩)), (1, 69, .slice (some ⟨b1, o1, none⟩) x1.na ca1), (2, 70, .int .i64 (i : Int)), (3, 71, .pointer (some ⟨b1, o1 + i * 8, none⟩)), (4, 72, .pointer (some ⟨b1, o1 + i * 8, none⟩)), (5, 73, .string t1), (6, 74, .pointer (some ⟨w0.heap.size + 1, 4, none⟩)), (7, 75, .slice (some ⟨b2, o2, none⟩) x2.na ca2), (8, 76, .int .i64 (i : Int)), (9, 77, .pointer (some ⟨b2, o2 + i * 8, none⟩)), (10, 78, .pointer (some ⟨b2, o2 + i * 8, none⟩)), (11, 79, .string t2), (12, 80, .bool false), (13, 81, .bool false), (14, 82, .pointer (some ⟨w0.heap.size, 4, none⟩)), (15, 83, .slice (some ⟨b1, o1, none⟩) x1.na ca1), (16, 84, .int .i64 (i : Int)), (17, 85, .pointer (some ⟨b1, o1 + i * 8, none⟩)), (18, 86, .pointer (some ⟨b1, o1 + i * 8 + 1, none⟩)), (19, 87, .agg #[.int .i64 y1.kind, .string y1.text, .string y1.name, .string y1.attr, .slice j1.A y1.na j1.ca, .pointer j1.P, .slice j1.V y1.nv j1.cv]), (20, 88, .pointer (some ⟨w0.heap.size + 1, 4, none⟩)), (21, 89, .slice (some ⟨b2, o2, none⟩) x2.na ca2), (22, 90, .int .i64 (i : Int)), (23, 91, .pointer (some ⟨b2, o2 + i * 8, none⟩)), (24, 92, .pointer (some ⟨b2, o2 + i * 8 + 1, none⟩)), (25, 93, .agg #[.int .i64 y2.kind, .string y2.text, .string y2.name, .string y2.attr, .slice j2.A y2.na j2.ca, .pointer j2.P, .slice j2.V y2.nv j2.cv]), (26, 94, .bool s), (27, 95, .bool (!s)), (28, 96, .bool (!s))] ∧ (ExI w0 x1 x2 (some ⟨b1, o1, none⟩) ca1 P1 V1 cv1 (some ⟨b2, o2, none⟩) ca2 P2 V2 cv2 w')) HT_.out HW_.out (by kernel_rfl) (by kernel_rfl) ?_ ?_ ?_
  · exact ⟨(by simp only [putSel, Bool.false_eq_true, if_false]), hI⟩
  · clear hI hend hHeld
    refine steps_cons ?_ ?_
    · rintro b a w' ⟨ha, hI⟩ hb_ hon hoff
      refine ⟨_, rfl, fun K hK => ?_⟩
      have e2 : a.tmps[2]? = some (.pointer (some ⟨w0.heap.size, 0, none⟩)) := by rw [ha]; exact (putSel_off rfl).trans s2
      replace ha := Aside0.mk ha
      refine value_ (w1 := w') (v := .pointer (some ⟨w0.heap.size, 4, none⟩)) (by rfl) rfl ?_ ?_
      · go_simp; try rfl
        all_goals (try (simp only [IntKind.wrap_i64]; omega))
      exact hK.out _ _ ⟨(by rw [ha.out]; exact putSel_upk 0 hb_ rfl rfl rfl), hI⟩
    refine steps_cons ?_ ?_
    · rintro b a w' ⟨ha, hI⟩ hb_ hon hoff
      refine ⟨_, rfl, fun K hK => ?_⟩
      have e68 : a.tmps[68]? = some (.pointer (some ⟨w0.heap.size, 4, none⟩)) := by rw [ha]; exact putSel_on (e := (0, 68, .pointer (some ⟨w0.heap.size, 4, none⟩))) 0 rfl rfl (hon 0 (by kernel_rfl)) (by rw [hsz]; rfl)
      replace ha := Aside0.mk ha
      have m0 := Own.c hI 1 4 rfl rfl
      refine value_ (w1 := w') (v := .slice (some ⟨b1, o1, none⟩) x1.na ca1) (by rfl) rfl ?_ ?_
      · go_simp; try rfl
        all_goals (try (simp only [IntKind.wrap_i64]; omega))
      exact hK.out _ _ ⟨(by rw [ha.out]; exact putSel_upk 1 hb_ rfl rfl rfl), hI⟩
    refine steps_cons ?_ ?_
    · rintro b a w' ⟨ha, hI⟩ hb_ hon hoff
      refine ⟨_, rfl, fun K hK => ?_⟩
      have e5 : a.tmps[5]? = some (.int .i64 (i : Int)) := by rw [ha]; exact (putSel_off rfl).trans s5
      replace ha := Aside0.mk ha
      refine value_ (w1 := w') (v := .int .i64 (i : Int)) (by rfl) rfl ?_ ?_
      · go_simp; try rfl
        all_goals (try (simp only [IntKind.wrap_i64]; omega))
      exact hK.out _ _ ⟨(by rw [ha.out]; exact putSel_upk 2 hb_ rfl rfl rfl), hI⟩
    refine steps_cons ?_ ?_
    · rintro b a w' ⟨ha, hI⟩ hb_ hon hoff
      refine ⟨_, rfl, fun K hK => ?_⟩
      have e69 : a.tmps[69]? = some (.slice (some ⟨b1, o1, none⟩) x1.na ca1) := by rw [ha]; exact putSel_on (e := (1, 69, .slice (some ⟨b1, o1, none⟩) x1.na ca1)) 1 rfl rfl (hon 1 (by kernel_rfl)) (by rw [hsz]; rfl)
      have e70 : a.tmps[70]? = some (.int .i64 (i : Int)) := by rw [ha]; exact putSel_on (e := (2, 70, .int .i64 (i : Int))) 2 rfl rfl (hon 2 (by kernel_rfl)) (by rw [hsz]; rfl)
      replace ha := Aside0.mk ha
      refine value_ (w1 := w') (v := .pointer (some ⟨b1, o1 + i * 8, none⟩)) (by rfl) rfl ?_ ?_
      · go_simp; try rfl
        all_goals (try (simp only [IntKind.wrap_i64]; omega))
      exact hK.out _ _ ⟨(by rw [ha.out]; exact putSel_upk 3 hb_ rfl rfl rfl), hI⟩
    refine steps_cons ?_ ?_
    · rintro b a w' ⟨ha, hI⟩ hb_ hon hoff
      refine ⟨_, rfl, fun K hK => ?_⟩
      have e71 : a.tmps[71]? = some (.pointer (some ⟨b1, o1 + i * 8, none⟩)) := by rw [ha]; exact putSel_on (e := (3, 71, .pointer (some ⟨b1, o1 + i * 8, none⟩))) 3 rfl rfl (hon 3 (by kernel_rfl)) (by rw [hsz]; rfl)
      replace ha := Aside0.mk ha
      refine value_ (w1 := w') (v := .pointer (some ⟨b1, o1 + i * 8, none⟩)) (by rfl) rfl ?_ ?_
      · go_simp; try rfl
        all_goals (try (simp only [IntKind.wrap_i64]; omega))
      exact hK.out _ _ ⟨(by rw [ha.out]; exact putSel_upk 4 hb_ rfl rfl rfl), hI⟩
    refine steps_cons ?_ ?_
    · rintro b a w' ⟨ha, hI⟩ hb_ hon hoff
      refine ⟨_, rfl, fun K hK => ?_⟩
      have e72 : a.tmps[72]? = some (.pointer (some ⟨b1, o1 + i * 8, none⟩)) := by rw [ha]; exact putSel_on (e := (4, 72, .pointer (some ⟨b1, o1 + i * 8, none⟩))) 4 rfl rfl (hon 4 (by kernel_rfl)) (by rw [hsz]; rfl)
      replace ha := Aside0.mk ha
      have m0 := Kept.of (Own.bel hI) _ _ _ d10
      refine value_ (w1 := w') (v := .string t1) (by rfl) rfl ?_ ?_
      · go_simp; try rfl
        all_goals (try (simp only [IntKind.wrap_i64]; omega))
      exact hK.out _ _ ⟨(by rw [ha.out]; exact putSel_upk 5 hb_ rfl rfl rfl), hI⟩
    refine steps_cons ?_ ?_
    · rintro b a w' ⟨ha, hI⟩ hb_ hon hoff
      refine ⟨_, rfl, fun K hK => ?_⟩
      have e3 : a.tmps[3]? = some (.pointer (some ⟨w0.heap.size + 1, 0, none⟩)) := by rw [ha]; exact (putSel_off rfl).trans s3
      replace ha := Aside0.mk ha
      refine value_ (w1 := w') (v := .pointer (some ⟨w0.heap.size + 1, 4, none⟩)) (by rfl) rfl ?_ ?_
      · go_simp; try rfl
        all_goals (try (simp only [IntKind.wrap_i64]; omega))
      exact hK.out _ _ ⟨(by rw [ha.out]; exact putSel_upk 6 hb_ rfl rfl rfl), hI⟩
    refine steps_cons ?_ ?_
    · rintro b a w' ⟨ha, hI⟩ hb_ hon hoff
      refine ⟨_, rfl, fun K hK => ?_⟩
      have e74 : a.tmps[74]? = some (.pointer (some ⟨w0.heap.size + 1, 4, none⟩)) := by rw [ha]; exact putSel_on (e := (6, 74, .pointer (some ⟨w0.heap.size + 1, 4, none⟩))) 6 rfl rfl (hon 6 (by kernel_rfl)) (by rw [hsz]; rfl)
      replace ha := Aside0.mk ha
      have m0 := Own.c hI 0 4 rfl rfl
      refine value_ (w1 := w') (v := .slice (some ⟨b2, o2, none⟩) x2.na ca2) (by rfl) rfl ?_ ?_
      · go_simp; try rfl
        all_goals (try (simp only [IntKind.wrap_i64]; omega))
      exact hK.out _ _ ⟨(by rw [ha.out]; exact putSel_upk 7 hb_ rfl rfl rfl), hI⟩
    refine steps_cons ?_ ?_
    · rintro b a w' ⟨ha, hI⟩ hb_ hon hoff
      refine ⟨_, rfl, fun K hK => ?_⟩
      have e5 : a.tmps[5]? = some (.int .i64 (i : Int)) := by rw [ha]; exact (putSel_off rfl).trans s5
      replace ha := Aside0.mk ha
      refine value_ (w1 := w') (v := .int .i64 (i : Int)) (by rfl) rfl ?_ ?_
      · go_simp; try rfl
        all_goals (try (simp only [IntKind.wrap_i64]; omega))
      exact hK.out _ _ ⟨(by rw [ha.out]; exact putSel_upk 8 hb_ rfl rfl rfl), hI⟩
    refine steps_cons ?_ ?_
    · rintro b a w' ⟨ha, hI⟩ hb_ hon hoff
      refine ⟨_, rfl, fun K hK => ?_⟩
      have e75 : a.tmps[75]? = some (.slice (some ⟨b2, o2, none⟩) x2.na ca2) := by rw [ha]; exact putSel_on (e := (7, 75, .slice (some ⟨b2, o2, none⟩) x2.na ca2)) 7 rfl rfl (hon 7 (by kernel_rfl)) (by rw [hsz]; rfl)
      have e76 : a.tmps[76]? = some (.int .i64 (i : Int)) := by rw [ha]; exact putSel_on (e := (8, 76, .int .i64 (i : Int))) 8 rfl rfl (hon 8 (by kernel_rfl)) (by rw [hsz]; rfl)
      replace ha := Aside0.mk ha
      refine value_ (w1 := w') (v := .pointer (some ⟨b2, o2 + i * 8, none⟩)) (by rfl) rfl ?_ ?_
      · go_simp; try rfl
        all_goals (try (simp only [IntKind.wrap_i64]; omega))
      exact hK.out _ _ ⟨(by rw [ha.out]; exact putSel_upk 9 hb_ rfl rfl rfl), hI⟩
    refine steps_cons ?_ ?_
    · rintro b a w' ⟨ha, hI⟩ hb_ hon hoff
      refine ⟨_, rfl, fun K hK => ?_⟩
      have e77 : a.tmps[77]? = some (.pointer (some ⟨b2, o2 + i * 8, none⟩)) := by rw [ha]; exact putSel_on (e := (9, 77, .pointer (some ⟨b2, o2 + i * 8, none⟩))) 9 rfl rfl (hon 9 (by kernel_rfl)) (by rw [hsz]; rfl)
      replace ha := Aside0.mk ha
      refine value_ (w1 := w') (v := .pointer (some ⟨b2, o2 + i * 8, none⟩)) (by rfl) rfl ?_ ?_
      · go_simp; try rfl
        all_goals (try (simp only [IntKind.wrap_i64]; omega))
      exact hK.out _ _ ⟨(by rw [ha.out]; exact putSel_upk 10 hb_ rfl rfl rfl), hI⟩
    refine steps_cons ?_ ?_
    · rintro b a w' ⟨ha, hI⟩ hb_ hon hoff
      refine ⟨_, rfl, fun K hK => ?_⟩
      have e78 : a.tmps[78]? = some (.pointer (some ⟨b2, o2 + i * 8, none⟩)) := by rw [ha]; exact putSel_on (e := (10, 78, .pointer (some ⟨b2, o2 + i * 8, none⟩))) 10 rfl rfl (hon 10 (by kernel_rfl)) (by rw [hsz]; rfl)
      replace ha := Aside0.mk ha
      have m0 := Kept.of (Own.bel hI) _ _ _ d20
      refine value_ (w1 := w') (v := .string t2) (by rfl) rfl ?_ ?_
      · go_simp; try rfl
        all_goals (try (simp only [IntKind.wrap_i64]; omega))
      exact hK.out _ _ ⟨(by rw [ha.out]; exact putSel_upk 11 hb_ rfl rfl rfl), hI⟩
    refine steps_cons ?_ ?_
    · rintro b a w' ⟨ha, hI⟩ hb_ hon hoff
      refine ⟨_, rfl, fun K hK => ?_⟩
      have e73 : a.tmps[73]? = some (.string t1) := by rw [ha]; exact putSel_on (e := (5, 73, .string t1)) 5 rfl rfl (hon 5 (by kernel_rfl)) (by rw [hsz]; rfl)
      have e79 : a.tmps[79]? = some (.string t2) := by rw [ha]; exact putSel_on (e := (11, 79, .string t2)) 11 rfl rfl (hon 11 (by kernel_rfl)) (by rw [hsz]; rfl)
      replace ha := Aside0.mk ha
      refine value_ (w1 := w') (v := .bool false) (by rfl) rfl ?_ ?_
      · go_simp; try rfl
        all_goals (try (simp only [IntKind.wrap_i64]; omega))
      exact hK.out _ _ ⟨(by rw [ha.out]; exact putSel_upk 12 hb_ rfl rfl rfl), hI⟩
    refine steps_cons ?_ ?_
    · rintro b a w' ⟨ha, hI⟩ hb_ hon hoff
      refine ⟨_, rfl, fun K hK => ?_⟩
      have e80 : a.tmps[80]? = some (.bool false) := by rw [ha]; exact putSel_on (e := (12, 80, .bool false)) 12 rfl rfl (hon 12 (by kernel_rfl)) (by rw [hsz]; rfl)
      replace ha := Aside0.mk ha
      refine value_ (w1 := w') (v := .bool false) (by rfl) rfl ?_ ?_
      · go_simp; try rfl
        all_goals (try (simp only [IntKind.wrap_i64]; omega))
      exact hK.out _ _ ⟨(by rw [ha.out]; exact putSel_upk 13 hb_ rfl rfl rfl), hI⟩
    refine steps_cons ?_ ?_
    · rintro b a w' ⟨ha, hI⟩ hb_ hon hoff
      refine ⟨_, rfl, fun K hK => ?_⟩
      have e2 : a.tmps[2]? = some (.pointer (some ⟨w0.heap.size, 0, none⟩)) := by rw [ha]; exact (putSel_off rfl).trans s2
      have e81 : a.tmps[81]? = some (.bool false) := by rw [ha]; exact putSel_on (e := (13, 81, .bool false)) 13 rfl rfl (hon 13 (by kernel_rfl)) (by rw [hsz]; rfl)
      replace ha := Aside0.mk ha
      refine value_ (w1 := w') (v := .pointer (some ⟨w0.heap.size, 4, none⟩)) (wanted_on rfl rfl rfl e81) rfl ?_ ?_
      · go_simp; try rfl
        all_goals (try (simp only [IntKind.wrap_i64]; omega))
      exact hK.out _ _ ⟨(by rw [ha.out]; exact putSel_upk 14 hb_ rfl rfl rfl), hI⟩
    refine steps_cons ?_ ?_
    · rintro b a w' ⟨ha, hI⟩ hb_ hon hoff
      refine ⟨_, rfl, fun K hK => ?_⟩
      have e82 : a.tmps[82]? = some (.pointer (some ⟨w0.heap.size, 4, none⟩)) := by rw [ha]; exact putSel_on (e := (14, 82, .pointer (some ⟨w0.heap.size, 4, none⟩))) 14 rfl rfl (hon 14 (by kernel_rfl)) (by rw [hsz]; rfl)
      have e81 : a.tmps[81]? = some (.bool false) := by rw [ha]; exact putSel_on (e := (13, 81, .bool false)) 13 rfl rfl (hon 13 (by kernel_rfl)) (by rw [hsz]; rfl)
      replace ha := Aside0.mk ha
      have m0 := Own.c hI 1 4 rfl rfl
      refine value_ (w1 := w') (v := .slice (some ⟨b1, o1, none⟩) x1.na ca1) (wanted_on rfl rfl rfl e81) rfl ?_ ?_
      · go_simp; try rfl
        all_goals (try (simp only [IntKind.wrap_i64]; omega))
      exact hK.out _ _ ⟨(by rw [ha.out]; exact putSel_upk 15 hb_ rfl rfl rfl), hI⟩
    refine steps_cons ?_ ?_
    · rintro b a w' ⟨ha, hI⟩ hb_ hon hoff
      refine ⟨_, rfl, fun K hK => ?_⟩
      have e5 : a.tmps[5]? = some (.int .i64 (i : Int)) := by rw [ha]; exact (putSel_off rfl).trans s5
      have e81 : a.tmps[81]? = some (.bool false) := by rw [ha]; exact putSel_on (e := (13, 81, .bool false)) 13 rfl rfl (hon 13 (by kernel_rfl)) (by rw [hsz]; rfl)
      replace ha := Aside0.mk ha
      refine value_ (w1 := w') (v := .int .i64 (i : Int)) (wanted_on rfl rfl rfl e81) rfl ?_ ?_
      · go_simp; try rfl
        all_goals (try (simp only [IntKind.wrap_i64]; omega))
      exact hK.out _ _ ⟨(by rw [ha.out]; exact putSel_upk 16 hb_ rfl rfl rfl), hI⟩
    refine steps_cons ?_ ?_
    · rintro b a w' ⟨ha, hI⟩ hb_ hon hoff
      refine ⟨_, rfl, fun K hK => ?_⟩
      have e83 : a.tmps[83]? = some (.slice (some ⟨b1, o1, none⟩) x1.na ca1) := by rw [ha]; exact putSel_on (e := (15, 83, .slice (some ⟨b1, o1, none⟩) x1.na ca1)) 15 rfl rfl (hon 15 (by kernel_rfl)) (by rw [hsz]; rfl)
      have e84 : a.tmps[84]? = some (.int .i64 (i : Int)) := by rw [ha]; exact putSel_on (e := (16, 84, .int .i64 (i : Int))) 16 rfl rfl (hon 16 (by kernel_rfl)) (by rw [hsz]; rfl)
      have e81 : a.tmps[81]? = some (.bool false) := by rw [ha]; exact putSel_on (e := (13, 81, .bool false)) 13 rfl rfl (hon 13 (by kernel_rfl)) (by rw [hsz]; rfl)
      replace ha := Aside0.mk ha
      refine value_ (w1 := w') (v := .pointer (some ⟨b1, o1 + i * 8, none⟩)) (wanted_on rfl rfl rfl e81) rfl ?_ ?_
      · go_simp; try rfl
        all_goals (try (simp only [IntKind.wrap_i64]; omega))
      exact hK.out _ _ ⟨(by rw [ha.out]; exact putSel_upk 17 hb_ rfl rfl rfl), hI⟩
    refine steps_cons ?_ ?_
    · rintro b a w' ⟨ha, hI⟩ hb_ hon hoff
      refine ⟨_, rfl, fun K hK => ?_⟩
      have e85 : a.tmps[85]? = some (.pointer (some ⟨b1, o1 + i * 8, none⟩)) := by rw [ha]; exact putSel_on (e := (17, 85, .pointer (some ⟨b1, o1 + i * 8, none⟩))) 17 rfl rfl (hon 17 (by kernel_rfl)) (by rw [hsz]; rfl)
      have e81 : a.tmps[81]? = some (.bool false) := by rw [ha]; exact putSel_on (e := (13, 81, .bool false)) 13 rfl rfl (hon 13 (by kernel_rfl)) (by rw [hsz]; rfl)
      replace ha := Aside0.mk ha
      refine value_ (w1 := w') (v := .pointer (some ⟨b1, o1 + i * 8 + 1, none⟩)) (wanted_on rfl rfl rfl e81) rfl ?_ ?_
      · go_simp; try rfl
        all_goals (try (simp only [IntKind.wrap_i64]; omega))
      exact hK.out _ _ ⟨(by rw [ha.out]; exact putSel_upk 18 hb_ rfl rfl rfl), hI⟩
    refine steps_cons ?_ ?_
    · rintro b a w' ⟨ha, hI⟩ hb_ hon hoff
      refine ⟨_, rfl, fun K hK => ?_⟩
      have e86 : a.tmps[86]? = some (.pointer (some ⟨b1, o1 + i * 8 + 1, none⟩)) := by rw [ha]; exact putSel_on (e := (18, 86, .pointer (some ⟨b1, o1 + i * 8 + 1, none⟩))) 18 rfl rfl (hon 18 (by kernel_rfl)) (by rw [hsz]; rfl)
      have e81 : a.tmps[81]? = some (.bool false) := by rw [ha]; exact putSel_on (e := (13, 81, .bool false)) 13 rfl rfl (hon 13 (by kernel_rfl)) (by rw [hsz]; rfl)
      replace ha := Aside0.mk ha
      have m0 := Kept.of (Own.bel hI) _ _ _ E1.c0
      have m1 := Kept.of (Own.bel hI) _ _ _ E1.c1
      have m2 := Kept.of (Own.bel hI) _ _ _ E1.c2
      have m3 := Kept.of (Own.bel hI) _ _ _ E1.c3
      have m4 := Kept.of (Own.bel hI) _ _ _ E1.c4
      have m5 := Kept.of (Own.bel hI) _ _ _ E1.c5
      have m6 := Kept.of (Own.bel hI) _ _ _ E1.c6
      refine value_ (w1 := w') (v := .agg #[.int .i64 y1.kind, .string y1.text, .string y1.name, .string y1.attr, .slice j1.A y1.na j1.ca, .pointer j1.P, .slice j1.V y1.nv j1.cv]) (wanted_on rfl rfl rfl e81) rfl ?_ ?_
      · go_simp; try rfl
        all_goals (try (simp only [IntKind.wrap_i64]; omega))
      exact hK.out _ _ ⟨(by rw [ha.out]; exact putSel_upk 19 hb_ rfl rfl rfl), hI⟩
    refine steps_cons ?_ ?_
    · rintro b a w' ⟨ha, hI⟩ hb_ hon hoff
      refine ⟨_, rfl, fun K hK => ?_⟩
      have e3 : a.tmps[3]? = some (.pointer (some ⟨w0.heap.size + 1, 0, none⟩)) := by rw [ha]; exact (putSel_off rfl).trans s3
      have e81 : a.tmps[81]? = some (.bool false) := by rw [ha]; exact putSel_on (e := (13, 81, .bool false)) 13 rfl rfl (hon 13 (by kernel_rfl)) (by rw [hsz]; rfl)
      replace ha := Aside0.mk ha
      refine value_ (w1 := w') (v := .pointer (some ⟨w0.heap.size + 1, 4, none⟩)) (wanted_on rfl rfl rfl e81) rfl ?_ ?_
      · go_simp; try rfl
        all_goals (try (simp only [IntKind.wrap_i64]; omega))
      exact hK.out _ _ ⟨(by rw [ha.out]; exact putSel_upk 20 hb_ rfl rfl rfl), hI⟩
    refine steps_cons ?_ ?_
    · rintro b a w' ⟨ha, hI⟩ hb_ hon hoff
      refine ⟨_, rfl, fun K hK => ?_⟩
      have e88 : a.tmps[88]? = some (.pointer (some ⟨w0.heap.size + 1, 4, none⟩)) := by rw [ha]; exact putSel_on (e := (20, 88, .pointer (some ⟨w0.heap.size + 1, 4, none⟩))) 20 rfl rfl (hon 20 (by kernel_rfl)) (by rw [hsz]; rfl)
      have e81 : a.tmps[81]? = some (.bool false) := by rw [ha]; exact putSel_on (e := (13, 81, .bool false)) 13 rfl rfl (hon 13 (by kernel_rfl)) (by rw [hsz]; rfl)
      replace ha := Aside0.mk ha
      have m0 := Own.c hI 0 4 rfl rfl
      refine value_ (w1 := w') (v := .slice (some ⟨b2, o2, none⟩) x2.na ca2) (wanted_on rfl rfl rfl e81) rfl ?_ ?_
      · go_simp; try rfl
        all_goals (try (simp only [IntKind.wrap_i64]; omega))
      exact hK.out _ _ ⟨(by rw [ha.out]; exact putSel_upk 21 hb_ rfl rfl rfl), hI⟩
    refine steps_cons ?_ ?_
    · rintro b a w' ⟨ha, hI⟩ hb_ hon hoff
      refine ⟨_, rfl, fun K hK => ?_⟩
      have e5 : a.tmps[5]? = some (.int .i64 (i : Int)) := by rw [ha]; exact (putSel_off rfl).trans s5
      have e81 : a.tmps[81]? = some (.bool false) := by rw [ha]; exact putSel_on (e := (13, 81, .bool false)) 13 rfl rfl (hon 13 (by kernel_rfl)) (by rw [hsz]; rfl)
      replace ha := Aside0.mk ha
      refine value_ (w1 := w') (v := .int .i64 (i : Int)) (wanted_on rfl rfl rfl e81) rfl ?_ ?_
      · go_simp; try rfl
        all_goals (try (simp only [IntKind.wrap_i64]; omega))
      exact hK.out _ _ ⟨(by rw [ha.out]; exact putSel_upk 22 hb_ rfl rfl rfl), hI⟩
    refine steps_cons ?_ ?_
    · rintro b a w' ⟨ha, hI⟩ hb_ hon hoff
      refine ⟨_, rfl, fun K hK => ?_⟩
      have e89 : a.tmps[89]? = some (.slice (some ⟨b2, o2, none⟩) x2.na ca2) := by rw [ha]; exact putSel_on (e := (21, 89, .slice (some ⟨b2, o2, none⟩) x2.na ca2)) 21 rfl rfl (hon 21 (by kernel_rfl)) (by rw [hsz]; rfl)
      have e90 : a.tmps[90]? = some (.int .i64 (i : Int)) := by rw [ha]; exact putSel_on (e := (22, 90, .int .i64 (i : Int))) 22 rfl rfl (hon 22 (by kernel_rfl)) (by rw [hsz]; rfl)
      have e81 : a.tmps[81]? = some (.bool false) := by rw [ha]; exact putSel_on (e := (13, 81, .bool false)) 13 rfl rfl (hon 13 (by kernel_rfl)) (by rw [hsz]; rfl)
      replace ha := Aside0.mk ha
      refine value_ (w1 := w') (v := .pointer (some ⟨b2, o2 + i * 8, none⟩)) (wanted_on rfl rfl rfl e81) rfl ?_ ?_
      · go_simp; try rfl
        all_goals (try (simp only [IntKind.wrap_i64]; omega))
      exact hK.out _ _ ⟨(by rw [ha.out]; exact putSel_upk 23 hb_ rfl rfl rfl), hI⟩
    refine steps_cons ?_ ?_
    · rintro b a w' ⟨ha, hI⟩ hb_ hon hoff
      refine ⟨_, rfl, fun K hK => ?_⟩
      have e91 : a.tmps[91]? = some (.pointer (some ⟨b2, o2 + i * 8, none⟩)) := by rw [ha]; exact putSel_on (e := (23, 91, .pointer (some ⟨b2, o2 + i * 8, none⟩))) 23 rfl rfl (hon 23 (by kernel_rfl)) (by rw [hsz]; rfl)
      have e81 : a.tmps[81]? = some (.bool false) := by rw [ha]; exact putSel_on (e := (13, 81, .bool false)) 13 rfl rfl (hon 13 (by kernel_rfl)) (by rw [hsz]; rfl)
      replace ha := Aside0.mk ha
      refine value_ (w1 := w') (v := .pointer (some ⟨b2, o2 + i * 8 + 1, none⟩)) (wanted_on rfl rfl rfl e81) rfl ?_ ?_
      · go_simp; try rfl
        all_goals (try (simp only [IntKind.wrap_i64]; omega))
      exact hK.out _ _ ⟨(by rw [ha.out]; exact putSel_upk 24 hb_ rfl rfl rfl), hI⟩
    refine steps_cons ?_ ?_
    · rintro b a w' ⟨ha, hI⟩ hb_ hon hoff
      refine ⟨_, rfl, fun K hK => ?_⟩
      have e92 : a.tmps[92]? = some (.pointer (some ⟨b2, o2 + i * 8 + 1, none⟩)) := by rw [ha]; exact putSel_on (e := (24, 92, .pointer (some ⟨b2, o2 + i * 8 + 1, none⟩))) 24 rfl rfl (hon 24 (by kernel_rfl)) (by rw [hsz]; rfl)
      have e81 : a.tmps[81]? = some (.bool false) := by rw [ha]; exact putSel_on (e := (13, 81, .bool false)) 13 rfl rfl (hon 13 (by kernel_rfl)) (by rw [hsz]; rfl)
      replace ha := Aside0.mk ha
      have m0 := Kept.of (Own.bel hI) _ _ _ E2.c0
      have m1 := Kept.of (Own.bel hI) _ _ _ E2.c1
      have m2 := Kept.of (Own.bel hI) _ _ _ E2.c2
      have m3 := Kept.of (Own.bel hI) _ _ _ E2.c3
      have m4 := Kept.of (Own.bel hI) _ _ _ E2.c4
      have m5 := Kept.of (Own.bel hI) _ _ _ E2.c5
      have m6 := Kept.of (Own.bel hI) _ _ _ E2.c6
      refine value_ (w1 := w') (v := .agg #[.int .i64 y2.kind, .string y2.text, .string y2.name, .string y2.attr, .slice j2.A y2.na j2.ca, .pointer j2.P, .slice j2.V y2.nv j2.cv]) (wanted_on rfl rfl rfl e81) rfl ?_ ?_
      · go_simp; try rfl
        all_goals (try (simp only [IntKind.wrap_i64]; omega))
      exact hK.out _ _ ⟨(by rw [ha.out]; exact putSel_upk 25 hb_ rfl rfl rfl), hI⟩
    refine steps_cons ?_ ?_
    · rintro b a w' ⟨ha, hI⟩ hb_ hon hoff
      refine ⟨_, rfl, fun K hK => ?_⟩
      have e87 : a.tmps[87]? = some (.agg #[.int .i64 y1.kind, .string y1.text, .string y1.name, .string y1.attr, .slice j1.A y1.na j1.ca, .pointer j1.P, .slice j1.V y1.nv j1.cv]) := by rw [ha]; exact putSel_on (e := (19, 87, .agg #[.int .i64 y1.kind, .string y1.text, .string y1.name, .string y1.attr, .slice j1.A y1.na j1.ca, .pointer j1.P, .slice j1.V y1.nv j1.cv])) 19 rfl rfl (hon 19 (by kernel_rfl)) (by rw [hsz]; rfl)
      have e93 : a.tmps[93]? = some (.agg #[.int .i64 y2.kind, .string y2.text, .string y2.name, .string y2.attr, .slice j2.A y2.na j2.ca, .pointer j2.P, .slice j2.V y2.nv j2.cv]) := by rw [ha]; exact putSel_on (e := (25, 93, .agg #[.int .i64 y2.kind, .string y2.text, .string y2.name, .string y2.attr, .slice j2.A y2.na j2.ca, .pointer j2.P, .slice j2.V y2.nv j2.cv])) 25 rfl rfl (hon 25 (by kernel_rfl)) (by rw [hsz]; rfl)
      have e81 : a.tmps[81]? = some (.bool false) := by rw [ha]; exact putSel_on (e := (13, 81, .bool false)) 13 rfl rfl (hon 13 (by kernel_rfl)) (by rw [hsz]; rfl)
      replace ha := Aside0.mk ha
      refine goes_ Tryd.func82 (by kernel_rfl) rfl #[.agg #[.int .i64 y1.kind, .string y1.text, .string y1.name, .string y1.attr, .slice j1.A y1.na j1.ca, .pointer j1.P, .slice j1.V y1.nv j1.cv], .agg #[.int .i64 y2.kind, .string y2.text, .string y2.name, .string y2.attr, .slice j2.A y2.na j2.ca, .pointer j2.P, .slice j2.V y2.nv j2.cv]] (wanted_on rfl rfl rfl e81) rfl rfl (by first | (simp only [List.map_toArray, List.map_cons, List.map_nil, Act.eval, Array.getD_eq_getD_getElem?, Option.getD_some, e87, e93]; done) | (simp only [List.map_toArray, List.map_cons, List.map_nil, Act.eval, Array.getD_eq_getD_getElem?, Option.getD_some, e87, e93]; rfl)) ?_
      refine (cS w' (Own.bel hI)).mono ?_
      rintro e w1 ⟨rfl, b1⟩; have hI1 := ExI.step hI b1
      exact ⟨_, rfl, hK.out _ _ ⟨(by rw [ha.out]; exact putSel_upk 26 hb_ rfl rfl rfl), hI1⟩⟩
    refine steps_cons ?_ ?_
    · rintro b a w' ⟨ha, hI⟩ hb_ hon hoff
      refine ⟨_, rfl, fun K hK => ?_⟩
      have e94 : a.tmps[94]? = some (.bool s) := by rw [ha]; exact putSel_on (e := (26, 94, .bool s)) 26 rfl rfl (hon 26 (by kernel_rfl)) (by rw [hsz]; rfl)
      have e81 : a.tmps[81]? = some (.bool false) := by rw [ha]; exact putSel_on (e := (13, 81, .bool false)) 13 rfl rfl (hon 13 (by kernel_rfl)) (by rw [hsz]; rfl)
      replace ha := Aside0.mk ha
      refine value_ (w1 := w') (v := .bool (!s)) (wanted_on rfl rfl rfl e81) rfl ?_ ?_
      · go_simp; try rfl
        all_goals (try (simp only [IntKind.wrap_i64]; omega))
      exact hK.out _ _ ⟨(by rw [ha.out]; exact putSel_upk 27 hb_ rfl rfl rfl), hI⟩
    refine steps_cons ?_ ?_
    · rintro b a w' ⟨ha, hI⟩ hb_ hon hoff
      refine ⟨_, rfl, fun K hK => ?_⟩
      have e81 : a.tmps[81]? = some (.bool false) := by rw [ha]; exact putSel_on (e := (13, 81, .bool false)) 13 rfl rfl (hon 13 (by kernel_rfl)) (by rw [hsz]; rfl)
      have e95 : a.tmps[95]? = some (.bool (!s)) := by rw [ha]; exact putSel_on (e := (27, 95, .bool (!s))) 27 rfl rfl (hon 27 (by kernel_rfl)) (by rw [hsz]; rfl)
      replace ha := Aside0.mk ha
      refine value_ (w1 := w') (v := .bool (!s)) (by rfl) rfl ?_ ?_
      · go_simp; try rfl
        all_goals (try (simp only [IntKind.wrap_i64]; omega))
      exact hK.out _ _ ⟨(by rw [ha.out]; exact putSel_upk 28 hb_ rfl rfl rfl), hI⟩
    exact steps_nil
  rintro b a w1 hall ⟨ha, hI1⟩
  exact hend a w1 hI1 (by rw [ha]; simp only [putSel, if_true, hall 0 (by kernel_rfl), hall 1 (by kernel_rfl), hall 2 (by kernel_rfl), hall 3 (by kernel_rfl), hall 4 (by kernel_rfl), hall 5 (by kernel_rfl), hall 6 (by kernel_rfl), hall 7 (by kernel_rfl), hall 8 (by kernel_rfl), hall 9 (by kernel_rfl), hall 10 (by kernel_rfl), hall 11 (by kernel_rfl), hall 12 (by kernel_rfl), hall 13 (by kernel_rfl), hall 14 (by kernel_rfl), hall 15 (by kernel_rfl), hall 16 (by kernel_rfl), hall 17 (by kernel_rfl), hall 18 (by kernel_rfl), hall 19 (by kernel_rfl), hall 20 (by kernel_rfl), hall 21 (by kernel_rfl), hall 22 (by kernel_rfl), hall 23 (by kernel_rfl), hall 24 (by kernel_rfl), hall 25 (by kernel_rfl), hall 26 (by kernel_rfl), hall 27 (by kernel_rfl), hall 28 (by kernel_rfl)]) (by rw [ha]; exact (putSel_size b _ a0).2) (by rw [ha]; exact putSel_on (e := (28, 96, .bool (!s))) 28 rfl rfl (hall 28 (by kernel_rfl)) (by rw [hsz]; rfl))
end Go.Proofs.YtipmphgkdomebaaDoor
namespace Go.Proofs.YtipmphgkdomebaaDoor
open Go.RowKit Go.Proofs.YtipmphgkdomebaaDoorW.PrintWords Go.Proofs.YtipmphgkdomebaaDoorW.PrintLast
set_option linter.unusedVariables false
set_option linter.unusedSimpArgs false
def as82yn.T : Bool × List (List Nat × List Nat) := (true, [([], []), ([0], [0]), ([1], [1]), ([2], [2]), ([3], [3]), ([4, 3], [3, 4]), ([5, 3], [3, 5]), ([6, 3], [3, 6]), ([3], [3]), ([8, 3], [3, 8]), ([9, 3], [3, 9]), ([10, 3], [3, 10]), ([7, 11, 3, 3], [3, 7, 11]), ([3, 12], [3, 12]), ([13, 12, 0, 1, 2, 3, 4, 5, 6, 7, 8, 9, 10, 11, 12, 13], [13])])
def as82yn.B : List Nat := [0, 1, 3, 7, 15, 31, 63, 127, 15, 271, 783, 1807, 4095, 8191, 16383]
theorem as82yn.tab : rtab .any (opsOf Tryd.f82 17) = as82yn.T := by kernel_rfl
theorem as82yn.bits : waitsOk as82yn.T.2 as82yn.B = true := by kernel_rfl
set_option maxRecDepth 100000 in
set_option maxHeartbeats 4000000 in
theorem as82yn (w0 : World) (x1 x2 : EX) (A1 A2 : Option Addr) (ca1 ca2 cv1 cv2 : Nat) (V1 V2 : Option Addr) (P2 : Option Addr) (a0 : Act) (s2 : a0.tmps[2]? = some (.pointer (some ⟨w0.heap.size, 0, none⟩))) (s3 : a0.tmps[3]? = some (.pointer (some ⟨w0.heap.size + 1, 0, none⟩))) (hsz : a0.tmps.size = Tryd.f82.ntmps) (W : World) (hI : ExI w0 x1 x2 A1 ca1 none V1 cv1 A2 ca2 P2 V2 cv2 W.drew) (Q : Exit → Act → World → Prop) (hend : ∀ (a9 : Act) w', ExI w0 x1 x2 A1 ca1 none V1 cv1 A2 ca2 P2 V2 cv2 w' → a9 = putSel a0 (fun _ => true) [(0, 135, .pointer (some ⟨w0.heap.size, 5, none⟩)), (1, 136, .pointer none), (2, 137, .bool true), (3, 138, .bool true), (4, 139, undef), (5, 140, undef), (6, 141, undef), (7, 142, undef), (8, 143, undef), (9, 144, undef), (10, 145, undef), (11, 146, undef), (12, 147, undef), (13, 148, .bool true), (14, 4, .bool true)] → a9.defers = a0.defers → a9.tmps[4]? = some (.bool true) → Q .normal a9 w') :
    (Code.region 17 #[{ dst := some 135, op := Op.fieldAddr 40 (Operand.tmp 2) 5, type := 0, pos := "law.go:270", after := #[], guard := none }, { dst := some 136, op := Op.load 37 (Operand.tmp 135), type := 37, pos := "law.go:270", after := #[{ on := 0, ground := Ground.data }], guard := none }, { dst := some 137, op := Op.binOp BinOp.eql 37 (Operand.tmp 136) (Operand.const (Value.pointer none)) 37, type := 4, pos := "law.go:270", after := #[{ on := 1, ground := Ground.data }], guard := none }, { dst := some 138, op := Op.move (Operand.tmp 137), type := 4, pos := "law.go:270", after := #[{ on := 2, ground := Ground.data }], guard := none }, { dst := some 139, op := Op.fieldAddr 40 (Operand.tmp 2) 5, type := 0, pos := "law.go:270", after := #[{ on := 3, ground := Ground.guard }], guard := some (3, false) }, { dst := some 140, op := Op.load 37 (Operand.tmp 139), type := 37, pos := "law.go:270", after := #[{ on := 4, ground := Ground.data }, { on := 3, ground := Ground.guard }], guard := some (3, false) }, { dst := some 141, op := Op.nilCheck (Operand.tmp 140), type := 0, pos := "law.go:270", after := #[{ on := 5, ground := Ground.data }, { on := 3, ground := Ground.guard }], guard := some (3, false) }, { dst := some 142, op := Op.load 40 (Operand.tmp 141), type := 40, pos := "law.go:270", after := #[{ on := 6, ground := Ground.data }, { on := 3, ground := Ground.guard }], guard := some (3, false) }, { dst := some 143, op := Op.fieldAddr 40 (Operand.tmp 3) 5, type := 0, pos := "law.go:270", after := #[{ on := 3, ground := Ground.guard }], guard := some (3, false) }, { dst := some 144, op := Op.load 37 (Operand.tmp 143), type := 37, pos := "law.go:270", after := #[{ on := 8, ground := Ground.data }, { on := 3, ground := Ground.guard }], guard := some (3, false) }, { dst := some 145, op := Op.nilCheck (Operand.tmp 144), type := 0, pos := "law.go:270", after := #[{ on := 9, ground := Ground.data }, { on := 3, ground := Ground.guard }], guard := some (3, false) }, { dst := some 146, op := Op.load 40 (Operand.tmp 145), type := 40, pos := "law.go:270", after := #[{ on := 10, ground := Ground.data }, { on := 3, ground := Ground.guard }], guard := some (3, false) }, { dst := some 147, op := Op.call { callee := Callee.value (Operand.func 82), args := #[Operand.tmp 142, Operand.tmp 146], argTypes := #[40, 40] }, type := 4, pos := "law.go:270", after := #[{ on := 7, ground := Ground.data }, { on := 11, ground := Ground.data }, { on := 3, ground := Ground.chain }, { on := 3, ground := Ground.guard }], guard := some (3, false) }, { dst := some 148, op := Op.pick (Operand.tmp 138) (Operand.const (Value.bool true)) (Operand.tmp 147), type := 4, pos := "law.go:270", after := #[{ on := 3, ground := Ground.data }, { on := 12, ground := Ground.data }], guard := none }, { dst := some 4, op := Op.assign (Operand.tmp 148), type := 4, pos := "law.go:270", after := #[{ on := 13, ground := Ground.data }, { on := 12, ground := Ground.chain }, { on := 0, ground := Ground.phase }, { on := 1, ground := Ground.phase }, { on := 2, ground := Ground.phase }, { on := 3, ground := Ground.phase }, { on := 4, ground := Ground.phase }, { on := 5, ground := Ground.phase }, { on := 6, ground := Ground.phase }, { on := 7, ground := Ground.phase }, { on := 8, ground := Ground.phase }, { on := 9, ground := Ground.phase }, { on := 10, ground := Ground.phase }, { on := 11, ground := Ground.phase }, { on := 12, ground := Ground.phase }, { on := 13, ground := Ground.phase }], guard := none }] true).wp Tryd.prog Q a0 W := by
  refine start_ (n := 15) (S := fun w' => True) (ds := []) #[false, false, false, false, false, false, false, false, false, false, false, false, false, false, false] (by kernel_rfl) rfl rfl trivial (fun hHeld => ?_)
  refine with_tabW as82yn.tab as82yn.bits (fun HT_ HW_ => ?_)
  refine inv_at [0, 1, 2, 3, 4, 5, 6, 7, 8, 9, 10, 11, 12, 13, 14] (fun a0_ b a w' => a = putSel a0_ b [(0, 135, .pointer (some ⟨w0.heap.size, 5, none⟩)), (1, 136, .pointer none), (2, 137, .bool true), (3, 138, .bool true), (4, 139, undef), (5, 140, undef), (6, 141, undef), (7, 142, undef), (8, 143, undef), (9, 144, undef), (10, 145, undef), (11, 146, undef), (12, 147, undef), (13, 148, .bool true), (14, 4, .bool true)] ∧ (ExI w0 x1 x2 A1 ca1 none V1 cv1 A2 ca2 P2 V2 cv2 w')) HT_.out HW_.out (by kernel_rfl) (by kernel_rfl) ?_ ?_ ?_
  · exact ⟨(by simp only [putSel, Bool.false_eq_true, if_false]), hI⟩
  · clear hI hend hHeld
    refine steps_cons ?_ ?_
    · rintro b a w' ⟨ha, hI⟩ hb_ hon hoff
      refine ⟨_, rfl, fun K hK => ?_⟩
      have e2 : a.tmps[2]? = some (.pointer (some ⟨w0.heap.size, 0, none⟩)) := by rw [ha]; exact (putSel_off rfl).trans s2
      replace ha := Aside0.mk ha
      refine value_ (w1 := w') (v := .pointer (some ⟨w0.heap.size, 5, none⟩)) (by rfl) rfl ?_ ?_
      · go_simp; try rfl
        all_goals (try (simp only [IntKind.wrap_i64]; omega))
      exact hK.out _ _ ⟨(by rw [ha.out]; exact putSel_upk 0 hb_ rfl rfl rfl), hI⟩
    refine steps_cons ?_ ?_
    · rintro b a w' ⟨ha, hI⟩ hb_ hon hoff
      refine ⟨_, rfl, fun K hK => ?_⟩
      have e135 : a.tmps[135]? = some (.pointer (some ⟨w0.heap.size, 5, none⟩)) := by rw [ha]; exact putSel_on (e := (0, 135, .pointer (some ⟨w0.heap.size, 5, none⟩))) 0 rfl rfl (hon 0 (by kernel_rfl)) (by rw [hsz]; rfl)
      replace ha := Aside0.mk ha
      have m0 := Own.c hI 1 5 rfl rfl
      refine value_ (w1 := w') (v := .pointer none) (by rfl) rfl ?_ ?_
      · go_simp; try rfl
        all_goals (try (simp only [IntKind.wrap_i64]; omega))
      exact hK.out _ _ ⟨(by rw [ha.out]; exact putSel_upk 1 hb_ rfl rfl rfl), hI⟩
    refine steps_cons ?_ ?_
    · rintro b a w' ⟨ha, hI⟩ hb_ hon hoff
      refine ⟨_, rfl, fun K hK => ?_⟩
      have e136 : a.tmps[136]? = some (.pointer none) := by rw [ha]; exact putSel_on (e := (1, 136, .pointer none)) 1 rfl rfl (hon 1 (by kernel_rfl)) (by rw [hsz]; rfl)
      replace ha := Aside0.mk ha
      refine value_ (w1 := w') (v := .bool true) (by rfl) rfl ?_ ?_
      · go_simp; try rfl
        all_goals (try (simp only [IntKind.wrap_i64]; omega))
      exact hK.out _ _ ⟨(by rw [ha.out]; exact putSel_upk 2 hb_ rfl rfl rfl), hI⟩
    refine steps_cons ?_ ?_
    · rintro b a w' ⟨ha, hI⟩ hb_ hon hoff
      refine ⟨_, rfl, fun K hK => ?_⟩
      have e137 : a.tmps[137]? = some (.bool true) := by rw [ha]; exact putSel_on (e := (2, 137, .bool true)) 2 rfl rfl (hon 2 (by kernel_rfl)) (by rw [hsz]; rfl)
      replace ha := Aside0.mk ha
      refine value_ (w1 := w') (v := .bool true) (by rfl) rfl ?_ ?_
      · go_simp; try rfl
        all_goals (try (simp only [IntKind.wrap_i64]; omega))
      exact hK.out _ _ ⟨(by rw [ha.out]; exact putSel_upk 3 hb_ rfl rfl rfl), hI⟩
    refine steps_cons ?_ ?_
    · rintro b a w' ⟨ha, hI⟩ hb_ hon hoff
      refine ⟨_, rfl, fun K hK => ?_⟩
      have e138 : a.tmps[138]? = some (.bool true) := by rw [ha]; exact putSel_on (e := (3, 138, .bool true)) 3 rfl rfl (hon 3 (by kernel_rfl)) (by rw [hsz]; rfl)
      exact off_ (wanted_off rfl rfl rfl e138) (hK.out _ _ ⟨(by rw [ha]; exact putSel_upk 4 hb_ rfl rfl rfl), hI⟩)
    refine steps_cons ?_ ?_
    · rintro b a w' ⟨ha, hI⟩ hb_ hon hoff
      refine ⟨_, rfl, fun K hK => ?_⟩
      have e138 : a.tmps[138]? = some (.bool true) := by rw [ha]; exact putSel_on (e := (3, 138, .bool true)) 3 rfl rfl (hon 3 (by kernel_rfl)) (by rw [hsz]; rfl)
      exact off_ (wanted_off rfl rfl rfl e138) (hK.out _ _ ⟨(by rw [ha]; exact putSel_upk 5 hb_ rfl rfl rfl), hI⟩)
    refine steps_cons ?_ ?_
    · rintro b a w' ⟨ha, hI⟩ hb_ hon hoff
      refine ⟨_, rfl, fun K hK => ?_⟩
      have e138 : a.tmps[138]? = some (.bool true) := by rw [ha]; exact putSel_on (e := (3, 138, .bool true)) 3 rfl rfl (hon 3 (by kernel_rfl)) (by rw [hsz]; rfl)
      exact off_ (wanted_off rfl rfl rfl e138) (hK.out _ _ ⟨(by rw [ha]; exact putSel_upk 6 hb_ rfl rfl rfl), hI⟩)
    refine steps_cons ?_ ?_
    · rintro b a w' ⟨ha, hI⟩ hb_ hon hoff
      refine ⟨_, rfl, fun K hK => ?_⟩
      have e138 : a.tmps[138]? = some (.bool true) := by rw [ha]; exact putSel_on (e := (3, 138, .bool true)) 3 rfl rfl (hon 3 (by kernel_rfl)) (by rw [hsz]; rfl)
      exact off_ (wanted_off rfl rfl rfl e138) (hK.out _ _ ⟨(by rw [ha]; exact putSel_upk 7 hb_ rfl rfl rfl), hI⟩)
    refine steps_cons ?_ ?_
    · rintro b a w' ⟨ha, hI⟩ hb_ hon hoff
      refine ⟨_, rfl, fun K hK => ?_⟩
      have e138 : a.tmps[138]? = some (.bool true) := by rw [ha]; exact putSel_on (e := (3, 138, .bool true)) 3 rfl rfl (hon 3 (by kernel_rfl)) (by rw [hsz]; rfl)
      exact off_ (wanted_off rfl rfl rfl e138) (hK.out _ _ ⟨(by rw [ha]; exact putSel_upk 8 hb_ rfl rfl rfl), hI⟩)
    refine steps_cons ?_ ?_
    · rintro b a w' ⟨ha, hI⟩ hb_ hon hoff
      refine ⟨_, rfl, fun K hK => ?_⟩
      have e138 : a.tmps[138]? = some (.bool true) := by rw [ha]; exact putSel_on (e := (3, 138, .bool true)) 3 rfl rfl (hon 3 (by kernel_rfl)) (by rw [hsz]; rfl)
      exact off_ (wanted_off rfl rfl rfl e138) (hK.out _ _ ⟨(by rw [ha]; exact putSel_upk 9 hb_ rfl rfl rfl), hI⟩)
    refine steps_cons ?_ ?_
    · rintro b a w' ⟨ha, hI⟩ hb_ hon hoff
      refine ⟨_, rfl, fun K hK => ?_⟩
      have e138 : a.tmps[138]? = some (.bool true) := by rw [ha]; exact putSel_on (e := (3, 138, .bool true)) 3 rfl rfl (hon 3 (by kernel_rfl)) (by rw [hsz]; rfl)
      exact off_ (wanted_off rfl rfl rfl e138) (hK.out _ _ ⟨(by rw [ha]; exact putSel_upk 10 hb_ rfl rfl rfl), hI⟩)
    refine steps_cons ?_ ?_
    · rintro b a w' ⟨ha, hI⟩ hb_ hon hoff
      refine ⟨_, rfl, fun K hK => ?_⟩
      have e138 : a.tmps[138]? = some (.bool true) := by rw [ha]; exact putSel_on (e := (3, 138, .bool true)) 3 rfl rfl (hon 3 (by kernel_rfl)) (by rw [hsz]; rfl)
      exact off_ (wanted_off rfl rfl rfl e138) (hK.out _ _ ⟨(by rw [ha]; exact putSel_upk 11 hb_ rfl rfl rfl), hI⟩)
    refine steps_cons ?_ ?_
    · rintro b a w' ⟨ha, hI⟩ hb_ hon hoff
      refine ⟨_, rfl, fun K hK => ?_⟩
      have e138 : a.tmps[138]? = some (.bool true) := by rw [ha]; exact putSel_on (e := (3, 138, .bool true)) 3 rfl rfl (hon 3 (by kernel_rfl)) (by rw [hsz]; rfl)
      exact off_ (wanted_off rfl rfl rfl e138) (hK.out _ _ ⟨(by rw [ha]; exact putSel_upk 12 hb_ rfl rfl rfl), hI⟩)
    refine steps_cons ?_ ?_
    · rintro b a w' ⟨ha, hI⟩ hb_ hon hoff
      refine ⟨_, rfl, fun K hK => ?_⟩
      have e138 : a.tmps[138]? = some (.bool true) := by rw [ha]; exact putSel_on (e := (3, 138, .bool true)) 3 rfl rfl (hon 3 (by kernel_rfl)) (by rw [hsz]; rfl)
      have e147 : a.tmps[147]? = some (undef) := by rw [ha]; exact putSel_on (e := (12, 147, undef)) 12 rfl rfl (hon 12 (by kernel_rfl)) (by rw [hsz]; rfl)
      replace ha := Aside0.mk ha
      refine value_ (w1 := w') (v := .bool true) (by rfl) rfl ?_ ?_
      · go_simp; try rfl
        all_goals (try (simp only [IntKind.wrap_i64]; omega))
      exact hK.out _ _ ⟨(by rw [ha.out]; exact putSel_upk 13 hb_ rfl rfl rfl), hI⟩
    refine steps_cons ?_ ?_
    · rintro b a w' ⟨ha, hI⟩ hb_ hon hoff
      refine ⟨_, rfl, fun K hK => ?_⟩
      have e148 : a.tmps[148]? = some (.bool true) := by rw [ha]; exact putSel_on (e := (13, 148, .bool true)) 13 rfl rfl (hon 13 (by kernel_rfl)) (by rw [hsz]; rfl)
      replace ha := Aside0.mk ha
      refine value_ (w1 := w') (v := .bool true) (by rfl) rfl ?_ ?_
      · go_simp; try rfl
        all_goals (try (simp only [IntKind.wrap_i64]; omega))
      exact hK.out _ _ ⟨(by rw [ha.out]; exact putSel_upk 14 hb_ rfl rfl rfl), hI⟩
    exact steps_nil
  rintro b a w1 hall ⟨ha, hI1⟩
  exact hend a w1 hI1 (by rw [ha]; simp only [putSel, if_true, hall 0 (by kernel_rfl), hall 1 (by kernel_rfl), hall 2 (by kernel_rfl), hall 3 (by kernel_rfl), hall 4 (by kernel_rfl), hall 5 (by kernel_rfl), hall 6 (by kernel_rfl), hall 7 (by kernel_rfl), hall 8 (by kernel_rfl), hall 9 (by kernel_rfl), hall 10 (by kernel_rfl), hall 11 (by kernel_rfl), hall 12 (by kernel_rfl), hall 13 (by kernel_rfl), hall 14 (by kernel_rfl)]) (by rw [ha]; exact (putSel_size b _ a0).2) (by rw [ha]; exact putSel_on (e := (14, 4, .bool true)) 14 rfl rfl (hall 14 (by kernel_rfl)) (by rw [hsz]; rfl))
end Go.Proofs.YtipmphgkdomebaaDoor
namespace Go.Proofs.YtipmphgkdomebaaDoor
open Go.RowKit Go.Proofs.YtipmphgkdomebaaDoorW.PrintWords Go.Proofs.YtipmphgkdomebaaDoorW.PrintLast
set_option linter.unusedVariables false
set_option linter.unusedSimpArgs false
def as82ys.T : Bool × List (List Nat × List Nat) := (true, [([], []), ([0], [0]), ([1], [1]), ([2], [2]), ([3], [3]), ([4, 3], [3, 4]), ([5, 3], [3, 5]), ([6, 3], [3, 6]), ([3], [3]), ([8, 3], [3, 8]), ([9, 3], [3, 9]), ([10, 3], [3, 10]), ([7, 11, 3, 3], [3, 7, 11]), ([3, 12], [3, 12]), ([13, 12, 0, 1, 2, 3, 4, 5, 6, 7, 8, 9, 10, 11, 12, 13], [13])])
def as82ys.B : List Nat := [0, 1, 3, 7, 15, 31, 63, 127, 15, 271, 783, 1807, 4095, 8191, 16383]
theorem as82ys.tab : rtab .any (opsOf Tryd.f82 17) = as82ys.T := by kernel_rfl
theorem as82ys.bits : waitsOk as82ys.T.2 as82ys.B = true := by kernel_rfl
set_option maxRecDepth 100000 in
set_option maxHeartbeats 4000000 in
theorem as82ys (w0 : World) (x1 x2 : EX) (A1 A2 : Option Addr) (ca1 ca2 cv1 cv2 : Nat) (V1 V2 : Option Addr) (b3 o3 b4 o4 : Nat) (y1 y2 : EX) (j1 j2 : Tri) (E1 : ExAt w0 ⟨b3, o3, none⟩ y1 j1) (E2 : ExAt w0 ⟨b4, o4, none⟩ y2 j2) (s : Bool) (cS : ∀ W, Below w0.heap.size w0 W → Calls Tryd.prog 82 #[.agg #[.int .i64 y1.kind, .string y1.text, .string y1.name, .string y1.attr, .slice j1.A y1.na j1.ca, .pointer j1.P, .slice j1.V y1.nv j1.cv], .agg #[.int .i64 y2.kind, .string y2.text, .string y2.name, .string y2.attr, .slice j2.A y2.na j2.ca, .pointer j2.P, .slice j2.V y2.nv j2.cv]] W fun e w' => e = .returned (.bool s) ∧ Below W.heap.size W w') (a0 : Act) (s2 : a0.tmps[2]? = some (.pointer (some ⟨w0.heap.size, 0, none⟩))) (s3 : a0.tmps[3]? = some (.pointer (some ⟨w0.heap.size + 1, 0, none⟩))) (hsz : a0.tmps.size = Tryd.f82.ntmps) (W : World) (hI : ExI w0 x1 x2 A1 ca1 (some ⟨b3, o3, none⟩) V1 cv1 A2 ca2 (some ⟨b4, o4, none⟩) V2 cv2 W.drew) (Q : Exit → Act → World → Prop) (hend : ∀ (a9 : Act) w', ExI w0 x1 x2 A1 ca1 (some ⟨b3, o3, none⟩) V1 cv1 A2 ca2 (some ⟨b4, o4, none⟩) V2 cv2 w' → a9 = putSel a0 (fun _ => true) [(0, 135, .pointer (some ⟨w0.heap.size, 5, none⟩)), (1, 136, .pointer (some ⟨b3, o3, none⟩)), (2, 137, .bool false), (3, 138, .bool false), (4, 139, .pointer (some ⟨w0.heap.size, 5, none⟩)), (5, 140, .pointer (some ⟨b3, o3, none⟩)), (6, 141, .pointer (some ⟨b3, o3, none⟩)), (7, 142, .agg #[.int .i64 y1.kind, .string y1.text, .string y1.name, .string y1.attr, .slice j1.A y1.na j1.ca, .pointer j1.P, .slice j1.V y1.nv j1.cv]), (8, 143, .pointer (some ⟨w0.heap.size + 1, 5, none⟩)), (9, 144, .pointer (some ⟨b4, o4, none⟩)), (10, 145, .pointer (some ⟨b4, o4, none⟩)), (11, 146, .agg #[.int .i64 y2.kind, .string y2.text, .string y2.name, .string y2.attr, .slice j2.A y2.na j2.ca, .pointer j2.P, .slice j2.V y2.nv j2.cv]), (12, 147, .bool s), (13, 148, .bool s), (14, 4, .bool s)] → a9.defers = a0.defers → a9.tmps[4]? = some (.bool s) → Q .normal a9 w') :
    (Code.region 17 #[{ dst := some 135, op := Op.fieldAddr 40 (Operand.tmp 2) 5, type := 0, pos := "law.go:270", after := #[], guard := none }, { dst := some 136, op := Op.load 37 (Operand.tmp 135), type := 37, pos := "law.go:270", after := #[{ on := 0, ground := Ground.data }], guard := none }, { dst := some 137, op := Op.binOp BinOp.eql 37 (Operand.tmp 136) (Operand.const (Value.pointer none)) 37, type := 4, pos := "law.go:270", after := #[{ on := 1, ground := Ground.data }], guard := none }, { dst := some 138, op := Op.move (Operand.tmp 137), type := 4, pos := "law.go:270", after := #[{ on := 2, ground := Ground.data }], guard := none }, { dst := some 139, op := Op.fieldAddr 40 (Operand.tmp 2) 5, type := 0, pos := "law.go:270", after := #[{ on := 3, ground := Ground.guard }], guard := some (3, false) }, { dst := some 140, op := Op.load 37 (Operand.tmp 139), type := 37, pos := "law.go:270", after := #[{ on := 4, ground := Ground.data }, { on := 3, ground := Ground.guard }], guard := some (3, false) }, { dst := some 141, op := Op.nilCheck (Operand.tmp 140), type := 0, pos := "law.go:270", after := #[{ on := 5, ground := Ground.data }, { on := 3, ground := Ground.guard }], guard := some (3, false) }, { dst := some 142, op := Op.load 40 (Operand.tmp 141), type := 40, pos := "law.go:270", after := #[{ on := 6, ground := Ground.data }, { on := 3, ground := Ground.guard }], guard := some (3, false) }, { dst := some 143, op := Op.fieldAddr 40 (Operand.tmp 3) 5, type := 0, pos := "law.go:270", after := #[{ on := 3, ground := Ground.guard }], guard := some (3, false) }, { dst := some 144, op := Op.load 37 (Operand.tmp 143), type := 37, pos := "law.go:270", after := #[{ on := 8, ground := Ground.data }, { on := 3, ground := Ground.guard }], guard := some (3, false) }, { dst := some 145, op := Op.nilCheck (Operand.tmp 144), type := 0, pos := "law.go:270", after := #[{ on := 9, ground := Ground.data }, { on := 3, ground := Ground.guard }], guard := some (3, false) }, { dst := some 146, op := Op.load 40 (Operand.tmp 145), type := 40, pos := "law.go:270", after := #[{ on := 10, ground := Ground.data }, { on := 3, ground := Ground.guard }], guard := some (3, false) }, { dst := some 147, op := Op.call { callee := Callee.value (Operand.func 82), args := #[Operand.tmp 142, Operand.tmp 146], argTypes := #[40, 40] }, type := 4, pos := "law.go:270", after := #[{ on := 7, ground := Ground.data }, { on := 11, ground := Ground.data }, { on := 3, ground := Ground.chain }, { on := 3, ground := Ground.guard }], guard := some (3, false) }, { dst := some 148, op := Op.pick (Operand.tmp 138) (Operand.const (Value.bool true)) (Operand.tmp 147), type := 4, pos := "law.go:270", after := #[{ on := 3, ground := Ground.data }, { on := 12, ground := Ground.data }], guard := none }, { dst := some 4, op := Op.assign (Operand.tmp 148), type := 4, pos := "law.go:270", after := #[{ on := 13, ground := Ground.data }, { on := 12, ground := Ground.chain }, { on := 0, ground := Ground.phase }, { on := 1, ground := Ground.phase }, { on := 2, ground := Ground.phase }, { on := 3, ground := Ground.phase }, { on := 4, ground := Ground.phase }, { on := 5, ground := Ground.phase }, { on := 6, ground := Ground.phase }, { on := 7, ground := Ground.phase }, { on := 8, ground := Ground.phase }, { on := 9, ground := Ground.phase }, { on := 10, ground := Ground.phase }, { on := 11, ground := Ground.phase }, { on := 12, ground := Ground.phase }, { on := 13, ground := Ground.phase }], guard := none }] true).wp Tryd.prog Q a0 W := by
  refine start_ (n := 15) (S := fun w' => True) (ds := []) #[false, false, false, false, false, false, false, false, false, false, false, false, false, false, false] (by kernel_rfl) rfl rfl trivial (fun hHeld => ?_)
  refine with_tabW as82ys.tab as82ys.bits (fun HT_ HW_ => ?_)
  refine inv_at [0, 1, 2, 3, 4, 5, 6, 7, 8, 9, 10, 11, 12, 13, 14] (fun a0_ b a w' => a = putSel a0_ b [(0, 135, .pointer (some ⟨w0.heap.size, 5, none⟩)), (1, 136, .pointer (some ⟨b3, o3, none⟩)), (2, 137, .bool false), (3, 138, .bool false), (4, 139, .pointer (some ⟨w0.heap.size, 5, none⟩)), (5, 140, .pointer (some ⟨b3, o3, none⟩)), (6, 141, .pointer (some ⟨b3, o3, none⟩)), (7, 142, .agg #[.int .i64 y1.kind, .string y1.text, .string y1.name, .string y1.attr, .slice j1.A y1.na j1.ca, .pointer j1.P, .slice j1.V y1.nv j1.cv]), (8, 143, .pointer (some ⟨w0.heap.size + 1, 5, none⟩)), (9, 144, .pointer (some ⟨b4, o4, none⟩)), (10, 145, .pointer (some ⟨b4, o4, none⟩)), (11, 146, .agg #[.int .i64 y2.kind, .string y2.text, .string y2.name, .string y2.attr, .slice j2.A y2.na j2.ca, .pointer j2.P, .slice j2.V y2.nv j2.cv]), (12, 147, .bool s), (13, 148, .bool s), (14, 4, .bool s)] ∧ (ExI w0 x1 x2 A1 ca1 (some ⟨b3, o3, none⟩) V1 cv1 A2 ca2 (some ⟨b4, o4, none⟩) V2 cv2 w')) HT_.out HW_.out (by kernel_rfl) (by kernel_rfl) ?_ ?_ ?_
  · exact ⟨(by simp only [putSel, Bool.false_eq_true, if_false]), hI⟩
  · clear hI hend hHeld
    refine steps_cons ?_ ?_
    · rintro b a w' ⟨ha, hI⟩ hb_ hon hoff
      refine ⟨_, rfl, fun K hK => ?_⟩
      have e2 : a.tmps[2]? = some (.pointer (some ⟨w0.heap.size, 0, none⟩)) := by rw [ha]; exact (putSel_off rfl).trans s2
      replace ha := Aside0.mk ha
      refine value_ (w1 := w') (v := .pointer (some ⟨w0.heap.size, 5, none⟩)) (by rfl) rfl ?_ ?_
      · go_simp; try rfl
        all_goals (try (simp only [IntKind.wrap_i64]; omega))
      exact hK.out _ _ ⟨(by rw [ha.out]; exact putSel_upk 0 hb_ rfl rfl rfl), hI⟩
    refine steps_cons ?_ ?_
    · rintro b a w' ⟨ha, hI⟩ hb_ hon hoff
      refine ⟨_, rfl, fun K hK => ?_⟩
      have e135 : a.tmps[135]? = some (.pointer (some ⟨w0.heap.size, 5, none⟩)) := by rw [ha]; exact putSel_on (e := (0, 135, .pointer (some ⟨w0.heap.size, 5, none⟩))) 0 rfl rfl (hon 0 (by kernel_rfl)) (by rw [hsz]; rfl)
      replace ha := Aside0.mk ha
      have m0 := Own.c hI 1 5 rfl rfl
      refine value_ (w1 := w') (v := .pointer (some ⟨b3, o3, none⟩)) (by rfl) rfl ?_ ?_
      · go_simp; try rfl
        all_goals (try (simp only [IntKind.wrap_i64]; omega))
      exact hK.out _ _ ⟨(by rw [ha.out]; exact putSel_upk 1 hb_ rfl rfl rfl), hI⟩
    refine steps_cons ?_ ?_
    · rintro b a w' ⟨ha, hI⟩ hb_ hon hoff
      refine ⟨_, rfl, fun K hK => ?_⟩
      have e136 : a.tmps[136]? = some (.pointer (some ⟨b3, o3, none⟩)) := by rw [ha]; exact putSel_on (e := (1, 136, .pointer (some ⟨b3, o3, none⟩))) 1 rfl rfl (hon 1 (by kernel_rfl)) (by rw [hsz]; rfl)
      replace ha := Aside0.mk ha
      refine value_ (w1 := w') (v := .bool false) (by rfl) rfl ?_ ?_
      · go_simp; try rfl
        all_goals (try (simp only [IntKind.wrap_i64]; omega))
      exact hK.out _ _ ⟨(by rw [ha.out]; exact putSel_upk 2 hb_ rfl rfl rfl), hI⟩
    refine steps_cons ?_ ?_
    · rintro b a w' ⟨ha, hI⟩ hb_ hon hoff
      refine ⟨_, rfl, fun K hK => ?_⟩
      have e137 : a.tmps[137]? = some (.bool false) := by rw [ha]; exact putSel_on (e := (2, 137, .bool false)) 2 rfl rfl (hon 2 (by kernel_rfl)) (by rw [hsz]; rfl)
      replace ha := Aside0.mk ha
      refine value_ (w1 := w') (v := .bool false) (by rfl) rfl ?_ ?_
      · go_simp; try rfl
        all_goals (try (simp only [IntKind.wrap_i64]; omega))
      exact hK.out _ _ ⟨(by rw [ha.out]; exact putSel_upk 3 hb_ rfl rfl rfl), hI⟩
    refine steps_cons ?_ ?_
    · rintro b a w' ⟨ha, hI⟩ hb_ hon hoff
      refine ⟨_, rfl, fun K hK => ?_⟩
      have e2 : a.tmps[2]? = some (.pointer (some ⟨w0.heap.size, 0, none⟩)) := by rw [ha]; exact (putSel_off rfl).trans s2
      have e138 : a.tmps[138]? = some (.bool false) := by rw [ha]; exact putSel_on (e := (3, 138, .bool false)) 3 rfl rfl (hon 3 (by kernel_rfl)) (by rw [hsz]; rfl)
      replace ha := Aside0.mk ha
      refine value_ (w1 := w') (v := .pointer (some ⟨w0.heap.size, 5, none⟩)) (wanted_on rfl rfl rfl e138) rfl ?_ ?_
      · go_simp; try rfl
        all_goals (try (simp only [IntKind.wrap_i64]; omega))
      exact hK.out _ _ ⟨(by rw [ha.out]; exact putSel_upk 4 hb_ rfl rfl rfl), hI⟩
    refine steps_cons ?_ ?_
    · rintro b a w' ⟨ha, hI⟩ hb_ hon hoff
      refine ⟨_, rfl, fun K hK => ?_⟩
      have e139 : a.tmps[139]? = some (.pointer (some ⟨w0.heap.size, 5, none⟩)) := by rw [ha]; exact putSel_on (e := (4, 139, .pointer (some ⟨w0.heap.size, 5, none⟩))) 4 rfl rfl (hon 4 (by kernel_rfl)) (by rw [hsz]; rfl)
      have e138 : a.tmps[138]? = some (.bool false) := by rw [ha]; exact putSel_on (e := (3, 138, .bool false)) 3 rfl rfl (hon 3 (by kernel_rfl)) (by rw [hsz]; rfl)
      replace ha := Aside0.mk ha
      have m0 := Own.c hI 1 5 rfl rfl
      refine value_ (w1 := w') (v := .pointer (some ⟨b3, o3, none⟩)) (wanted_on rfl rfl rfl e138) rfl ?_ ?_
      · go_simp; try rfl
        all_goals (try (simp only [IntKind.wrap_i64]; omega))
      exact hK.out _ _ ⟨(by rw [ha.out]; exact putSel_upk 5 hb_ rfl rfl rfl), hI⟩
    refine steps_cons ?_ ?_
    · rintro b a w' ⟨ha, hI⟩ hb_ hon hoff
      refine ⟨_, rfl, fun K hK => ?_⟩
      have e140 : a.tmps[140]? = some (.pointer (some ⟨b3, o3, none⟩)) := by rw [ha]; exact putSel_on (e := (5, 140, .pointer (some ⟨b3, o3, none⟩))) 5 rfl rfl (hon 5 (by kernel_rfl)) (by rw [hsz]; rfl)
      have e138 : a.tmps[138]? = some (.bool false) := by rw [ha]; exact putSel_on (e := (3, 138, .bool false)) 3 rfl rfl (hon 3 (by kernel_rfl)) (by rw [hsz]; rfl)
      replace ha := Aside0.mk ha
      refine value_ (w1 := w') (v := .pointer (some ⟨b3, o3, none⟩)) (wanted_on rfl rfl rfl e138) rfl ?_ ?_
      · go_simp; try rfl
        all_goals (try (simp only [IntKind.wrap_i64]; omega))
      exact hK.out _ _ ⟨(by rw [ha.out]; exact putSel_upk 6 hb_ rfl rfl rfl), hI⟩
    refine steps_cons ?_ ?_
    · rintro b a w' ⟨ha, hI⟩ hb_ hon hoff
      refine ⟨_, rfl, fun K hK => ?_⟩
      have e141 : a.tmps[141]? = some (.pointer (some ⟨b3, o3, none⟩)) := by rw [ha]; exact putSel_on (e := (6, 141, .pointer (some ⟨b3, o3, none⟩))) 6 rfl rfl (hon 6 (by kernel_rfl)) (by rw [hsz]; rfl)
      have e138 : a.tmps[138]? = some (.bool false) := by rw [ha]; exact putSel_on (e := (3, 138, .bool false)) 3 rfl rfl (hon 3 (by kernel_rfl)) (by rw [hsz]; rfl)
      replace ha := Aside0.mk ha
      have m0 := Kept.of (Own.bel hI) _ _ _ E1.c0
      have m1 := Kept.of (Own.bel hI) _ _ _ E1.c1
      have m2 := Kept.of (Own.bel hI) _ _ _ E1.c2
      have m3 := Kept.of (Own.bel hI) _ _ _ E1.c3
      have m4 := Kept.of (Own.bel hI) _ _ _ E1.c4
      have m5 := Kept.of (Own.bel hI) _ _ _ E1.c5
      have m6 := Kept.of (Own.bel hI) _ _ _ E1.c6
      refine value_ (w1 := w') (v := .agg #[.int .i64 y1.kind, .string y1.text, .string y1.name, .string y1.attr, .slice j1.A y1.na j1.ca, .pointer j1.P, .slice j1.V y1.nv j1.cv]) (wanted_on rfl rfl rfl e138) rfl ?_ ?_
      · go_simp; try rfl
        all_goals (try (simp only [IntKind.wrap_i64]; omega))
      exact hK.out _ _ ⟨(by rw [ha.out]; exact putSel_upk 7 hb_ rfl rfl rfl), hI⟩
    refine steps_cons ?_ ?_
    · rintro b a w' ⟨ha, hI⟩ hb_ hon hoff
      refine ⟨_, rfl, fun K hK => ?_⟩
      have e3 : a.tmps[3]? = some (.pointer (some ⟨w0.heap.size + 1, 0, none⟩)) := by rw [ha]; exact (putSel_off rfl).trans s3
      have e138 : a.tmps[138]? = some (.bool false) := by rw [ha]; exact putSel_on (e := (3, 138, .bool false)) 3 rfl rfl (hon 3 (by kernel_rfl)) (by rw [hsz]; rfl)
      replace ha := Aside0.mk ha
      refine value_ (w1 := w') (v := .pointer (some ⟨w0.heap.size + 1, 5, none⟩)) (wanted_on rfl rfl rfl e138) rfl ?_ ?_
      · go_simp; try rfl
        all_goals (try (simp only [IntKind.wrap_i64]; omega))
      exact hK.out _ _ ⟨(by rw [ha.out]; exact putSel_upk 8 hb_ rfl rfl rfl), hI⟩
    refine steps_cons ?_ ?_
    · rintro b a w' ⟨ha, hI⟩ hb_ hon hoff
      refine ⟨_, rfl, fun K hK => ?_⟩
      have e143 : a.tmps[143]? = some (.pointer (some ⟨w0.heap.size + 1, 5, none⟩)) := by rw [ha]; exact putSel_on (e := (8, 143, .pointer (some ⟨w0.heap.size + 1, 5, none⟩))) 8 rfl rfl (hon 8 (by kernel_rfl)) (by rw [hsz]; rfl)
      have e138 : a.tmps[138]? = some (.bool false) := by rw [ha]; exact putSel_on (e := (3, 138, .bool false)) 3 rfl rfl (hon 3 (by kernel_rfl)) (by rw [hsz]; rfl)
      replace ha := Aside0.mk ha
      have m0 := Own.c hI 0 5 rfl rfl
      refine value_ (w1 := w') (v := .pointer (some ⟨b4, o4, none⟩)) (wanted_on rfl rfl rfl e138) rfl ?_ ?_
      · go_simp; try rfl
        all_goals (try (simp only [IntKind.wrap_i64]; omega))
      exact hK.out _ _ ⟨(by rw [ha.out]; exact putSel_upk 9 hb_ rfl rfl rfl), hI⟩
    refine steps_cons ?_ ?_
    · rintro b a w' ⟨ha, hI⟩ hb_ hon hoff
      refine ⟨_, rfl, fun K hK => ?_⟩
      have e144 : a.tmps[144]? = some (.pointer (some ⟨b4, o4, none⟩)) := by rw [ha]; exact putSel_on (e := (9, 144, .pointer (some ⟨b4, o4, none⟩))) 9 rfl rfl (hon 9 (by kernel_rfl)) (by rw [hsz]; rfl)
      have e138 : a.tmps[138]? = some (.bool false) := by rw [ha]; exact putSel_on (e := (3, 138, .bool false)) 3 rfl rfl (hon 3 (by kernel_rfl)) (by rw [hsz]; rfl)
      replace ha := Aside0.mk ha
      refine value_ (w1 := w') (v := .pointer (some ⟨b4, o4, none⟩)) (wanted_on rfl rfl rfl e138) rfl ?_ ?_
      · go_simp; try rfl
        all_goals (try (simp only [IntKind.wrap_i64]; omega))
      exact hK.out _ _ ⟨(by rw [ha.out]; exact putSel_upk 10 hb_ rfl rfl rfl), hI⟩
    refine steps_cons ?_ ?_
    · rintro b a w' ⟨ha, hI⟩ hb_ hon hoff
      refine ⟨_, rfl, fun K hK => ?_⟩
      have e145 : a.tmps[145]? = some (.pointer (some ⟨b4, o4, none⟩)) := by rw [ha]; exact putSel_on (e := (10, 145, .pointer (some ⟨b4, o4, none⟩))) 10 rfl rfl (hon 10 (by kernel_rfl)) (by rw [hsz]; rfl)
      have e138 : a.tmps[138]? = some (.bool false) := by rw [ha]; exact putSel_on (e := (3, 138, .bool false)) 3 rfl rfl (hon 3 (by kernel_rfl)) (by rw [hsz]; rfl)
      replace ha := Aside0.mk ha
      have m0 := Kept.of (Own.bel hI) _ _ _ E2.c0
      have m1 := Kept.of (Own.bel hI) _ _ _ E2.c1
      have m2 := Kept.of (Own.bel hI) _ _ _ E2.c2
      have m3 := Kept.of (Own.bel hI) _ _ _ E2.c3
      have m4 := Kept.of (Own.bel hI) _ _ _ E2.c4
      have m5 := Kept.of (Own.bel hI) _ _ _ E2.c5
      have m6 := Kept.of (Own.bel hI) _ _ _ E2.c6
      refine value_ (w1 := w') (v := .agg #[.int .i64 y2.kind, .string y2.text, .string y2.name, .string y2.attr, .slice j2.A y2.na j2.ca, .pointer j2.P, .slice j2.V y2.nv j2.cv]) (wanted_on rfl rfl rfl e138) rfl ?_ ?_
      · go_simp; try rfl
        all_goals (try (simp only [IntKind.wrap_i64]; omega))
      exact hK.out _ _ ⟨(by rw [ha.out]; exact putSel_upk 11 hb_ rfl rfl rfl), hI⟩
    refine steps_cons ?_ ?_
    · rintro b a w' ⟨ha, hI⟩ hb_ hon hoff
      refine ⟨_, rfl, fun K hK => ?_⟩
      have e142 : a.tmps[142]? = some (.agg #[.int .i64 y1.kind, .string y1.text, .string y1.name, .string y1.attr, .slice j1.A y1.na j1.ca, .pointer j1.P, .slice j1.V y1.nv j1.cv]) := by rw [ha]; exact putSel_on (e := (7, 142, .agg #[.int .i64 y1.kind, .string y1.text, .string y1.name, .string y1.attr, .slice j1.A y1.na j1.ca, .pointer j1.P, .slice j1.V y1.nv j1.cv])) 7 rfl rfl (hon 7 (by kernel_rfl)) (by rw [hsz]; rfl)
      have e146 : a.tmps[146]? = some (.agg #[.int .i64 y2.kind, .string y2.text, .string y2.name, .string y2.attr, .slice j2.A y2.na j2.ca, .pointer j2.P, .slice j2.V y2.nv j2.cv]) := by rw [ha]; exact putSel_on (e := (11, 146, .agg #[.int .i64 y2.kind, .string y2.text, .string y2.name, .string y2.attr, .slice j2.A y2.na j2.ca, .pointer j2.P, .slice j2.V y2.nv j2.cv])) 11 rfl rfl (hon 11 (by kernel_rfl)) (by rw [hsz]; rfl)
      have e138 : a.tmps[138]? = some (.bool false) := by rw [ha]; exact putSel_on (e := (3, 138, .bool false)) 3 rfl rfl (hon 3 (by kernel_rfl)) (by rw [hsz]; rfl)
      replace ha := Aside0.mk ha
      refine goes_ Tryd.func82 (by kernel_rfl) rfl #[.agg #[.int .i64 y1.kind, .string y1.text, .string y1.name, .string y1.attr, .slice j1.A y1.na j1.ca, .pointer j1.P, .slice j1.V y1.nv j1.cv], .agg #[.int .i64 y2.kind, .string y2.text, .string y2.name, .string y2.attr, .slice j2.A y2.na j2.ca, .pointer j2.P, .slice j2.V y2.nv j2.cv]] (wanted_on rfl rfl rfl e138) rfl rfl (by first | (simp only [List.map_toArray, List.map_cons, List.map_nil, Act.eval, Array.getD_eq_getD_getElem?, Option.getD_some, e142, e146]; done) | (simp only [List.map_toArray, List.map_cons, List.map_nil, Act.eval, Array.getD_eq_getD_getElem?, Option.getD_some, e142, e146]; rfl)) ?_
      refine (cS w' (Own.bel hI)).mono ?_
      rintro e w1 ⟨rfl, b1⟩; have hI1 := ExI.step hI b1
      exact ⟨_, rfl, hK.out _ _ ⟨(by rw [ha.out]; exact putSel_upk 12 hb_ rfl rfl rfl), hI1⟩⟩
    refine steps_cons ?_ ?_
    · rintro b a w' ⟨ha, hI⟩ hb_ hon hoff
      refine ⟨_, rfl, fun K hK => ?_⟩
      have e138 : a.tmps[138]? = some (.bool false) := by rw [ha]; exact putSel_on (e := (3, 138, .bool false)) 3 rfl rfl (hon 3 (by kernel_rfl)) (by rw [hsz]; rfl)
      have e147 : a.tmps[147]? = some (.bool s) := by rw [ha]; exact putSel_on (e := (12, 147, .bool s)) 12 rfl rfl (hon 12 (by kernel_rfl)) (by rw [hsz]; rfl)
      replace ha := Aside0.mk ha
      refine value_ (w1 := w') (v := .bool s) (by rfl) rfl ?_ ?_
      · go_simp; try rfl
        all_goals (try (simp only [IntKind.wrap_i64]; omega))
      exact hK.out _ _ ⟨(by rw [ha.out]; exact putSel_upk 13 hb_ rfl rfl rfl), hI⟩
    refine steps_cons ?_ ?_
    · rintro b a w' ⟨ha, hI⟩ hb_ hon hoff
      refine ⟨_, rfl, fun K hK => ?_⟩
      have e148 : a.tmps[148]? = some (.bool s) := by rw [ha]; exact putSel_on (e := (13, 148, .bool s)) 13 rfl rfl (hon 13 (by kernel_rfl)) (by rw [hsz]; rfl)
      replace ha := Aside0.mk ha
      refine value_ (w1 := w') (v := .bool s) (by rfl) rfl ?_ ?_
      · go_simp; try rfl
        all_goals (try (simp only [IntKind.wrap_i64]; omega))
      exact hK.out _ _ ⟨(by rw [ha.out]; exact putSel_upk 14 hb_ rfl rfl rfl), hI⟩
    exact steps_nil
  rintro b a w1 hall ⟨ha, hI1⟩
  exact hend a w1 hI1 (by rw [ha]; simp only [putSel, if_true, hall 0 (by kernel_rfl), hall 1 (by kernel_rfl), hall 2 (by kernel_rfl), hall 3 (by kernel_rfl), hall 4 (by kernel_rfl), hall 5 (by kernel_rfl), hall 6 (by kernel_rfl), hall 7 (by kernel_rfl), hall 8 (by kernel_rfl), hall 9 (by kernel_rfl), hall 10 (by kernel_rfl), hall 11 (by kernel_rfl), hall 12 (by kernel_rfl), hall 13 (by kernel_rfl), hall 14 (by kernel_rfl)]) (by rw [ha]; exact (putSel_size b _ a0).2) (by rw [ha]; exact putSel_on (e := (14, 4, .bool s)) 14 rfl rfl (hall 14 (by kernel_rfl)) (by rw [hsz]; rfl))
end Go.Proofs.YtipmphgkdomebaaDoor
namespace Go.Proofs.YtipmphgkdomebaaDoor
open Go.RowKit Go.Proofs.YtipmphgkdomebaaDoorW.PrintWords Go.Proofs.YtipmphgkdomebaaDoorW.PrintLast
set_option linter.unusedVariables false
set_option linter.unusedSimpArgs false
def as81s.T : Bool × List (List Nat × List Nat) := (true, [([], []), ([0], [0]), ([1], [1]), ([2], [2]), ([3], [3]), ([4, 3], [3, 4]), ([5, 3], [3, 5]), ([6, 3], [3, 6]), ([3], [3]), ([8, 3], [3, 8]), ([9, 3], [3, 9]), ([10, 3], [3, 10]), ([7, 11, 3, 3], [3, 7, 11]), ([12, 3], [3, 12]), ([3, 13], [3, 13])])
def as81s.B : List Nat := [0, 1, 3, 7, 15, 31, 63, 127, 15, 271, 783, 1807, 4095, 8191, 16383]
theorem as81s.tab : rtab .any (opsOf Tryd.f81 3) = as81s.T := by kernel_rfl
theorem as81s.bits : waitsOk as81s.T.2 as81s.B = true := by kernel_rfl
set_option maxRecDepth 100000 in
set_option maxHeartbeats 4000000 in
theorem as81s (w0 : World) (x1 x2 : EX) (A1 : Option Addr) (ca1 : Nat) (V1 : Option Addr) (cv1 : Nat) (A2 : Option Addr) (ca2 : Nat) (V2 : Option Addr) (cv2 : Nat) (b1 o1 b2 o2 : Nat) (y1 y2 : EX) (j1 j2 : Tri) (E1 : ExAt w0 ⟨b1, o1, none⟩ y1 j1) (E2 : ExAt w0 ⟨b2, o2, none⟩ y2 j2) (s : Bool) (cS : ∀ W, Below w0.heap.size w0 W → Calls Tryd.prog 81 #[.agg #[.int .i64 y1.kind, .string y1.text, .string y1.name, .string y1.attr, .slice j1.A y1.na j1.ca, .pointer j1.P, .slice j1.V y1.nv j1.cv], .agg #[.int .i64 y2.kind, .string y2.text, .string y2.name, .string y2.attr, .slice j2.A y2.na j2.ca, .pointer j2.P, .slice j2.V y2.nv j2.cv]] W fun e w' => e = .returned (.bool s) ∧ Below W.heap.size W w') (a0 : Act) (s2 : a0.tmps[2]? = some (.pointer (some ⟨w0.heap.size, 0, none⟩))) (s3 : a0.tmps[3]? = some (.pointer (some ⟨w0.heap.size + 1, 0, none⟩))) (hsz : a0.tmps.size = Tryd.f81.ntmps) (W : World) (hI : ExI w0 x1 x2 A1 ca1 (some ⟨b1, o1, none⟩) V1 cv1 A2 ca2 (some ⟨b2, o2, none⟩) V2 cv2 W.drew) (Q : Exit → Act → World → Prop) (hend : ∀ (a9 : Act) w', ExI w0 x1 x2 A1 ca1 (some ⟨b1, o1, none⟩) V1 cv1 A2 ca2 (some ⟨b2, o2, none⟩) V2 cv2 w' → a9 = putSel a0 (fun _ => true) [(0, 40, .pointer (some ⟨w0.heap.size, 5, none⟩)), (1, 41, .pointer (some ⟨b1, o1, none⟩)), (2, 42, .bool true), (3, 43, .bool true), (4, 44, .pointer (some ⟨w0.heap.size, 5, none⟩)), (5, 45, .pointer (some ⟨b1, o1, none⟩)), (6, 46, .pointer (some ⟨b1, o1, none⟩)), (7, 47, .agg #[.int .i64 y1.kind, .string y1.text, .string y1.name, .string y1.attr, .slice j1.A y1.na j1.ca, .pointer j1.P, .slice j1.V y1.nv j1.cv]), (8, 48, .pointer (some ⟨w0.heap.size + 1, 5, none⟩)), (9, 49, .pointer (some ⟨b2, o2, none⟩)), (10, 50, .pointer (some ⟨b2, o2, none⟩)), (11, 51, .agg #[.int .i64 y2.kind, .string y2.text, .string y2.name, .string y2.attr, .slice j2.A y2.na j2.ca, .pointer j2.P, .slice j2.V y2.nv j2.cv]), (12, 52, .bool s), (13, 53, .bool (!s)), (14, 54, .bool (!s))] → a9.defers = a0.defers → a9.tmps[54]? = some (.bool (!s)) → Q .normal a9 w') :
    (Code.region 3 #[{ dst := some 40, op := Op.fieldAddr 40 (Operand.tmp 2) 5, type := 0, pos := "ast.go:97", after := #[], guard := none }, { dst := some 41, op := Op.load 37 (Operand.tmp 40), type := 37, pos := "ast.go:97", after := #[{ on := 0, ground := Ground.data }], guard := none }, { dst := some 42, op := Op.binOp BinOp.neq 37 (Operand.tmp 41) (Operand.const (Value.pointer none)) 37, type := 4, pos := "ast.go:97", after := #[{ on := 1, ground := Ground.data }], guard := none }, { dst := some 43, op := Op.move (Operand.tmp 42), type := 4, pos := "ast.go:97", after := #[{ on := 2, ground := Ground.data }], guard := none }, { dst := some 44, op := Op.fieldAddr 40 (Operand.tmp 2) 5, type := 0, pos := "ast.go:97", after := #[{ on := 3, ground := Ground.guard }], guard := some (3, true) }, { dst := some 45, op := Op.load 37 (Operand.tmp 44), type := 37, pos := "ast.go:97", after := #[{ on := 4, ground := Ground.data }, { on := 3, ground := Ground.guard }], guard := some (3, true) }, { dst := some 46, op := Op.nilCheck (Operand.tmp 45), type := 0, pos := "ast.go:97", after := #[{ on := 5, ground := Ground.data }, { on := 3, ground := Ground.guard }], guard := some (3, true) }, { dst := some 47, op := Op.load 40 (Operand.tmp 46), type := 40, pos := "ast.go:97", after := #[{ on := 6, ground := Ground.data }, { on := 3, ground := Ground.guard }], guard := some (3, true) }, { dst := some 48, op := Op.fieldAddr 40 (Operand.tmp 3) 5, type := 0, pos := "ast.go:97", after := #[{ on := 3, ground := Ground.guard }], guard := some (3, true) }, { dst := some 49, op := Op.load 37 (Operand.tmp 48), type := 37, pos := "ast.go:97", after := #[{ on := 8, ground := Ground.data }, { on := 3, ground := Ground.guard }], guard := some (3, true) }, { dst := some 50, op := Op.nilCheck (Operand.tmp 49), type := 0, pos := "ast.go:97", after := #[{ on := 9, ground := Ground.data }, { on := 3, ground := Ground.guard }], guard := some (3, true) }, { dst := some 51, op := Op.load 40 (Operand.tmp 50), type := 40, pos := "ast.go:97", after := #[{ on := 10, ground := Ground.data }, { on := 3, ground := Ground.guard }], guard := some (3, true) }, { dst := some 52, op := Op.call { callee := Callee.value (Operand.func 81), args := #[Operand.tmp 47, Operand.tmp 51], argTypes := #[37, 40] }, type := 4, pos := "ast.go:97", after := #[{ on := 7, ground := Ground.data }, { on := 11, ground := Ground.data }, { on := 3, ground := Ground.chain }, { on := 3, ground := Ground.guard }], guard := some (3, true) }, { dst := some 53, op := Op.unOp UnOp.not 4 (Operand.tmp 52), type := 4, pos := "ast.go:97", after := #[{ on := 12, ground := Ground.data }, { on := 3, ground := Ground.guard }], guard := some (3, true) }, { dst := some 54, op := Op.pick (Operand.tmp 43) (Operand.tmp 53) (Operand.const (Value.bool false)), type := 4, pos := "ast.go:97", after := #[{ on := 3, ground := Ground.data }, { on := 13, ground := Ground.data }], guard := none }] true).wp Tryd.prog Q a0 W := by
  refine start_ (n := 15) (S := fun w' => True) (ds := []) #[false, false, false, false, false, false, false, false, false, false, false, false, false, false, false] (by kernel_rfl) rfl rfl trivial (fun hHeld => ?_)
  refine with_tabW as81s.tab as81s.bits (fun HT_ HW_ => ?_)
  refine inv_at [0, 1, 2, 3, 4, 5, 6, 7, 8, 9, 10, 11, 12, 13, 14] (fun a0_ b a w' => a = putSel a0_ b [(0, 40, .pointer (some ⟨w0.heap.size, 5, none⟩)), (1, 41, .pointer (some ⟨b1, o1, none⟩)), (2, 42, .bool true), (3, 43, .bool true), (4, 44, .pointer (some ⟨w0.heap.size, 5, none⟩)), (5, 45, .pointer (some ⟨b1, o1, none⟩)), (6, 46, .pointer (some ⟨b1, o1, none⟩)), (7, 47, .agg #[.int .i64 y1.kind, .string y1.text, .string y1.name, .string y1.attr, .slice j1.A y1.na j1.ca, .pointer j1.P, .slice j1.V y1.nv j1.cv]), (8, 48, .pointer (some ⟨w0.heap.size + 1, 5, none⟩)), (9, 49, .pointer (some ⟨b2, o2, none⟩)), (10, 50, .pointer (some ⟨b2, o2, none⟩)), (11, 51, .agg #[.int .i64 y2.kind, .string y2.text, .string y2.name, .string y2.attr, .slice j2.A y2.na j2.ca, .pointer j2.P, .slice j2.V y2.nv j2.cv]), (12, 52, .bool s), (13, 53, .bool (!s)), (14, 54, .bool (!s))] ∧ (ExI w0 x1 x2 A1 ca1 (some ⟨b1, o1, none⟩) V1 cv1 A2 ca2 (some ⟨b2, o2, none⟩) V2 cv2 w')) HT_.out HW_.out (by kernel_rfl) (by kernel_rfl) ?_ ?_ ?_
  · exact ⟨(by simp only [putSel, Bool.false_eq_true, if_false]), hI⟩
  · clear hI hend hHeld
    refine steps_cons ?_ ?_
    · rintro b a w' ⟨ha, hI⟩ hb_ hon hoff
      refine ⟨_, rfl, fun K hK => ?_⟩
      have e2 : a.tmps[2]? = some (.pointer (some ⟨w0.heap.size, 0, none⟩)) := by rw [ha]; exact (putSel_off rfl).trans s2
      replace ha := Aside0.mk ha
      refine value_ (w1 := w') (v := .pointer (some ⟨w0.heap.size, 5, none⟩)) (by rfl) rfl ?_ ?_
      · go_simp; try rfl
        all_goals (try (simp only [IntKind.wrap_i64]; omega))
      exact hK.out _ _ ⟨(by rw [ha.out]; exact putSel_upk 0 hb_ rfl rfl rfl), hI⟩
    refine steps_cons ?_ ?_
    · rintro b a w' ⟨ha, hI⟩ hb_ hon hoff
      refine ⟨_, rfl, fun K hK => ?_⟩
      have e40 : a.tmps[40]? = some (.pointer (some ⟨w0.heap.size, 5, none⟩)) := by rw [ha]; exact putSel_on (e := (0, 40, .pointer (some ⟨w0.heap.size, 5, none⟩))) 0 rfl rfl (hon 0 (by kernel_rfl)) (by rw [hsz]; rfl)
      replace ha := Aside0.mk ha
      have m0 := Own.c hI 1 5 rfl rfl
      refine value_ (w1 := w') (v := .pointer (some ⟨b1, o1, none⟩)) (by rfl) rfl ?_ ?_
      · go_simp; try rfl
        all_goals (try (simp only [IntKind.wrap_i64]; omega))
      exact hK.out _ _ ⟨(by rw [ha.out]; exact putSel_upk 1 hb_ rfl rfl rfl), hI⟩
    refine steps_cons ?_ ?_
    · rintro b a w' ⟨ha, hI⟩ hb_ hon hoff
      refine ⟨_, rfl, fun K hK => ?_⟩
      have e41 : a.tmps[41]? = some (.pointer (some ⟨b1, o1, none⟩)) := by rw [ha]; exact putSel_on (e := (1, 41, .pointer (some ⟨b1, o1, none⟩))) 1 rfl rfl (hon 1 (by kernel_rfl)) (by rw [hsz]; rfl)
      replace ha := Aside0.mk ha
      refine value_ (w1 := w') (v := .bool true) (by rfl) rfl ?_ ?_
      · go_simp; try rfl
        all_goals (try (simp only [IntKind.wrap_i64]; omega))
      exact hK.out _ _ ⟨(by rw [ha.out]; exact putSel_upk 2 hb_ rfl rfl rfl), hI⟩
    refine steps_cons ?_ ?_
    · rintro b a w' ⟨ha, hI⟩ hb_ hon hoff
      refine ⟨_, rfl, fun K hK => ?_⟩
      have e42 : a.tmps[42]? = some (.bool true) := by rw [ha]; exact putSel_on (e := (2, 42, .bool true)) 2 rfl rfl (hon 2 (by kernel_rfl)) (by rw [hsz]; rfl)
      replace ha := Aside0.mk ha
      refine value_ (w1 := w') (v := .bool true) (by rfl) rfl ?_ ?_
      · go_simp; try rfl
        all_goals (try (simp only [IntKind.wrap_i64]; omega))
      exact hK.out _ _ ⟨(by rw [ha.out]; exact putSel_upk 3 hb_ rfl rfl rfl), hI⟩
    refine steps_cons ?_ ?_
    · rintro b a w' ⟨ha, hI⟩ hb_ hon hoff
      refine ⟨_, rfl, fun K hK => ?_⟩
      have e2 : a.tmps[2]? = some (.pointer (some ⟨w0.heap.size, 0, none⟩)) := by rw [ha]; exact (putSel_off rfl).trans s2
      have e43 : a.tmps[43]? = some (.bool true) := by rw [ha]; exact putSel_on (e := (3, 43, .bool true)) 3 rfl rfl (hon 3 (by kernel_rfl)) (by rw [hsz]; rfl)
      replace ha := Aside0.mk ha
      refine value_ (w1 := w') (v := .pointer (some ⟨w0.heap.size, 5, none⟩)) (wanted_on rfl rfl rfl e43) rfl ?_ ?_
      · go_simp; try rfl
        all_goals (try (simp only [IntKind.wrap_i64]; omega))
      exact hK.out _ _ ⟨(by rw [ha.out]; exact putSel_upk 4 hb_ rfl rfl rfl), hI⟩
    refine steps_cons ?_ ?_
    · rintro b a w' ⟨ha, hI⟩ hb_ hon hoff
      refine ⟨_, rfl, fun K hK => ?_⟩
      have e44 : a.tmps[44]? = some (.pointer (some ⟨w0.heap.size, 5, none⟩)) := by rw [ha]; exact putSel_on (e := (4, 44, .pointer (some ⟨w0.heap.size, 5, none⟩))) 4 rfl rfl (hon 4 (by kernel_rfl)) (by rw [hsz]; rfl)
      have e43 : a.tmps[43]? = some (.bool true) := by rw [ha]; exact putSel_on (e := (3, 43, .bool true)) 3 rfl rfl (hon 3 (by kernel_rfl)) (by rw [hsz]; rfl)
      replace ha := Aside0.mk ha
      have m0 := Own.c hI 1 5 rfl rfl
      refine value_ (w1 := w') (v := .pointer (some ⟨b1, o1, none⟩)) (wanted_on rfl rfl rfl e43) rfl ?_ ?_
      · go_simp; try rfl
        all_goals (try (simp only [IntKind.wrap_i64]; omega))
      exact hK.out _ _ ⟨(by rw [ha.out]; exact putSel_upk 5 hb_ rfl rfl rfl), hI⟩
    refine steps_cons ?_ ?_
    · rintro b a w' ⟨ha, hI⟩ hb_ hon hoff
      refine ⟨_, rfl, fun K hK => ?_⟩
      have e45 : a.tmps[45]? = some (.pointer (some ⟨b1, o1, none⟩)) := by rw [ha]; exact putSel_on (e := (5, 45, .pointer (some ⟨b1, o1, none⟩))) 5 rfl rfl (hon 5 (by kernel_rfl)) (by rw [hsz]; rfl)
      have e43 : a.tmps[43]? = some (.bool true) := by rw [ha]; exact putSel_on (e := (3, 43, .bool true)) 3 rfl rfl (hon 3 (by kernel_rfl)) (by rw [hsz]; rfl)
      replace ha := Aside0.mk ha
      refine value_ (w1 := w') (v := .pointer (some ⟨b1, o1, none⟩)) (wanted_on rfl rfl rfl e43) rfl ?_ ?_
      · go_simp; try rfl
        all_goals (try (simp only [IntKind.wrap_i64]; omega))
      exact hK.out _ _ ⟨(by rw [ha.out]; exact putSel_upk 6 hb_ rfl rfl rfl), hI⟩
    refine steps_cons ?_ ?_
    · rintro b a w' ⟨ha, hI⟩ hb_ hon hoff
      refine ⟨_, rfl, fun K hK => ?_⟩
      have e46 : a.tmps[46]? = some (.pointer (some ⟨b1, o1, none⟩)) := by rw [ha]; exact putSel_on (e := (6, 46, .pointer (some ⟨b1, o1, none⟩))) 6 rfl rfl (hon 6 (by kernel_rfl)) (by rw [hsz]; rfl)
      have e43 : a.tmps[43]? = some (.bool true) := by rw [ha]; exact putSel_on (e := (3, 43, .bool true)) 3 rfl rfl (hon 3 (by kernel_rfl)) (by rw [hsz]; rfl)
      replace ha := Aside0.mk ha
      have m0 := Kept.of (Own.bel hI) _ _ _ E1.c0
      have m1 := Kept.of (Own.bel hI) _ _ _ E1.c1
      have m2 := Kept.of (Own.bel hI) _ _ _ E1.c2
      have m3 := Kept.of (Own.bel hI) _ _ _ E1.c3
      have m4 := Kept.of (Own.bel hI) _ _ _ E1.c4
      have m5 := Kept.of (Own.bel hI) _ _ _ E1.c5
      have m6 := Kept.of (Own.bel hI) _ _ _ E1.c6
      refine value_ (w1 := w') (v := .agg #[.int .i64 y1.kind, .string y1.text, .string y1.name, .string y1.attr, .slice j1.A y1.na j1.ca, .pointer j1.P, .slice j1.V y1.nv j1.cv]) (wanted_on rfl rfl rfl e43) rfl ?_ ?_
      · go_simp; try rfl
        all_goals (try (simp only [IntKind.wrap_i64]; omega))
      exact hK.out _ _ ⟨(by rw [ha.out]; exact putSel_upk 7 hb_ rfl rfl rfl), hI⟩
    refine steps_cons ?_ ?_
    · rintro b a w' ⟨ha, hI⟩ hb_ hon hoff
      refine ⟨_, rfl, fun K hK => ?_⟩
      have e3 : a.tmps[3]? = some (.pointer (some ⟨w0.heap.size + 1, 0, none⟩)) := by rw [ha]; exact (putSel_off rfl).trans s3
      have e43 : a.tmps[43]? = some (.bool true) := by rw [ha]; exact putSel_on (e := (3, 43, .bool true)) 3 rfl rfl (hon 3 (by kernel_rfl)) (by rw [hsz]; rfl)
      replace ha := Aside0.mk ha
      refine value_ (w1 := w') (v := .pointer (some ⟨w0.heap.size + 1, 5, none⟩)) (wanted_on rfl rfl rfl e43) rfl ?_ ?_
      · go_simp; try rfl
        all_goals (try (simp only [IntKind.wrap_i64]; omega))
      exact hK.out _ _ ⟨(by rw [ha.out]; exact putSel_upk 8 hb_ rfl rfl rfl), hI⟩
    refine steps_cons ?_ ?_
    · rintro b a w' ⟨ha, hI⟩ hb_ hon hoff
      refine ⟨_, rfl, fun K hK => ?_⟩
      have e48 : a.tmps[48]? = some (.pointer (some ⟨w0.heap.size + 1, 5, none⟩)) := by rw [ha]; exact putSel_on (e := (8, 48, .pointer (some ⟨w0.heap.size + 1, 5, none⟩))) 8 rfl rfl (hon 8 (by kernel_rfl)) (by rw [hsz]; rfl)
      have e43 : a.tmps[43]? = some (.bool true) := by rw [ha]; exact putSel_on (e := (3, 43, .bool true)) 3 rfl rfl (hon 3 (by kernel_rfl)) (by rw [hsz]; rfl)
      replace ha := Aside0.mk ha
      have m0 := Own.c hI 0 5 rfl rfl
      refine value_ (w1 := w') (v := .pointer (some ⟨b2, o2, none⟩)) (wanted_on rfl rfl rfl e43) rfl ?_ ?_
      · go_simp; try rfl
        all_goals (try (simp only [IntKind.wrap_i64]; omega))
      exact hK.out _ _ ⟨(by rw [ha.out]; exact putSel_upk 9 hb_ rfl rfl rfl), hI⟩
    refine steps_cons ?_ ?_
    · rintro b a w' ⟨ha, hI⟩ hb_ hon hoff
      refine ⟨_, rfl, fun K hK => ?_⟩
      have e49 : a.tmps[49]? = some (.pointer (some ⟨b2, o2, none⟩)) := by rw [ha]; exact putSel_on (e := (9, 49, .pointer (some ⟨b2, o2, none⟩))) 9 rfl rfl (hon 9 (by kernel_rfl)) (by rw [hsz]; rfl)
      have e43 : a.tmps[43]? = some (.bool true) := by rw [ha]; exact putSel_on (e := (3, 43, .bool true)) 3 rfl rfl (hon 3 (by kernel_rfl)) (by rw [hsz]; rfl)
      replace ha := Aside0.mk ha
      refine value_ (w1 := w') (v := .pointer (some ⟨b2, o2, none⟩)) (wanted_on rfl rfl rfl e43) rfl ?_ ?_
      · go_simp; try rfl
        all_goals (try (simp only [IntKind.wrap_i64]; omega))
      exact hK.out _ _ ⟨(by rw [ha.out]; exact putSel_upk 10 hb_ rfl rfl rfl), hI⟩
    refine steps_cons ?_ ?_
    · rintro b a w' ⟨ha, hI⟩ hb_ hon hoff
      refine ⟨_, rfl, fun K hK => ?_⟩
      have e50 : a.tmps[50]? = some (.pointer (some ⟨b2, o2, none⟩)) := by rw [ha]; exact putSel_on (e := (10, 50, .pointer (some ⟨b2, o2, none⟩))) 10 rfl rfl (hon 10 (by kernel_rfl)) (by rw [hsz]; rfl)
      have e43 : a.tmps[43]? = some (.bool true) := by rw [ha]; exact putSel_on (e := (3, 43, .bool true)) 3 rfl rfl (hon 3 (by kernel_rfl)) (by rw [hsz]; rfl)
      replace ha := Aside0.mk ha
      have m0 := Kept.of (Own.bel hI) _ _ _ E2.c0
      have m1 := Kept.of (Own.bel hI) _ _ _ E2.c1
      have m2 := Kept.of (Own.bel hI) _ _ _ E2.c2
      have m3 := Kept.of (Own.bel hI) _ _ _ E2.c3
      have m4 := Kept.of (Own.bel hI) _ _ _ E2.c4
      have m5 := Kept.of (Own.bel hI) _ _ _ E2.c5
      have m6 := Kept.of (Own.bel hI) _ _ _ E2.c6
      refine value_ (w1 := w') (v := .agg #[.int .i64 y2.kind, .string y2.text, .string y2.name, .string y2.attr, .slice j2.A y2.na j2.ca, .pointer j2.P, .slice j2.V y2.nv j2.cv]) (wanted_on rfl rfl rfl e43) rfl ?_ ?_
      · go_simp; try rfl
        all_goals (try (simp only [IntKind.wrap_i64]; omega))
      exact hK.out _ _ ⟨(by rw [ha.out]; exact putSel_upk 11 hb_ rfl rfl rfl), hI⟩
    refine steps_cons ?_ ?_
    · rintro b a w' ⟨ha, hI⟩ hb_ hon hoff
      refine ⟨_, rfl, fun K hK => ?_⟩
      have e47 : a.tmps[47]? = some (.agg #[.int .i64 y1.kind, .string y1.text, .string y1.name, .string y1.attr, .slice j1.A y1.na j1.ca, .pointer j1.P, .slice j1.V y1.nv j1.cv]) := by rw [ha]; exact putSel_on (e := (7, 47, .agg #[.int .i64 y1.kind, .string y1.text, .string y1.name, .string y1.attr, .slice j1.A y1.na j1.ca, .pointer j1.P, .slice j1.V y1.nv j1.cv])) 7 rfl rfl (hon 7 (by kernel_rfl)) (by rw [hsz]; rfl)
      have e51 : a.tmps[51]? = some (.agg #[.int .i64 y2.kind, .string y2.text, .string y2.name, .string y2.attr, .slice j2.A y2.na j2.ca, .pointer j2.P, .slice j2.V y2.nv j2.cv]) := by rw [ha]; exact putSel_on (e := (11, 51, .agg #[.int .i64 y2.kind, .string y2.text, .string y2.name, .string y2.attr, .slice j2.A y2.na j2.ca, .pointer j2.P, .slice j2.V y2.nv j2.cv])) 11 rfl rfl (hon 11 (by kernel_rfl)) (by rw [hsz]; rfl)
      have e43 : a.tmps[43]? = some (.bool true) := by rw [ha]; exact putSel_on (e := (3, 43, .bool true)) 3 rfl rfl (hon 3 (by kernel_rfl)) (by rw [hsz]; rfl)
      replace ha := Aside0.mk ha
      refine goes_ Tryd.func81 (by kernel_rfl) rfl #[.agg #[.int .i64 y1.kind, .string y1.text, .string y1.name, .string y1.attr, .slice j1.A y1.na j1.ca, .pointer j1.P, .slice j1.V y1.nv j1.cv], .agg #[.int .i64 y2.kind, .string y2.text, .string y2.name, .string y2.attr, .slice j2.A y2.na j2.ca, .pointer j2.P, .slice j2.V y2.nv j2.cv]] (wanted_on rfl rfl rfl e43) rfl rfl (by first | (simp only [List.map_toArray, List.map_cons, List.map_nil, Act.eval, Array.getD_eq_getD_getElem?, Option.getD_some, e47, e51]; done) | (simp only [List.map_toArray, List.map_cons, List.map_nil, Act.eval, Array.getD_eq_getD_getElem?, Option.getD_some, e47, e51]; rfl)) ?_
      refine (cS w' (Own.bel hI)).mono ?_
      rintro e w1 ⟨rfl, b1⟩; have hI1 := ExI.step hI b1
      exact ⟨_, rfl, hK.out _ _ ⟨(by rw [ha.out]; exact putSel_upk 12 hb_ rfl rfl rfl), hI1⟩⟩
    refine steps_cons ?_ ?_
    · rintro b a w' ⟨ha, hI⟩ hb_ hon hoff
      refine ⟨_, rfl, fun K hK => ?_⟩
      have e52 : a.tmps[52]? = some (.bool s) := by rw [ha]; exact putSel_on (e := (12, 52, .bool s)) 12 rfl rfl (hon 12 (by kernel_rfl)) (by rw [hsz]; rfl)
      have e43 : a.tmps[43]? = some (.bool true) := by rw [ha]; exact putSel_on (e := (3, 43, .bool true)) 3 rfl rfl (hon 3 (by kernel_rfl)) (by rw [hsz]; rfl)
      replace ha := Aside0.mk ha
      refine value_ (w1 := w') (v := .bool (!s)) (wanted_on rfl rfl rfl e43) rfl ?_ ?_
      · go_simp; try rfl
        all_goals (try (simp only [IntKind.wrap_i64]; omega))
      exact hK.out _ _ ⟨(by rw [ha.out]; exact putSel_upk 13 hb_ rfl rfl rfl), hI⟩
    refine steps_cons ?_ ?_
    · rintro b a w' ⟨ha, hI⟩ hb_ hon hoff
      refine ⟨_, rfl, fun K hK => ?_⟩
      have e43 : a.tmps[43]? = some (.bool true) := by rw [ha]; exact putSel_on (e := (3, 43, .bool true)) 3 rfl rfl (hon 3 (by kernel_rfl)) (by rw [hsz]; rfl)
      have e53 : a.tmps[53]? = some (.bool (!s)) := by rw [ha]; exact putSel_on (e := (13, 53, .bool (!s))) 13 rfl rfl (hon 13 (by kernel_rfl)) (by rw [hsz]; rfl)
      replace ha := Aside0.mk ha
      refine value_ (w1 := w') (v := .bool (!s)) (by rfl) rfl ?_ ?_
      · go_simp; try rfl
        all_goals (try (simp only [IntKind.wrap_i64]; omega))
      exact hK.out _ _ ⟨(by rw [ha.out]; exact putSel_upk 14 hb_ rfl rfl rfl), hI⟩
    exact steps_nil
  rintro b a w1 hall ⟨ha, hI1⟩
  exact hend a w1 hI1 (by rw [ha]; simp only [putSel, if_true, hall 0 (by kernel_rfl), hall 1 (by kernel_rfl), hall 2 (by kernel_rfl), hall 3 (by kernel_rfl), hall 4 (by kernel_rfl), hall 5 (by kernel_rfl), hall 6 (by kernel_rfl), hall 7 (by kernel_rfl), hall 8 (by kernel_rfl), hall 9 (by kernel_rfl), hall 10 (by kernel_rfl), hall 11 (by kernel_rfl), hall 12 (by kernel_rfl), hall 13 (by kernel_rfl), hall 14 (by kernel_rfl)]) (by rw [ha]; exact (putSel_size b _ a0).2) (by rw [ha]; exact putSel_on (e := (14, 54, .bool (!s))) 14 rfl rfl (hall 14 (by kernel_rfl)) (by rw [hsz]; rfl))
end Go.Proofs.YtipmphgkdomebaaDoor
namespace Go.Proofs.YtipmphgkdomebaaDoor
open Go.RowKit Go.Proofs.YtipmphgkdomebaaDoorW.PrintWords Go.Proofs.YtipmphgkdomebaaDoorW.PrintLast
set_option linter.unusedVariables false
set_option linter.unusedSimpArgs false
set_option maxRecDepth 100000 in
set_option maxHeartbeats 4000000 in
theorem pats_any (A1 A2 : Option Addr) (n m ca cb : Nat) (t1 t2 : Nat → ByteArray) (x1 x2 : Nat → EX) (w : World) (hn : n ≤ 281474976710656) (hm : m ≤ 281474976710656) (hA : Elems w A1 n t1 x1) (hB : Elems w A2 m t2 x2) (cS : ∀ e, e < n → e < m → SameOk (x1 e) (x2 e)) :
    Calls Tryd.prog 44 #[.slice A1 n ca, .slice A2 m cb] w fun e w' => e = .returned (.bool (patS n m t1 t2 x1 x2)) ∧ Below w.heap.size w w' := by
  have c := eqf_elem (fun e => elS (t1 e) (t2 e) (x1 e) (x2 e)) A1 A2 n m ca cb t1 x1 t2 x2 w hn hm hA hB (fun i hi hj p p' k1 k2 W hW => el_any (t1 i) (t2 i) (x1 i) (x2 i) p p' W (k1.keep (Kept.of hW)) (k2.keep (Kept.of hW)) (cS i hi hj))
  unfold patS
  generalize (decide (n = m) && allTo (fun e => elS (t1 e) (t2 e) (x1 e) (x2 e)) n) = s at *
  clear hA hB cS
  go_enter Tryd.func44, Tryd.ntmps44
  go_wp2_with (go_at_call 79; refine c.mono ?_; rintro e W1 ⟨rfl, b1⟩)
  go_ret
  exact ⟨rfl, b1⟩
def varS (x1 x2 : EX) (v : Nat) : Bool := ((x1.vk v).toList == (x2.vk v).toList) && ((x1.vd v == x2.vd v) && patS (x1.ne v) (x2.ne v) (x1.et v) (x2.et v) (x1.ep v) (x2.ep v))
def argS (x1 x2 : EX) (i : Nat) : Bool := ((x1.an i).toList == (x2.an i).toList) && (x1.av i).same (x2.av i)
theorem same_eq {x1 x2 : EX} (h1 : x1.isNo = false) (h2 : x2.isNo = false) : x1.same x2 = ((x1.kind == x2.kind) && ((x1.text.toList == x2.text.toList) && ((x1.name.toList == x2.name.toList) && ((x1.attr.toList == x2.attr.toList) && ((x1.inner.isNo == x2.inner.isNo) && ((x1.inner.isNo || x1.inner.same x2.inner) &&
    ((decide (x1.na = x2.na) && allTo (argS x1 x2) x1.na) && (decide (x1.nv = x2.nv) && allTo (varS x1 x2) x1.nv)))))))) := by
  cases x1 with
  | no => cases h1
  | mk => rw [EX.same, h2]; rfl
set_option maxRecDepth 100000 in
set_option maxHeartbeats 4000000 in
theorem ex_step (x1 x2 : EX) (f1 : x1.Fin) (f2 : x2.Fin) (ci : SameOk x1.inner x2.inner) (ca : ∀ i, i < x1.na → i < x2.na → SameOk (x1.av i) (x2.av i)) (cv : ∀ v e, v < x1.nv → v < x2.nv → e < x1.ne v → e < x2.ne v → SameOk (x1.ep v e) (x2.ep v e)) : SameOk x1 x2 := by
  intro w r1 r2 h1 h2
  have z1 := EX.no_of h1
  have z2 := EX.no_of h2
  obtain ⟨_, l1, k1, a1, i1, v1⟩ := EX.R_mk h1
  obtain ⟨_, l2, k2, a2, i2, v2⟩ := EX.R_mk h2
  obtain ⟨g1, g2, _, _, g3⟩ := f1.out
  obtain ⟨e1, e2, _, _, e3⟩ := f2.out
  obtain ⟨A1, ca1, P1, V1, cv1⟩ := r1
  obtain ⟨A2, ca2, P2, V2, cv2⟩ := r2
  dsimp only at *
  have cA := fun W (hW : Below w.heap.size w W) => eqf_arg (argS x1 x2) A1 A2 x1.na x2.na ca1 ca2 x1.an x1.av x2.an x2.av W g1 e1 (a1.keep (Kept.of hW)) (a2.keep (Kept.of hW)) (fun i hi hj r r' R R' W2 hW2 =>
    arg_any (x1.an i) (x2.an i) (x1.av i).kind (x2.av i).kind (x1.av i).text (x2.av i).text (x1.av i).name (x2.av i).name (x1.av i).attr (x2.av i).attr r.A r'.A (x1.av i).na (x2.av i).na r.ca r'.ca r.P r'.P r.V r'.V (x1.av i).nv (x2.av i).nv r.cv r'.cv ((x1.av i).same (x2.av i)) W2
      (fun W3 hW3 => ca i hi hj W3 r r' (EX.keep ((Kept.of hW2).trans (Kept.of hW3)) R) (EX.keep ((Kept.of hW2).trans (Kept.of hW3)) R')))
  have cV := fun W (hW : Below w.heap.size w W) => eqf_var (varS x1 x2) V1 V2 x1.nv x2.nv cv1 cv2 x1.vk x1.vd x1.ne x1.et x1.ep x2.vk x2.vd x2.ne x2.et x2.ep W g2 e2 (v1.keep (Kept.of hW)) (v2.keep (Kept.of hW)) (fun v hv hv2 B d B' d' lB KB lB' KB' W2 hW2 =>
    var_any (x1.vk v) (x2.vk v) (x1.vd v) (x2.vd v) B B' (x1.ne v) (x2.ne v) d d' _ W2 (fun W3 hW3 => pats_any B B' (x1.ne v) (x2.ne v) d d' (x1.et v) (x2.et v) (x1.ep v) (x2.ep v) W3 (g3 v hv).2.1 (e3 v hv2).2.1 (KB.keep ((Kept.of hW2).trans (Kept.of hW3))) (KB'.keep ((Kept.of hW2).trans (Kept.of hW3))) (fun e he he2 => cv v e hv hv2 he he2)))
  have cI := fun W (hW : Below w.heap.size w W) r r' (R : x1.inner.R w r) (R' : x2.inner.R w r') => ci W r r' (EX.keep (Kept.of hW) R) (EX.keep (Kept.of hW) R')
  rw [same_eq z1 z2]
  generalize (decide (x1.na = x2.na) && allTo (argS x1 x2) x1.na) = sA at *
  generalize (decide (x1.nv = x2.nv) && allTo (varS x1 x2) x1.nv) = sV at *
  have h0 : ExI w x1 x2 A1 ca1 P1 V1 cv1 A2 ca2 P2 V2 cv2 _ := Own.two w (.cells #[.int .i64 x1.kind, .string x1.text, .string x1.name, .string x1.attr, .slice A1 x1.na ca1, .pointer P1, .slice V1 x1.nv cv1] 40) (.cells #[.int .i64 x2.kind, .string x2.text, .string x2.name, .string x2.attr, .slice A2 x2.na ca2, .pointer P2, .slice V2 x2.nv cv2] 40)
  clear h1 h2 f1 f2 ci ca cv l1 k1 l2 k2 a1 a2 v1 v2 g1 g2 g3 e1 e2 e3
  cases q0 : (x1.kind == x2.kind) with
  | false =>
    clear cA cV cI
    have n0 : (x1.kind != x2.kind) = true := by rw [bne, q0]; rfl
    go_enter Tryd.func81, Tryd.ntmps81
    go_upto_region 1 with (fail)
    generalize World.alloc (World.alloc w _) _ = W0 at *
    have aa0 := Own.c h0 1 0 rfl rfl
    have aa1 := Own.c h0 1 1 rfl rfl
    have aa2 := Own.c h0 1 2 rfl rfl
    have aa3 := Own.c h0 1 3 rfl rfl
    have aa4 := Own.c h0 1 4 rfl rfl
    have aa5 := Own.c h0 1 5 rfl rfl
    have aa6 := Own.c h0 1 6 rfl rfl
    have bb0 := Own.c h0 0 0 rfl rfl
    have bb1 := Own.c h0 0 1 rfl rfl
    have bb2 := Own.c h0 0 2 rfl rfl
    have bb3 := Own.c h0 0 3 rfl rfl
    have bb4 := Own.c h0 0 4 rfl rfl
    have bb5 := Own.c h0 0 5 rfl rfl
    have bb6 := Own.c h0 0 6 rfl rfl
    go_wp2
    go_ret
    exact ⟨by first | rfl | exact ret_b (by simp), Own.bel h0⟩
  | true =>
    have n0 : (x1.kind != x2.kind) = false := by rw [bne, q0]; rfl
    cases q1 : (x1.text.toList == x2.text.toList) with
    | false =>
      clear cA cV cI
      go_enter Tryd.func81, Tryd.ntmps81
      go_upto_region 1 with (fail)
      generalize World.alloc (World.alloc w _) _ = W0 at *
      have aa0 := Own.c h0 1 0 rfl rfl
      have aa1 := Own.c h0 1 1 rfl rfl
      have aa2 := Own.c h0 1 2 rfl rfl
      have aa3 := Own.c h0 1 3 rfl rfl
      have aa4 := Own.c h0 1 4 rfl rfl
      have aa5 := Own.c h0 1 5 rfl rfl
      have aa6 := Own.c h0 1 6 rfl rfl
      have bb0 := Own.c h0 0 0 rfl rfl
      have bb1 := Own.c h0 0 1 rfl rfl
      have bb2 := Own.c h0 0 2 rfl rfl
      have bb3 := Own.c h0 0 3 rfl rfl
      have bb4 := Own.c h0 0 4 rfl rfl
      have bb5 := Own.c h0 0 5 rfl rfl
      have bb6 := Own.c h0 0 6 rfl rfl
      go_wp2
      go_ret
      exact ⟨by first | rfl | exact ret_b (by simp), Own.bel h0⟩
    | true =>
      cases q2 : (x1.name.toList == x2.name.toList) with
      | false =>
        clear cA cV cI
        go_enter Tryd.func81, Tryd.ntmps81
        go_upto_region 1 with (fail)
        generalize World.alloc (World.alloc w _) _ = W0 at *
        have aa0 := Own.c h0 1 0 rfl rfl
        have aa1 := Own.c h0 1 1 rfl rfl
        have aa2 := Own.c h0 1 2 rfl rfl
        have aa3 := Own.c h0 1 3 rfl rfl
        have aa4 := Own.c h0 1 4 rfl rfl
        have aa5 := Own.c h0 1 5 rfl rfl
        have aa6 := Own.c h0 1 6 rfl rfl
        have bb0 := Own.c h0 0 0 rfl rfl
        have bb1 := Own.c h0 0 1 rfl rfl
        have bb2 := Own.c h0 0 2 rfl rfl
        have bb3 := Own.c h0 0 3 rfl rfl
        have bb4 := Own.c h0 0 4 rfl rfl
        have bb5 := Own.c h0 0 5 rfl rfl
        have bb6 := Own.c h0 0 6 rfl rfl
        go_wp2
        go_ret
        exact ⟨by first | rfl | exact ret_b (by simp), Own.bel h0⟩
      | true =>
        cases q3 : (x1.attr.toList == x2.attr.toList) with
        | false =>
          clear cA cV cI
          go_enter Tryd.func81, Tryd.ntmps81
          go_upto_region 1 with (fail)
          generalize World.alloc (World.alloc w _) _ = W0 at *
          have aa0 := Own.c h0 1 0 rfl rfl
          have aa1 := Own.c h0 1 1 rfl rfl
          have aa2 := Own.c h0 1 2 rfl rfl
          have aa3 := Own.c h0 1 3 rfl rfl
          have aa4 := Own.c h0 1 4 rfl rfl
          have aa5 := Own.c h0 1 5 rfl rfl
          have aa6 := Own.c h0 1 6 rfl rfl
          have bb0 := Own.c h0 0 0 rfl rfl
          have bb1 := Own.c h0 0 1 rfl rfl
          have bb2 := Own.c h0 0 2 rfl rfl
          have bb3 := Own.c h0 0 3 rfl rfl
          have bb4 := Own.c h0 0 4 rfl rfl
          have bb5 := Own.c h0 0 5 rfl rfl
          have bb6 := Own.c h0 0 6 rfl rfl
          go_wp2
          go_ret
          exact ⟨by first | rfl | exact ret_b (by simp), Own.bel h0⟩
        | true =>
          rcases i1 with ⟨y1, rfl⟩ | ⟨b1, o1, s1, rfl, E1, R1⟩
          · rcases i2 with ⟨y2, rfl⟩ | ⟨b2, o2, s2, rfl, E2, R2⟩
            · rw [y1, y2, show (EX.no.isNo == EX.no.isNo) = true from rfl, show (EX.no.isNo || EX.no.same EX.no) = true from rfl]
              clear y1 y2 cI
              cases sA with
              | false =>
                go_enter Tryd.func81, Tryd.ntmps81
                go_upto_region 1 with (fail)
                generalize World.alloc (World.alloc w _) _ = W0 at *
                have aa0 := Own.c h0 1 0 rfl rfl
                have aa1 := Own.c h0 1 1 rfl rfl
                have aa2 := Own.c h0 1 2 rfl rfl
                have aa3 := Own.c h0 1 3 rfl rfl
                have aa4 := Own.c h0 1 4 rfl rfl
                have aa5 := Own.c h0 1 5 rfl rfl
                have aa6 := Own.c h0 1 6 rfl rfl
                have bb0 := Own.c h0 0 0 rfl rfl
                have bb1 := Own.c h0 0 1 rfl rfl
                have bb2 := Own.c h0 0 2 rfl rfl
                have bb3 := Own.c h0 0 3 rfl rfl
                have bb4 := Own.c h0 0 4 rfl rfl
                have bb5 := Own.c h0 0 5 rfl rfl
                have bb6 := Own.c h0 0 6 rfl rfl
                go_upto_region 3 with (fail)
                refine as81n w x1 x2 A1 ca1 V1 cv1 A2 ca2 V2 cv2 none _ rfl rfl rfl _ (Own.drew h0) _ ?_
                intro a9 w9 h9 ha9 hd9 e54
                rw [ha9]
                simp only [putSel, if_true, Act.put, List.setIfInBounds_toArray, List.set_cons_zero, List.set_cons_succ]
                clear ha9 hd9 e54 h0 aa0 bb0 aa1 bb1 aa2 bb2 aa3 bb3 aa4 bb4 aa5 bb5 aa6 bb6
                have aa4 := Own.c h9 1 4 rfl rfl
                have aa6 := Own.c h9 1 6 rfl rfl
                have bb4 := Own.c h9 0 4 rfl rfl
                have bb6 := Own.c h9 0 6 rfl rfl
                go_wp2_with (go_at_call 119; refine (cA _ (Own.bel h9)).mono ?_; rintro e W1 ⟨rfl, b1⟩; have h10 := Own.step h9 b1)
                go_ret
                exact ⟨by first | rfl | exact ret_b (by simp), h10.bel⟩
              | true =>
                go_enter Tryd.func81, Tryd.ntmps81
                go_upto_region 1 with (fail)
                generalize World.alloc (World.alloc w _) _ = W0 at *
                have aa0 := Own.c h0 1 0 rfl rfl
                have aa1 := Own.c h0 1 1 rfl rfl
                have aa2 := Own.c h0 1 2 rfl rfl
                have aa3 := Own.c h0 1 3 rfl rfl
                have aa4 := Own.c h0 1 4 rfl rfl
                have aa5 := Own.c h0 1 5 rfl rfl
                have aa6 := Own.c h0 1 6 rfl rfl
                have bb0 := Own.c h0 0 0 rfl rfl
                have bb1 := Own.c h0 0 1 rfl rfl
                have bb2 := Own.c h0 0 2 rfl rfl
                have bb3 := Own.c h0 0 3 rfl rfl
                have bb4 := Own.c h0 0 4 rfl rfl
                have bb5 := Own.c h0 0 5 rfl rfl
                have bb6 := Own.c h0 0 6 rfl rfl
                go_upto_region 3 with (fail)
                refine as81n w x1 x2 A1 ca1 V1 cv1 A2 ca2 V2 cv2 none _ rfl rfl rfl _ (Own.drew h0) _ ?_
                intro a9 w9 h9 ha9 hd9 e54
                rw [ha9]
                simp only [putSel, if_true, Act.put, List.setIfInBounds_toArray, List.set_cons_zero, List.set_cons_succ]
                clear ha9 hd9 e54 h0 aa0 bb0 aa1 bb1 aa2 bb2 aa3 bb3 aa4 bb4 aa5 bb5 aa6 bb6
                have aa4 := Own.c h9 1 4 rfl rfl
                have aa6 := Own.c h9 1 6 rfl rfl
                have bb4 := Own.c h9 0 4 rfl rfl
                have bb6 := Own.c h9 0 6 rfl rfl
                go_wp2_with (first
                  | (go_at_call 119; refine (cA _ (Own.bel h9)).mono ?_; rintro e W1 ⟨rfl, b1⟩; have h10 := Own.step h9 b1; have x6 := h10.c 1 6 rfl rfl; have y6 := h10.c 0 6 rfl rfl)
                  | (go_at_call 121; refine (cV _ h10.bel).mono ?_; rintro e W2 ⟨rfl, b2⟩; have h11 := h10.step b2))
                go_ret
                exact ⟨by first | rfl | exact ret_b (by simp), h11.bel⟩
            · have w2 := EX.no_of R2
              rw [y1, w2, show (EX.no.isNo == false) = false from rfl]
              clear y1 w2 E2 R2
              clear cA cV cI
              go_enter Tryd.func81, Tryd.ntmps81
              go_upto_region 1 with (fail)
              generalize World.alloc (World.alloc w _) _ = W0 at *
              have aa0 := Own.c h0 1 0 rfl rfl
              have aa1 := Own.c h0 1 1 rfl rfl
              have aa2 := Own.c h0 1 2 rfl rfl
              have aa3 := Own.c h0 1 3 rfl rfl
              have aa4 := Own.c h0 1 4 rfl rfl
              have aa5 := Own.c h0 1 5 rfl rfl
              have aa6 := Own.c h0 1 6 rfl rfl
              have bb0 := Own.c h0 0 0 rfl rfl
              have bb1 := Own.c h0 0 1 rfl rfl
              have bb2 := Own.c h0 0 2 rfl rfl
              have bb3 := Own.c h0 0 3 rfl rfl
              have bb4 := Own.c h0 0 4 rfl rfl
              have bb5 := Own.c h0 0 5 rfl rfl
              have bb6 := Own.c h0 0 6 rfl rfl
              go_wp2
              go_ret
              exact ⟨by first | rfl | exact ret_b (by simp), Own.bel h0⟩
          · have w1 := EX.no_of R1
            rcases i2 with ⟨y2, rfl⟩ | ⟨b2, o2, s2, rfl, E2, R2⟩
            · rw [y2, w1, show (false == EX.no.isNo) = false from rfl]
              clear y2 w1 E1 R1
              clear cA cV cI
              go_enter Tryd.func81, Tryd.ntmps81
              go_upto_region 1 with (fail)
              generalize World.alloc (World.alloc w _) _ = W0 at *
              have aa0 := Own.c h0 1 0 rfl rfl
              have aa1 := Own.c h0 1 1 rfl rfl
              have aa2 := Own.c h0 1 2 rfl rfl
              have aa3 := Own.c h0 1 3 rfl rfl
              have aa4 := Own.c h0 1 4 rfl rfl
              have aa5 := Own.c h0 1 5 rfl rfl
              have aa6 := Own.c h0 1 6 rfl rfl
              have bb0 := Own.c h0 0 0 rfl rfl
              have bb1 := Own.c h0 0 1 rfl rfl
              have bb2 := Own.c h0 0 2 rfl rfl
              have bb3 := Own.c h0 0 3 rfl rfl
              have bb4 := Own.c h0 0 4 rfl rfl
              have bb5 := Own.c h0 0 5 rfl rfl
              have bb6 := Own.c h0 0 6 rfl rfl
              go_wp2
              go_ret
              exact ⟨by first | rfl | exact ret_b (by simp), Own.bel h0⟩
            · have w2 := EX.no_of R2
              rw [w1, w2, show (false == false) = true from rfl, Bool.false_or]
              have cI2 := fun W hW => cI W hW s1 s2 R1 R2
              clear cI w1 w2 R1 R2
              generalize x1.inner.same x2.inner = s at *
              cases s with
              | false =>
                go_enter Tryd.func81, Tryd.ntmps81
                go_upto_region 1 with (fail)
                generalize World.alloc (World.alloc w _) _ = W0 at *
                have aa0 := Own.c h0 1 0 rfl rfl
                have aa1 := Own.c h0 1 1 rfl rfl
                have aa2 := Own.c h0 1 2 rfl rfl
                have aa3 := Own.c h0 1 3 rfl rfl
                have aa4 := Own.c h0 1 4 rfl rfl
                have aa5 := Own.c h0 1 5 rfl rfl
                have aa6 := Own.c h0 1 6 rfl rfl
                have bb0 := Own.c h0 0 0 rfl rfl
                have bb1 := Own.c h0 0 1 rfl rfl
                have bb2 := Own.c h0 0 2 rfl rfl
                have bb3 := Own.c h0 0 3 rfl rfl
                have bb4 := Own.c h0 0 4 rfl rfl
                have bb5 := Own.c h0 0 5 rfl rfl
                have bb6 := Own.c h0 0 6 rfl rfl
                go_upto_region 3 with (fail)
                refine as81s w x1 x2 A1 ca1 V1 cv1 A2 ca2 V2 cv2 b1 o1 b2 o2 x1.inner x2.inner s1 s2 E1 E2 false cI2 _ rfl rfl rfl _ (Own.drew h0) _ ?_
                intro a9 w9 h9 ha9 hd9 e54
                rw [ha9]
                simp only [putSel, if_true, Act.put, List.setIfInBounds_toArray, List.set_cons_zero, List.set_cons_succ]
                clear ha9 hd9 e54 h0 aa0 bb0 aa1 bb1 aa2 bb2 aa3 bb3 aa4 bb4 aa5 bb5 aa6 bb6
                have bel := Own.bel h9
                go_wp2
                go_ret
                exact ⟨by first | rfl | exact ret_b (by simp), bel⟩
              | true =>
                cases sA with
                | false =>
                  go_enter Tryd.func81, Tryd.ntmps81
                  go_upto_region 1 with (fail)
                  generalize World.alloc (World.alloc w _) _ = W0 at *
                  have aa0 := Own.c h0 1 0 rfl rfl
                  have aa1 := Own.c h0 1 1 rfl rfl
                  have aa2 := Own.c h0 1 2 rfl rfl
                  have aa3 := Own.c h0 1 3 rfl rfl
                  have aa4 := Own.c h0 1 4 rfl rfl
                  have aa5 := Own.c h0 1 5 rfl rfl
                  have aa6 := Own.c h0 1 6 rfl rfl
                  have bb0 := Own.c h0 0 0 rfl rfl
                  have bb1 := Own.c h0 0 1 rfl rfl
                  have bb2 := Own.c h0 0 2 rfl rfl
                  have bb3 := Own.c h0 0 3 rfl rfl
                  have bb4 := Own.c h0 0 4 rfl rfl
                  have bb5 := Own.c h0 0 5 rfl rfl
                  have bb6 := Own.c h0 0 6 rfl rfl
                  go_upto_region 3 with (fail)
                  refine as81s w x1 x2 A1 ca1 V1 cv1 A2 ca2 V2 cv2 b1 o1 b2 o2 x1.inner x2.inner s1 s2 E1 E2 true cI2 _ rfl rfl rfl _ (Own.drew h0) _ ?_
                  intro a9 w9 h9 ha9 hd9 e54
                  rw [ha9]
                  simp only [putSel, if_true, Act.put, List.setIfInBounds_toArray, List.set_cons_zero, List.set_cons_succ]
                  clear ha9 hd9 e54 h0 aa0 bb0 aa1 bb1 aa2 bb2 aa3 bb3 aa4 bb4 aa5 bb5 aa6 bb6
                  have aa4 := Own.c h9 1 4 rfl rfl
                  have aa6 := Own.c h9 1 6 rfl rfl
                  have bb4 := Own.c h9 0 4 rfl rfl
                  have bb6 := Own.c h9 0 6 rfl rfl
                  go_wp2_with (go_at_call 119; refine (cA _ (Own.bel h9)).mono ?_; rintro e W1 ⟨rfl, b1⟩; have h10 := Own.step h9 b1)
                  go_ret
                  exact ⟨by first | rfl | exact ret_b (by simp), h10.bel⟩
                | true =>
                  go_enter Tryd.func81, Tryd.ntmps81
                  go_upto_region 1 with (fail)
                  generalize World.alloc (World.alloc w _) _ = W0 at *
                  have aa0 := Own.c h0 1 0 rfl rfl
                  have aa1 := Own.c h0 1 1 rfl rfl
                  have aa2 := Own.c h0 1 2 rfl rfl
                  have aa3 := Own.c h0 1 3 rfl rfl
                  have aa4 := Own.c h0 1 4 rfl rfl
                  have aa5 := Own.c h0 1 5 rfl rfl
                  have aa6 := Own.c h0 1 6 rfl rfl
                  have bb0 := Own.c h0 0 0 rfl rfl
                  have bb1 := Own.c h0 0 1 rfl rfl
                  have bb2 := Own.c h0 0 2 rfl rfl
                  have bb3 := Own.c h0 0 3 rfl rfl
                  have bb4 := Own.c h0 0 4 rfl rfl
                  have bb5 := Own.c h0 0 5 rfl rfl
                  have bb6 := Own.c h0 0 6 rfl rfl
                  go_upto_region 3 with (fail)
                  refine as81s w x1 x2 A1 ca1 V1 cv1 A2 ca2 V2 cv2 b1 o1 b2 o2 x1.inner x2.inner s1 s2 E1 E2 true cI2 _ rfl rfl rfl _ (Own.drew h0) _ ?_
                  intro a9 w9 h9 ha9 hd9 e54
                  rw [ha9]
                  simp only [putSel, if_true, Act.put, List.setIfInBounds_toArray, List.set_cons_zero, List.set_cons_succ]
                  clear ha9 hd9 e54 h0 aa0 bb0 aa1 bb1 aa2 bb2 aa3 bb3 aa4 bb4 aa5 bb5 aa6 bb6
                  have aa4 := Own.c h9 1 4 rfl rfl
                  have aa6 := Own.c h9 1 6 rfl rfl
                  have bb4 := Own.c h9 0 4 rfl rfl
                  have bb6 := Own.c h9 0 6 rfl rfl
                  go_wp2_with (first
                    | (go_at_call 119; refine (cA _ (Own.bel h9)).mono ?_; rintro e W1 ⟨rfl, b1⟩; have h10 := Own.step h9 b1; have x6 := h10.c 1 6 rfl rfl; have y6 := h10.c 0 6 rfl rfl)
                    | (go_at_call 121; refine (cV _ h10.bel).mono ?_; rintro e W2 ⟨rfl, b2⟩; have h11 := h10.step b2))
                  go_ret
                  exact ⟨by first | rfl | exact ret_b (by simp), h11.bel⟩
theorem ex_any : ∀ x1 x2 : EX, x1.Fin → x2.Fin → SameOk x1 x2 := by
  intro x1
  induction x1 with
  | no => intro x2 _ _ w r1 r2 h1 h2; exact h1.elim
  | mk kd tx nm at_ na an av inner nv vk vd ne et ep iha ihi ihp =>
    intro x2 f1 f2
    obtain ⟨_, _, p3, p4, p5⟩ := f1.out
    obtain ⟨_, _, q3, q4, q5⟩ := f2.out
    cases x2 with
    | no => intro w r1 r2 h1 h2; exact h2.elim
    | mk =>
      refine ex_step _ _ f1 f2 (ihi _ p4 q4) (fun i hi hj => iha i _ (p3 i hi).2 (q3 i hj).2) ?_
      intro v e hv hv2 he he2
      exact ihp v e _ ((p5 v hv).2.2 e he).2 ((q5 v hv2).2.2 e he2).2
end Go.Proofs.YtipmphgkdomebaaDoor
namespace Go.Proofs.YtipmphgkdomebaaDoor
open Go.RowKit Go.Proofs.YtipmphgkdomebaaDoorW.PrintWords Go.Proofs.YtipmphgkdomebaaDoorW.PrintLast
set_option linter.unusedVariables false
set_option linter.unusedSimpArgs false
theorem Own.tail {w W : World} {p : Nat × Obj} {L : List (Nat × Obj)} (h : Own w (p :: L) W) : Own w L W :=
  ⟨fun q hq => h.all q (.tail _ hq), (List.nodup_cons.1 (by simpa using h.nd)).2, fun q hq => h.own q (.tail _ hq), h.bel⟩
end Go.Proofs.YtipmphgkdomebaaDoor
