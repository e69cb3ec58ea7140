/- Whatever two entries: whether they are the same, wherever they stand, as the page says; each is the same as itself; for every input. (Text 3 of 6: what the law's proof rests on, joined; walks printed by the kit's print over given contracts, walks and plain laws by hand.) -/
import Derived.Test.YtipmphgkdomebaaDoorAss0
import Derived.Test.YtipmphgkdomebaaDoorAss1
namespace Go.Proofs.YtipmphgkdomebaaDoor
open Go.RowKit Go.Proofs.YtipmphgkdomebaaDoorW.PrintWords Go.Proofs.YtipmphgkdomebaaDoorW.PrintLast
set_option linter.unusedVariables false
set_option linter.unusedSimpArgs false
def as47bn.T : Bool × List (List Nat × List Nat) := (true, [([], []), ([], []), ([0, 1], [0, 1]), ([2], [2]), ([3], [3]), ([], []), ([], []), ([5, 6], [5, 6]), ([7], [7]), ([8], [8]), ([4, 9], [4, 9]), ([10], [10]), ([11], [11]), ([12, 11], [11, 12]), ([11], [11]), ([14, 11], [11, 14]), ([13, 15, 11], [11, 13, 15]), ([11, 16], [11, 16]), ([17, 11], [17]), ([18], [18]), ([19, 18], [18, 19]), ([20, 18, 18], [18, 20]), ([21], [21]), ([22, 21], [21, 22]), ([23, 21], [21, 23]), ([21], [21]), ([25, 21], [21, 25]), ([26, 21], [21, 26]), ([24, 27, 21, 21], [21, 24, 27]), ([28, 21], [21, 28]), ([21, 29, 18], [18, 21, 29]), ([18, 30], [18, 30])])
def as47bn.B : List Nat := [0, 0, 3, 7, 15, 0, 0, 96, 224, 480, 1023, 2047, 4095, 8191, 4095, 20479, 65535, 131071, 262143, 524287, 1048575, 2097151, 4194303, 8388607, 16777215, 4194303, 37748735, 104857599, 268435455, 536870911, 1073741823, 2147483647]
theorem as47bn.tab : rtab .any (opsOf Tryd.f47 8) = as47bn.T := by kernel_rfl
theorem as47bn.bits : waitsOk as47bn.T.2 as47bn.B = true := by kernel_rfl
set_option maxRecDepth 100000 in
set_option maxHeartbeats 4000000 in
theorem as47bn (w0 : World) (t1 t2 : ByteArray) (hq : (t1.toList == t2.toList) = true) (n ca cb i b1 o1 b2 o2 : Nat) (q1 : (0 : Int) ≤ (i : Int)) (q2 : (i : Int) < (n : Int)) (b4 o4 : Nat) (d10 : w0.cell? ⟨b1, o1 + i * 2, none⟩ = some (.string t1)) (d20 : w0.cell? ⟨b2, o2 + i * 2, none⟩ = some (.string t2)) (a0 : Act) (s0 : a0.tmps[0]? = some (.slice (some ⟨b1, o1, none⟩) n ca)) (s1 : a0.tmps[1]? = some (.slice (some ⟨b2, o2, none⟩) n cb)) (s5 : a0.tmps[5]? = some (.int .i64 (i : Int))) (s6 : a0.tmps[6]? = some (.pointer none)) (s7 : a0.tmps[7]? = some (.pointer (some ⟨b4, o4, none⟩))) (hsz : a0.tmps.size = Tryd.f47.ntmps) (W : World) (hI : Below w0.heap.size w0 W.drew) (Q : Exit → Act → World → Prop) (hend : ∀ (a9 : Act) w', Below w0.heap.size w0 w' → a9 = putSel a0 (fun _ => true) [(0, 28, .slice (some ⟨b1, o1, none⟩) n ca), (1, 29, .int .i64 (i : Int)), (2, 30, .pointer (some ⟨b1, o1 + i * 2, none⟩)), (3, 31, .pointer (some ⟨b1, o1 + i * 2, none⟩)), (4, 32, .string t1), (5, 33, .slice (some ⟨b2, o2, none⟩) n cb), (6, 34, .int .i64 (i : Int)), (7, 35, .pointer (some ⟨b2, o2 + i * 2, none⟩)), (8, 36, .pointer (some ⟨b2, o2 + i * 2, none⟩)), (9, 37, .string t2), (10, 38, .bool false), (11, 39, .bool false), (12, 40, .pointer none), (13, 41, .bool true), (14, 42, .pointer (some ⟨b4, o4, none⟩)), (15, 43, .bool false), (16, 44, .bool true), (17, 45, .bool true), (18, 46, .bool true), (19, 47, undef), (20, 48, undef), (21, 49, undef), (22, 50, undef), (23, 51, undef), (24, 52, undef), (25, 53, undef), (26, 54, undef), (27, 55, undef), (28, 56, undef), (29, 57, undef), (30, 58, undef), (31, 59, .bool true)] → a9.defers = a0.defers → a9.tmps[59]? = some (.bool true) → Q .normal a9 w') :
    (Code.region 8 #[{ dst := some 28, op := Op.move (Operand.tmp 0), type := 26, pos := "law.go:246", after := #[], guard := none }, { dst := some 29, op := Op.move (Operand.tmp 5), type := 3, pos := "law.go:246", after := #[], guard := none }, { dst := some 30, op := Op.indexAddr 26 (Operand.tmp 28) (Operand.tmp 29), type := 0, pos := "law.go:246", after := #[{ on := 0, ground := Ground.data }, { on := 1, ground := Ground.data }], guard := none }, { dst := some 31, op := Op.fieldAddr 42 (Operand.tmp 30) 0, type := 0, pos := "law.go:246", after := #[{ on := 2, ground := Ground.data }], guard := none }, { dst := some 32, op := Op.load 9 (Operand.tmp 31), type := 9, pos := "law.go:246", after := #[{ on := 3, ground := Ground.data }], guard := none }, { dst := some 33, op := Op.move (Operand.tmp 1), type := 26, pos := "law.go:246", after := #[], guard := none }, { dst := some 34, op := Op.move (Operand.tmp 5), type := 3, pos := "law.go:246", after := #[], guard := none }, { dst := some 35, op := Op.indexAddr 26 (Operand.tmp 33) (Operand.tmp 34), type := 0, pos := "law.go:246", after := #[{ on := 5, ground := Ground.data }, { on := 6, ground := Ground.data }], guard := none }, { dst := some 36, op := Op.fieldAddr 42 (Operand.tmp 35) 0, type := 0, pos := "law.go:246", after := #[{ on := 7, ground := Ground.data }], guard := none }, { dst := some 37, op := Op.load 9 (Operand.tmp 36), type := 9, pos := "law.go:246", after := #[{ on := 8, ground := Ground.data }], guard := none }, { dst := some 38, op := Op.binOp BinOp.neq 9 (Operand.tmp 32) (Operand.tmp 37) 9, type := 4, pos := "law.go:246", after := #[{ on := 4, ground := Ground.data }, { on := 9, ground := Ground.data }], guard := none }, { dst := some 39, op := Op.move (Operand.tmp 38), type := 4, pos := "law.go:246", after := #[{ on := 10, ground := Ground.data }], guard := none }, { dst := some 40, op := Op.move (Operand.tmp 6), type := 37, pos := "law.go:246", after := #[{ on := 11, ground := Ground.guard }], guard := some (11, false) }, { dst := some 41, op := Op.binOp BinOp.eql 37 (Operand.tmp 40) (Operand.const (Value.pointer none)) 37, type := 4, pos := "law.go:246", after := #[{ on := 12, ground := Ground.data }, { on := 11, ground := Ground.guard }], guard := some (11, false) }, { dst := some 42, op := Op.move (Operand.tmp 7), type := 37, pos := "law.go:246", after := #[{ on := 11, ground := Ground.guard }], guard := some (11, false) }, { dst := some 43, op := Op.binOp BinOp.eql 37 (Operand.tmp 42) (Operand.const (Value.pointer none)) 37, type := 4, pos := "law.go:246", after := #[{ on := 14, ground := Ground.data }, { on := 11, ground := Ground.guard }], guard := some (11, false) }, { dst := some 44, op := Op.binOp BinOp.neq 4 (Operand.tmp 41) (Operand.tmp 43) 4, type := 4, pos := "law.go:246", after := #[{ on := 13, ground := Ground.data }, { on := 15, ground := Ground.data }, { on := 11, ground := Ground.guard }], guard := some (11, false) }, { dst := some 45, op := Op.pick (Operand.tmp 39) (Operand.const (Value.bool true)) (Operand.tmp 44), type := 4, pos := "law.go:246", after := #[{ on := 11, ground := Ground.data }, { on := 16, ground := Ground.data }], guard := none }, { dst := some 46, op := Op.move (Operand.tmp 45), type := 4, pos := "law.go:246", after := #[{ on := 17, ground := Ground.data }, { on := 11, ground := Ground.chain }], guard := none }, { dst := some 47, op := Op.move (Operand.tmp 6), type := 37, pos := "law.go:246", after := #[{ on := 18, ground := Ground.guard }], guard := some (18, false) }, { dst := some 48, op := Op.binOp BinOp.neq 37 (Operand.tmp 47) (Operand.const (Value.pointer none)) 37, type := 4, pos := "law.go:246", after := #[{ on := 19, ground := Ground.data }, { on := 18, ground := Ground.guard }], guard := some (18, false) }, { dst := some 49, op := Op.move (Operand.tmp 48), type := 4, pos := "law.go:246", after := #[{ on := 20, ground := Ground.data }, { on := 18, ground := Ground.chain }, { on := 18, ground := Ground.guard }], guard := some (18, false) }, { dst := some 50, op := Op.move (Operand.tmp 6), type := 37, pos := "law.go:246", after := #[{ on := 21, ground := Ground.guard }], guard := some (21, true) }, { dst := some 51, op := Op.nilCheck (Operand.tmp 50), type := 0, pos := "law.go:246", after := #[{ on := 22, ground := Ground.data }, { on := 21, ground := Ground.guard }], guard := some (21, true) }, { dst := some 52, op := Op.load 40 (Operand.tmp 51), type := 40, pos := "law.go:246", after := #[{ on := 23, ground := Ground.data }, { on := 21, ground := Ground.guard }], guard := some (21, true) }, { dst := some 53, op := Op.move (Operand.tmp 7), type := 37, pos := "law.go:246", after := #[{ on := 21, ground := Ground.guard }], guard := some (21, true) }, { dst := some 54, op := Op.nilCheck (Operand.tmp 53), type := 0, pos := "law.go:246", after := #[{ on := 25, ground := Ground.data }, { on := 21, ground := Ground.guard }], guard := some (21, true) }, { dst := some 55, op := Op.load 40 (Operand.tmp 54), type := 40, pos := "law.go:246", after := #[{ on := 26, ground := Ground.data }, { on := 21, ground := Ground.guard }], guard := some (21, true) }, { dst := some 56, op := Op.call { callee := Callee.value (Operand.func 82), args := #[Operand.tmp 52, Operand.tmp 55], argTypes := #[40, 40] }, type := 4, pos := "law.go:246", after := #[{ on := 24, ground := Ground.data }, { on := 27, ground := Ground.data }, { on := 21, ground := Ground.chain }, { on := 21, ground := Ground.guard }], guard := some (21, true) }, { dst := some 57, op := Op.unOp UnOp.not 4 (Operand.tmp 56), type := 4, pos := "law.go:246", after := #[{ on := 28, ground := Ground.data }, { on := 21, ground := Ground.guard }], guard := some (21, true) }, { dst := some 58, op := Op.pick (Operand.tmp 49) (Operand.tmp 57) (Operand.const (Value.bool false)), type := 4, pos := "law.go:246", after := #[{ on := 21, ground := Ground.data }, { on := 29, ground := Ground.data }, { on := 18, ground := Ground.guard }], guard := some (18, false) }, { dst := some 59, op := Op.pick (Operand.tmp 46) (Operand.const (Value.bool true)) (Operand.tmp 58), type := 4, pos := "law.go:246", after := #[{ on := 18, ground := Ground.data }, { on := 30, ground := Ground.data }], guard := none }] true).wp Tryd.prog Q a0 W := by
  refine start_ (n := 32) (S := fun w' => True) (ds := []) #[false, false, false, false, false, false, false, false, false, false, false, false, false, false, false, false, false, false, false, false, false, false, false, false, false, false, false, false, false, false, false, false] (by kernel_rfl) rfl rfl trivial (fun hHeld => ?_)
  refine with_tabW as47bn.tab as47bn.bits (fun HT_ HW_ => ?_)
  refine inv_at [0, 1, 2, 3, 4, 5, 6, 7, 8, 9, 10, 11, 12, 13, 14, 15, 16, 17, 18, 19, 20, 21, 22, 23, 24, 25, 26, 27, 28, 29, 30, 31] (fun a0_ b a w' => a = putSel a0_ b [(0, 28, .slice (some ⟨b1, o1, none⟩) n ca), (1, 29, .int .i64 (i : Int)), (2, 30, .pointer (some ⟨b1, o1 + i * 2, none⟩)), (3, 31, .pointer (some ⟨b1, o1 + i * 2, none⟩)), (4, 32, .string t1), (5, 33, .slice (some ⟨b2, o2, none⟩) n cb), (6, 34, .int .i64 (i : Int)), (7, 35, .pointer (some ⟨b2, o2 + i * 2, none⟩)), (8, 36, .pointer (some ⟨b2, o2 + i * 2, none⟩)), (9, 37, .string t2), (10, 38, .bool false), (11, 39, .bool false), (12, 40, .pointer none), (13, 41, .bool true), (14, 42, .pointer (some ⟨b4, o4, none⟩)), (15, 43, .bool false), (16, 44, .bool true), (17, 45, .bool true), (18, 46, .bool true), (19, 47, undef), (20, 48, undef), (21, 49, undef), (22, 50, undef), (23, 51, undef), (24, 52, undef), (25, 53, undef), (26, 54, undef), (27, 55, undef), (28, 56, undef), (29, 57, undef), (30, 58, undef), (31, 59, .bool true)] ∧ (Below w0.heap.size w0 w')) HT_.out HW_.out (by kernel_rfl) (by kernel_rfl) ?_ ?_ ?_
  · exact ⟨(by simp only [putSel, Bool.false_eq_true, if_false]), hI⟩
  · clear hI hend hHeld
    refine steps_cons ?_ ?_
    · rintro b a w' ⟨ha, hI⟩ hb_ hon hoff
      refine ⟨_, rfl, fun K hK => ?_⟩
      have e0 : a.tmps[0]? = some (.slice (some ⟨b1, o1, none⟩) n ca) := by rw [ha]; exact (putSel_off rfl).trans s0
      replace ha := Aside0.mk ha
      refine value_ (w1 := w') (v := .slice (some ⟨b1, o1, none⟩) n ca) (by rfl) rfl ?_ ?_
      · go_simp; try rfl
        all_goals (try (simp only [IntKind.wrap_i64]; omega))
      exact hK.out _ _ ⟨(by rw [ha.out]; exact putSel_upk 0 hb_ rfl rfl rfl), hI⟩
    refine steps_cons ?_ ?_
    · rintro b a w' ⟨ha, hI⟩ hb_ hon hoff
      refine ⟨_, rfl, fun K hK => ?_⟩
      have e5 : a.tmps[5]? = some (.int .i64 (i : Int)) := by rw [ha]; exact (putSel_off rfl).trans s5
      replace ha := Aside0.mk ha
      refine value_ (w1 := w') (v := .int .i64 (i : Int)) (by rfl) rfl ?_ ?_
      · go_simp; try rfl
        all_goals (try (simp only [IntKind.wrap_i64]; omega))
      exact hK.out _ _ ⟨(by rw [ha.out]; exact putSel_upk 1 hb_ rfl rfl rfl), hI⟩
    refine steps_cons ?_ ?_
    · rintro b a w' ⟨ha, hI⟩ hb_ hon hoff
      refine ⟨_, rfl, fun K hK => ?_⟩
      have e28 : a.tmps[28]? = some (.slice (some ⟨b1, o1, none⟩) n ca) := by rw [ha]; exact putSel_on (e := (0, 28, .slice (some ⟨b1, o1, none⟩) n ca)) 0 rfl rfl (hon 0 (by kernel_rfl)) (by rw [hsz]; rfl)
      have e29 : a.tmps[29]? = some (.int .i64 (i : Int)) := by rw [ha]; exact putSel_on (e := (1, 29, .int .i64 (i : Int))) 1 rfl rfl (hon 1 (by kernel_rfl)) (by rw [hsz]; rfl)
      replace ha := Aside0.mk ha
      refine value_ (w1 := w') (v := .pointer (some ⟨b1, o1 + i * 2, none⟩)) (by rfl) rfl ?_ ?_
      · go_simp; try rfl
        all_goals (try (simp only [IntKind.wrap_i64]; omega))
      exact hK.out _ _ ⟨(by rw [ha.out]; exact putSel_upk 2 hb_ rfl rfl rfl), hI⟩
    refine steps_cons ?_ ?_
    · rintro b a w' ⟨ha, hI⟩ hb_ hon hoff
      refine ⟨_, rfl, fun K hK => ?_⟩
      have e30 : a.tmps[30]? = some (.pointer (some ⟨b1, o1 + i * 2, none⟩)) := by rw [ha]; exact putSel_on (e := (2, 30, .pointer (some ⟨b1, o1 + i * 2, none⟩))) 2 rfl rfl (hon 2 (by kernel_rfl)) (by rw [hsz]; rfl)
      replace ha := Aside0.mk ha
      refine value_ (w1 := w') (v := .pointer (some ⟨b1, o1 + i * 2, none⟩)) (by rfl) rfl ?_ ?_
      · go_simp; try rfl
        all_goals (try (simp only [IntKind.wrap_i64]; omega))
      exact hK.out _ _ ⟨(by rw [ha.out]; exact putSel_upk 3 hb_ rfl rfl rfl), hI⟩
    refine steps_cons ?_ ?_
    · rintro b a w' ⟨ha, hI⟩ hb_ hon hoff
      refine ⟨_, rfl, fun K hK => ?_⟩
      have e31 : a.tmps[31]? = some (.pointer (some ⟨b1, o1 + i * 2, none⟩)) := by rw [ha]; exact putSel_on (e := (3, 31, .pointer (some ⟨b1, o1 + i * 2, none⟩))) 3 rfl rfl (hon 3 (by kernel_rfl)) (by rw [hsz]; rfl)
      replace ha := Aside0.mk ha
      have m0 := Kept.of hI _ _ _ d10
      refine value_ (w1 := w') (v := .string t1) (by rfl) rfl ?_ ?_
      · go_simp; try rfl
        all_goals (try (simp only [IntKind.wrap_i64]; omega))
      exact hK.out _ _ ⟨(by rw [ha.out]; exact putSel_upk 4 hb_ rfl rfl rfl), hI⟩
    refine steps_cons ?_ ?_
    · rintro b a w' ⟨ha, hI⟩ hb_ hon hoff
      refine ⟨_, rfl, fun K hK => ?_⟩
      have e1 : a.tmps[1]? = some (.slice (some ⟨b2, o2, none⟩) n cb) := by rw [ha]; exact (putSel_off rfl).trans s1
      replace ha := Aside0.mk ha
      refine value_ (w1 := w') (v := .slice (some ⟨b2, o2, none⟩) n cb) (by rfl) rfl ?_ ?_
      · go_simp; try rfl
        all_goals (try (simp only [IntKind.wrap_i64]; omega))
      exact hK.out _ _ ⟨(by rw [ha.out]; exact putSel_upk 5 hb_ rfl rfl rfl), hI⟩
    refine steps_cons ?_ ?_
    · rintro b a w' ⟨ha, hI⟩ hb_ hon hoff
      refine ⟨_, rfl, fun K hK => ?_⟩
      have e5 : a.tmps[5]? = some (.int .i64 (i : Int)) := by rw [ha]; exact (putSel_off rfl).trans s5
      replace ha := Aside0.mk ha
      refine value_ (w1 := w') (v := .int .i64 (i : Int)) (by rfl) rfl ?_ ?_
      · go_simp; try rfl
        all_goals (try (simp only [IntKind.wrap_i64]; omega))
      exact hK.out _ _ ⟨(by rw [ha.out]; exact putSel_upk 6 hb_ rfl rfl rfl), hI⟩
    refine steps_cons ?_ ?_
    · rintro b a w' ⟨ha, hI⟩ hb_ hon hoff
      refine ⟨_, rfl, fun K hK => ?_⟩
      have e33 : a.tmps[33]? = some (.slice (some ⟨b2, o2, none⟩) n cb) := by rw [ha]; exact putSel_on (e := (5, 33, .slice (some ⟨b2, o2, none⟩) n cb)) 5 rfl rfl (hon 5 (by kernel_rfl)) (by rw [hsz]; rfl)
      have e34 : a.tmps[34]? = some (.int .i64 (i : Int)) := by rw [ha]; exact putSel_on (e := (6, 34, .int .i64 (i : Int))) 6 rfl rfl (hon 6 (by kernel_rfl)) (by rw [hsz]; rfl)
      replace ha := Aside0.mk ha
      refine value_ (w1 := w') (v := .pointer (some ⟨b2, o2 + i * 2, none⟩)) (by rfl) rfl ?_ ?_
      · go_simp; try rfl
        all_goals (try (simp only [IntKind.wrap_i64]; omega))
      exact hK.out _ _ ⟨(by rw [ha.out]; exact putSel_upk 7 hb_ rfl rfl rfl), hI⟩
    refine steps_cons ?_ ?_
    · rintro b a w' ⟨ha, hI⟩ hb_ hon hoff
      refine ⟨_, rfl, fun K hK => ?_⟩
      have e35 : a.tmps[35]? = some (.pointer (some ⟨b2, o2 + i * 2, none⟩)) := by rw [ha]; exact putSel_on (e := (7, 35, .pointer (some ⟨b2, o2 + i * 2, none⟩))) 7 rfl rfl (hon 7 (by kernel_rfl)) (by rw [hsz]; rfl)
      replace ha := Aside0.mk ha
      refine value_ (w1 := w') (v := .pointer (some ⟨b2, o2 + i * 2, none⟩)) (by rfl) rfl ?_ ?_
      · go_simp; try rfl
        all_goals (try (simp only [IntKind.wrap_i64]; omega))
      exact hK.out _ _ ⟨(by rw [ha.out]; exact putSel_upk 8 hb_ rfl rfl rfl), hI⟩
    refine steps_cons ?_ ?_
    · rintro b a w' ⟨ha, hI⟩ hb_ hon hoff
      refine ⟨_, rfl, fun K hK => ?_⟩
      have e36 : a.tmps[36]? = some (.pointer (some ⟨b2, o2 + i * 2, none⟩)) := by rw [ha]; exact putSel_on (e := (8, 36, .pointer (some ⟨b2, o2 + i * 2, none⟩))) 8 rfl rfl (hon 8 (by kernel_rfl)) (by rw [hsz]; rfl)
      replace ha := Aside0.mk ha
      have m0 := Kept.of hI _ _ _ d20
      refine value_ (w1 := w') (v := .string t2) (by rfl) rfl ?_ ?_
      · go_simp; try rfl
        all_goals (try (simp only [IntKind.wrap_i64]; omega))
      exact hK.out _ _ ⟨(by rw [ha.out]; exact putSel_upk 9 hb_ rfl rfl rfl), hI⟩
    refine steps_cons ?_ ?_
    · rintro b a w' ⟨ha, hI⟩ hb_ hon hoff
      refine ⟨_, rfl, fun K hK => ?_⟩
      have e32 : a.tmps[32]? = some (.string t1) := by rw [ha]; exact putSel_on (e := (4, 32, .string t1)) 4 rfl rfl (hon 4 (by kernel_rfl)) (by rw [hsz]; rfl)
      have e37 : a.tmps[37]? = some (.string t2) := by rw [ha]; exact putSel_on (e := (9, 37, .string t2)) 9 rfl rfl (hon 9 (by kernel_rfl)) (by rw [hsz]; rfl)
      replace ha := Aside0.mk ha
      refine value_ (w1 := w') (v := .bool false) (by rfl) rfl ?_ ?_
      · go_simp; try rfl
        all_goals (try (simp only [IntKind.wrap_i64]; omega))
      exact hK.out _ _ ⟨(by rw [ha.out]; exact putSel_upk 10 hb_ rfl rfl rfl), hI⟩
    refine steps_cons ?_ ?_
    · rintro b a w' ⟨ha, hI⟩ hb_ hon hoff
      refine ⟨_, rfl, fun K hK => ?_⟩
      have e38 : a.tmps[38]? = some (.bool false) := by rw [ha]; exact putSel_on (e := (10, 38, .bool false)) 10 rfl rfl (hon 10 (by kernel_rfl)) (by rw [hsz]; rfl)
      replace ha := Aside0.mk ha
      refine value_ (w1 := w') (v := .bool false) (by rfl) rfl ?_ ?_
      · go_simp; try rfl
        all_goals (try (simp only [IntKind.wrap_i64]; omega))
      exact hK.out _ _ ⟨(by rw [ha.out]; exact putSel_upk 11 hb_ rfl rfl rfl), hI⟩
    refine steps_cons ?_ ?_
    · rintro b a w' ⟨ha, hI⟩ hb_ hon hoff
      refine ⟨_, rfl, fun K hK => ?_⟩
      have e6 : a.tmps[6]? = some (.pointer none) := by rw [ha]; exact (putSel_off rfl).trans s6
      have e39 : a.tmps[39]? = some (.bool false) := by rw [ha]; exact putSel_on (e := (11, 39, .bool false)) 11 rfl rfl (hon 11 (by kernel_rfl)) (by rw [hsz]; rfl)
      replace ha := Aside0.mk ha
      refine value_ (w1 := w') (v := .pointer none) (wanted_on rfl rfl rfl e39) rfl ?_ ?_
      · go_simp; try rfl
        all_goals (try (simp only [IntKind.wrap_i64]; omega))
      exact hK.out _ _ ⟨(by rw [ha.out]; exact putSel_upk 12 hb_ rfl rfl rfl), hI⟩
    refine steps_cons ?_ ?_
    · rintro b a w' ⟨ha, hI⟩ hb_ hon hoff
      refine ⟨_, rfl, fun K hK => ?_⟩
      have e40 : a.tmps[40]? = some (.pointer none) := by rw [ha]; exact putSel_on (e := (12, 40, .pointer none)) 12 rfl rfl (hon 12 (by kernel_rfl)) (by rw [hsz]; rfl)
      have e39 : a.tmps[39]? = some (.bool false) := by rw [ha]; exact putSel_on (e := (11, 39, .bool false)) 11 rfl rfl (hon 11 (by kernel_rfl)) (by rw [hsz]; rfl)
      replace ha := Aside0.mk ha
      refine value_ (w1 := w') (v := .bool true) (wanted_on rfl rfl rfl e39) rfl ?_ ?_
      · go_simp; try rfl
        all_goals (try (simp only [IntKind.wrap_i64]; omega))
      exact hK.out _ _ ⟨(by rw [ha.out]; exact putSel_upk 13 hb_ rfl rfl rfl), hI⟩
    refine steps_cons ?_ ?_
    · rintro b a w' ⟨ha, hI⟩ hb_ hon hoff
      refine ⟨_, rfl, fun K hK => ?_⟩
      have e7 : a.tmps[7]? = some (.pointer (some ⟨b4, o4, none⟩)) := by rw [ha]; exact (putSel_off rfl).trans s7
      have e39 : a.tmps[39]? = some (.bool false) := by rw [ha]; exact putSel_on (e := (11, 39, .bool false)) 11 rfl rfl (hon 11 (by kernel_rfl)) (by rw [hsz]; rfl)
      replace ha := Aside0.mk ha
      refine value_ (w1 := w') (v := .pointer (some ⟨b4, o4, none⟩)) (wanted_on rfl rfl rfl e39) rfl ?_ ?_
      · go_simp; try rfl
        all_goals (try (simp only [IntKind.wrap_i64]; omega))
      exact hK.out _ _ ⟨(by rw [ha.out]; exact putSel_upk 14 hb_ rfl rfl rfl), hI⟩
    refine steps_cons ?_ ?_
    · rintro b a w' ⟨ha, hI⟩ hb_ hon hoff
      refine ⟨_, rfl, fun K hK => ?_⟩
      have e42 : a.tmps[42]? = some (.pointer (some ⟨b4, o4, none⟩)) := by rw [ha]; exact putSel_on (e := (14, 42, .pointer (some ⟨b4, o4, none⟩))) 14 rfl rfl (hon 14 (by kernel_rfl)) (by rw [hsz]; rfl)
      have e39 : a.tmps[39]? = some (.bool false) := by rw [ha]; exact putSel_on (e := (11, 39, .bool false)) 11 rfl rfl (hon 11 (by kernel_rfl)) (by rw [hsz]; rfl)
      replace ha := Aside0.mk ha
      refine value_ (w1 := w') (v := .bool false) (wanted_on rfl rfl rfl e39) rfl ?_ ?_
      · go_simp; try rfl
        all_goals (try (simp only [IntKind.wrap_i64]; omega))
      exact hK.out _ _ ⟨(by rw [ha.out]; exact putSel_upk 15 hb_ rfl rfl rfl), hI⟩
    refine steps_cons ?_ ?_
    · rintro b a w' ⟨ha, hI⟩ hb_ hon hoff
      refine ⟨_, rfl, fun K hK => ?_⟩
      have e41 : a.tmps[41]? = some (.bool true) := by rw [ha]; exact putSel_on (e := (13, 41, .bool true)) 13 rfl rfl (hon 13 (by kernel_rfl)) (by rw [hsz]; rfl)
      have e43 : a.tmps[43]? = some (.bool false) := by rw [ha]; exact putSel_on (e := (15, 43, .bool false)) 15 rfl rfl (hon 15 (by kernel_rfl)) (by rw [hsz]; rfl)
      have e39 : a.tmps[39]? = some (.bool false) := by rw [ha]; exact putSel_on (e := (11, 39, .bool false)) 11 rfl rfl (hon 11 (by kernel_rfl)) (by rw [hsz]; rfl)
      replace ha := Aside0.mk ha
      refine value_ (w1 := w') (v := .bool true) (wanted_on rfl rfl rfl e39) rfl ?_ ?_
      · go_simp; try rfl
        all_goals (try (simp only [IntKind.wrap_i64]; omega))
      exact hK.out _ _ ⟨(by rw [ha.out]; exact putSel_upk 16 hb_ rfl rfl rfl), hI⟩
    refine steps_cons ?_ ?_
    · rintro b a w' ⟨ha, hI⟩ hb_ hon hoff
      refine ⟨_, rfl, fun K hK => ?_⟩
      have e39 : a.tmps[39]? = some (.bool false) := by rw [ha]; exact putSel_on (e := (11, 39, .bool false)) 11 rfl rfl (hon 11 (by kernel_rfl)) (by rw [hsz]; rfl)
      have e44 : a.tmps[44]? = some (.bool true) := by rw [ha]; exact putSel_on (e := (16, 44, .bool true)) 16 rfl rfl (hon 16 (by kernel_rfl)) (by rw [hsz]; rfl)
      replace ha := Aside0.mk ha
      refine value_ (w1 := w') (v := .bool true) (by rfl) rfl ?_ ?_
      · go_simp; try rfl
        all_goals (try (simp only [IntKind.wrap_i64]; omega))
      exact hK.out _ _ ⟨(by rw [ha.out]; exact putSel_upk 17 hb_ rfl rfl rfl), hI⟩
    refine steps_cons ?_ ?_
    · rintro b a w' ⟨ha, hI⟩ hb_ hon hoff
      refine ⟨_, rfl, fun K hK => ?_⟩
      have e45 : a.tmps[45]? = some (.bool true) := by rw [ha]; exact putSel_on (e := (17, 45, .bool true)) 17 rfl rfl (hon 17 (by kernel_rfl)) (by rw [hsz]; rfl)
      replace ha := Aside0.mk ha
      refine value_ (w1 := w') (v := .bool true) (by rfl) rfl ?_ ?_
      · go_simp; try rfl
        all_goals (try (simp only [IntKind.wrap_i64]; omega))
      exact hK.out _ _ ⟨(by rw [ha.out]; exact putSel_upk 18 hb_ rfl rfl rfl), hI⟩
    refine steps_cons ?_ ?_
    · rintro b a w' ⟨ha, hI⟩ hb_ hon hoff
      refine ⟨_, rfl, fun K hK => ?_⟩
      have e46 : a.tmps[46]? = some (.bool true) := by rw [ha]; exact putSel_on (e := (18, 46, .bool true)) 18 rfl rfl (hon 18 (by kernel_rfl)) (by rw [hsz]; rfl)
      exact off_ (wanted_off rfl rfl rfl e46) (hK.out _ _ ⟨(by rw [ha]; exact putSel_upk 19 hb_ rfl rfl rfl), hI⟩)
    refine steps_cons ?_ ?_
    · rintro b a w' ⟨ha, hI⟩ hb_ hon hoff
      refine ⟨_, rfl, fun K hK => ?_⟩
      have e46 : a.tmps[46]? = some (.bool true) := by rw [ha]; exact putSel_on (e := (18, 46, .bool true)) 18 rfl rfl (hon 18 (by kernel_rfl)) (by rw [hsz]; rfl)
      exact off_ (wanted_off rfl rfl rfl e46) (hK.out _ _ ⟨(by rw [ha]; exact putSel_upk 20 hb_ rfl rfl rfl), hI⟩)
    refine steps_cons ?_ ?_
    · rintro b a w' ⟨ha, hI⟩ hb_ hon hoff
      refine ⟨_, rfl, fun K hK => ?_⟩
      have e46 : a.tmps[46]? = some (.bool true) := by rw [ha]; exact putSel_on (e := (18, 46, .bool true)) 18 rfl rfl (hon 18 (by kernel_rfl)) (by rw [hsz]; rfl)
      exact off_ (wanted_off rfl rfl rfl e46) (hK.out _ _ ⟨(by rw [ha]; exact putSel_upk 21 hb_ rfl rfl rfl), hI⟩)
    refine steps_cons ?_ ?_
    · rintro b a w' ⟨ha, hI⟩ hb_ hon hoff
      refine ⟨_, rfl, fun K hK => ?_⟩
      have e49 : a.tmps[49]? = some (undef) := by rw [ha]; exact putSel_on (e := (21, 49, undef)) 21 rfl rfl (hon 21 (by kernel_rfl)) (by rw [hsz]; rfl)
      exact off_ (wanted_und rfl rfl rfl e49) (hK.out _ _ ⟨(by rw [ha]; exact putSel_upk 22 hb_ rfl rfl rfl), hI⟩)
    refine steps_cons ?_ ?_
    · rintro b a w' ⟨ha, hI⟩ hb_ hon hoff
      refine ⟨_, rfl, fun K hK => ?_⟩
      have e49 : a.tmps[49]? = some (undef) := by rw [ha]; exact putSel_on (e := (21, 49, undef)) 21 rfl rfl (hon 21 (by kernel_rfl)) (by rw [hsz]; rfl)
      exact off_ (wanted_und rfl rfl rfl e49) (hK.out _ _ ⟨(by rw [ha]; exact putSel_upk 23 hb_ rfl rfl rfl), hI⟩)
    refine steps_cons ?_ ?_
    · rintro b a w' ⟨ha, hI⟩ hb_ hon hoff
      refine ⟨_, rfl, fun K hK => ?_⟩
      have e49 : a.tmps[49]? = some (undef) := by rw [ha]; exact putSel_on (e := (21, 49, undef)) 21 rfl rfl (hon 21 (by kernel_rfl)) (by rw [hsz]; rfl)
      exact off_ (wanted_und rfl rfl rfl e49) (hK.out _ _ ⟨(by rw [ha]; exact putSel_upk 24 hb_ rfl rfl rfl), hI⟩)
    refine steps_cons ?_ ?_
    · rintro b a w' ⟨ha, hI⟩ hb_ hon hoff
      refine ⟨_, rfl, fun K hK => ?_⟩
      have e49 : a.tmps[49]? = some (undef) := by rw [ha]; exact putSel_on (e := (21, 49, undef)) 21 rfl rfl (hon 21 (by kernel_rfl)) (by rw [hsz]; rfl)
      exact off_ (wanted_und rfl rfl rfl e49) (hK.out _ _ ⟨(by rw [ha]; exact putSel_upk 25 hb_ rfl rfl rfl), hI⟩)
    refine steps_cons ?_ ?_
    · rintro b a w' ⟨ha, hI⟩ hb_ hon hoff
      refine ⟨_, rfl, fun K hK => ?_⟩
      have e49 : a.tmps[49]? = some (undef) := by rw [ha]; exact putSel_on (e := (21, 49, undef)) 21 rfl rfl (hon 21 (by kernel_rfl)) (by rw [hsz]; rfl)
      exact off_ (wanted_und rfl rfl rfl e49) (hK.out _ _ ⟨(by rw [ha]; exact putSel_upk 26 hb_ rfl rfl rfl), hI⟩)
    refine steps_cons ?_ ?_
    · rintro b a w' ⟨ha, hI⟩ hb_ hon hoff
      refine ⟨_, rfl, fun K hK => ?_⟩
      have e49 : a.tmps[49]? = some (undef) := by rw [ha]; exact putSel_on (e := (21, 49, undef)) 21 rfl rfl (hon 21 (by kernel_rfl)) (by rw [hsz]; rfl)
      exact off_ (wanted_und rfl rfl rfl e49) (hK.out _ _ ⟨(by rw [ha]; exact putSel_upk 27 hb_ rfl rfl rfl), hI⟩)
    refine steps_cons ?_ ?_
    · rintro b a w' ⟨ha, hI⟩ hb_ hon hoff
      refine ⟨_, rfl, fun K hK => ?_⟩
      have e49 : a.tmps[49]? = some (undef) := by rw [ha]; exact putSel_on (e := (21, 49, undef)) 21 rfl rfl (hon 21 (by kernel_rfl)) (by rw [hsz]; rfl)
      exact off_ (wanted_und rfl rfl rfl e49) (hK.out _ _ ⟨(by rw [ha]; exact putSel_upk 28 hb_ rfl rfl rfl), hI⟩)
    refine steps_cons ?_ ?_
    · rintro b a w' ⟨ha, hI⟩ hb_ hon hoff
      refine ⟨_, rfl, fun K hK => ?_⟩
      have e49 : a.tmps[49]? = some (undef) := by rw [ha]; exact putSel_on (e := (21, 49, undef)) 21 rfl rfl (hon 21 (by kernel_rfl)) (by rw [hsz]; rfl)
      exact off_ (wanted_und rfl rfl rfl e49) (hK.out _ _ ⟨(by rw [ha]; exact putSel_upk 29 hb_ rfl rfl rfl), hI⟩)
    refine steps_cons ?_ ?_
    · rintro b a w' ⟨ha, hI⟩ hb_ hon hoff
      refine ⟨_, rfl, fun K hK => ?_⟩
      have e46 : a.tmps[46]? = some (.bool true) := by rw [ha]; exact putSel_on (e := (18, 46, .bool true)) 18 rfl rfl (hon 18 (by kernel_rfl)) (by rw [hsz]; rfl)
      exact off_ (wanted_off rfl rfl rfl e46) (hK.out _ _ ⟨(by rw [ha]; exact putSel_upk 30 hb_ rfl rfl rfl), hI⟩)
    refine steps_cons ?_ ?_
    · rintro b a w' ⟨ha, hI⟩ hb_ hon hoff
      refine ⟨_, rfl, fun K hK => ?_⟩
      have e46 : a.tmps[46]? = some (.bool true) := by rw [ha]; exact putSel_on (e := (18, 46, .bool true)) 18 rfl rfl (hon 18 (by kernel_rfl)) (by rw [hsz]; rfl)
      have e58 : a.tmps[58]? = some (undef) := by rw [ha]; exact putSel_on (e := (30, 58, undef)) 30 rfl rfl (hon 30 (by kernel_rfl)) (by rw [hsz]; rfl)
      replace ha := Aside0.mk ha
      refine value_ (w1 := w') (v := .bool true) (by rfl) rfl ?_ ?_
      · go_simp; try rfl
        all_goals (try (simp only [IntKind.wrap_i64]; omega))
      exact hK.out _ _ ⟨(by rw [ha.out]; exact putSel_upk 31 hb_ rfl rfl rfl), hI⟩
    exact steps_nil
  rintro b a w1 hall ⟨ha, hI1⟩
  exact hend a w1 hI1 (by rw [ha]; simp only [putSel, if_true, hall 0 (by kernel_rfl), hall 1 (by kernel_rfl), hall 2 (by kernel_rfl), hall 3 (by kernel_rfl), hall 4 (by kernel_rfl), hall 5 (by kernel_rfl), hall 6 (by kernel_rfl), hall 7 (by kernel_rfl), hall 8 (by kernel_rfl), hall 9 (by kernel_rfl), hall 10 (by kernel_rfl), hall 11 (by kernel_rfl), hall 12 (by kernel_rfl), hall 13 (by kernel_rfl), hall 14 (by kernel_rfl), hall 15 (by kernel_rfl), hall 16 (by kernel_rfl), hall 17 (by kernel_rfl), hall 18 (by kernel_rfl), hall 19 (by kernel_rfl), hall 20 (by kernel_rfl), hall 21 (by kernel_rfl), hall 22 (by kernel_rfl), hall 23 (by kernel_rfl), hall 24 (by kernel_rfl), hall 25 (by kernel_rfl), hall 26 (by kernel_rfl), hall 27 (by kernel_rfl), hall 28 (by kernel_rfl), hall 29 (by kernel_rfl), hall 30 (by kernel_rfl), hall 31 (by kernel_rfl)]) (by rw [ha]; exact (putSel_size b _ a0).2) (by rw [ha]; exact putSel_on (e := (31, 59, .bool true)) 31 rfl rfl (hall 31 (by kernel_rfl)) (by rw [hsz]; rfl))
end Go.Proofs.YtipmphgkdomebaaDoor
namespace Go.Proofs.YtipmphgkdomebaaDoor
open Go.RowKit Go.Proofs.YtipmphgkdomebaaDoorW.PrintWords Go.Proofs.YtipmphgkdomebaaDoorW.PrintLast
set_option linter.unusedVariables false
set_option linter.unusedSimpArgs false
def as47bs.T : Bool × List (List Nat × List Nat) := (true, [([], []), ([], []), ([0, 1], [0, 1]), ([2], [2]), ([3], [3]), ([], []), ([], []), ([5, 6], [5, 6]), ([7], [7]), ([8], [8]), ([4, 9], [4, 9]), ([10], [10]), ([11], [11]), ([12, 11], [11, 12]), ([11], [11]), ([14, 11], [11, 14]), ([13, 15, 11], [11, 13, 15]), ([11, 16], [11, 16]), ([17, 11], [17]), ([18], [18]), ([19, 18], [18, 19]), ([20, 18, 18], [18, 20]), ([21], [21]), ([22, 21], [21, 22]), ([23, 21], [21, 23]), ([21], [21]), ([25, 21], [21, 25]), ([26, 21], [21, 26]), ([24, 27, 21, 21], [21, 24, 27]), ([28, 21], [21, 28]), ([21, 29, 18], [18, 21, 29]), ([18, 30], [18, 30])])
def as47bs.B : List Nat := [0, 0, 3, 7, 15, 0, 0, 96, 224, 480, 1023, 2047, 4095, 8191, 4095, 20479, 65535, 131071, 262143, 524287, 1048575, 2097151, 4194303, 8388607, 16777215, 4194303, 37748735, 104857599, 268435455, 536870911, 1073741823, 2147483647]
theorem as47bs.tab : rtab .any (opsOf Tryd.f47 8) = as47bs.T := by kernel_rfl
theorem as47bs.bits : waitsOk as47bs.T.2 as47bs.B = true := by kernel_rfl
set_option maxRecDepth 100000 in
set_option maxHeartbeats 4000000 in
theorem as47bs (w0 : World) (t1 t2 : ByteArray) (hq : (t1.toList == t2.toList) = true) (n ca cb i b1 o1 b2 o2 : Nat) (q1 : (0 : Int) ≤ (i : Int)) (q2 : (i : Int) < (n : Int)) (b3 o3 : Nat) (d10 : w0.cell? ⟨b1, o1 + i * 2, none⟩ = some (.string t1)) (d20 : w0.cell? ⟨b2, o2 + i * 2, none⟩ = some (.string t2)) (a0 : Act) (s0 : a0.tmps[0]? = some (.slice (some ⟨b1, o1, none⟩) n ca)) (s1 : a0.tmps[1]? = some (.slice (some ⟨b2, o2, none⟩) n cb)) (s5 : a0.tmps[5]? = some (.int .i64 (i : Int))) (s6 : a0.tmps[6]? = some (.pointer (some ⟨b3, o3, none⟩))) (s7 : a0.tmps[7]? = some (.pointer none)) (hsz : a0.tmps.size = Tryd.f47.ntmps) (W : World) (hI : Below w0.heap.size w0 W.drew) (Q : Exit → Act → World → Prop) (hend : ∀ (a9 : Act) w', Below w0.heap.size w0 w' → a9 = putSel a0 (fun _ => true) [(0, 28, .slice (some ⟨b1, o1, none⟩) n ca), (1, 29, .int .i64 (i : Int)), (2, 30, .pointer (some ⟨b1, o1 + i * 2, none⟩)), (3, 31, .pointer (some ⟨b1, o1 + i * 2, none⟩)), (4, 32, .string t1), (5, 33, .slice (some ⟨b2, o2, none⟩) n cb), (6, 34, .int .i64 (i : Int)), (7, 35, .pointer (some ⟨b2, o2 + i * 2, none⟩)), (8, 36, .pointer (some ⟨b2, o2 + i * 2, none⟩)), (9, 37, .string t2), (10, 38, .bool false), (11, 39, .bool false), (12, 40, .pointer (some ⟨b3, o3, none⟩)), (13, 41, .bool false), (14, 42, .pointer none), (15, 43, .bool true), (16, 44, .bool true), (17, 45, .bool true), (18, 46, .bool true), (19, 47, undef), (20, 48, undef), (21, 49, undef), (22, 50, undef), (23, 51, undef), (24, 52, undef), (25, 53, undef), (26, 54, undef), (27, 55, undef), (28, 56, undef), (29, 57, undef), (30, 58, undef), (31, 59, .bool true)] → a9.defers = a0.defers → a9.tmps[59]? = some (.bool true) → Q .normal a9 w') :
    (Code.region 8 #[{ dst := some 28, op := Op.move (Operand.tmp 0), type := 26, pos := "law.go:246", after := #[], guard := none }, { dst := some 29, op := Op.move (Operand.tmp 5), type := 3, pos := "law.go:246", after := #[], guard := none }, { dst := some 30, op := Op.indexAddr 26 (Operand.tmp 28) (Operand.tmp 29), type := 0, pos := "law.go:246", after := #[{ on := 0, ground := Ground.data }, { on := 1, ground := Ground.data }], guard := none }, { dst := some 31, op := Op.fieldAddr 42 (Operand.tmp 30) 0, type := 0, pos := "law.go:246", after := #[{ on := 2, ground := Ground.data }], guard := none }, { dst := some 32, op := Op.load 9 (Operand.tmp 31), type := 9, pos := "law.go:246", after := #[{ on := 3, ground := Ground.data }], guard := none }, { dst := some 33, op := Op.move (Operand.tmp 1), type := 26, pos := "law.go:246", after := #[], guard := none }, { dst := some 34, op := Op.move (Operand.tmp 5), type := 3, pos := "law.go:246", after := #[], guard := none }, { dst := some 35, op := Op.indexAddr 26 (Operand.tmp 33) (Operand.tmp 34), type := 0, pos := "law.go:246", after := #[{ on := 5, ground := Ground.data }, { on := 6, ground := Ground.data }], guard := none }, { dst := some 36, op := Op.fieldAddr 42 (Operand.tmp 35) 0, type := 0, pos := "law.go:246", after := #[{ on := 7, ground := Ground.data }], guard := none }, { dst := some 37, op := Op.load 9 (Operand.tmp 36), type := 9, pos := "law.go:246", after := #[{ on := 8, ground := Ground.data }], guard := none }, { dst := some 38, op := Op.binOp BinOp.neq 9 (Operand.tmp 32) (Operand.tmp 37) 9, type := 4, pos := "law.go:246", after := #[{ on := 4, ground := Ground.data }, { on := 9, ground := Ground.data }], guard := none }, { dst := some 39, op := Op.move (Operand.tmp 38), type := 4, pos := "law.go:246", after := #[{ on := 10, ground := Ground.data }], guard := none }, { dst := some 40, op := Op.move (Operand.tmp 6), type := 37, pos := "law.go:246", after := #[{ on := 11, ground := Ground.guard }], guard := some (11, false) }, { dst := some 41, op := Op.binOp BinOp.eql 37 (Operand.tmp 40) (Operand.const (Value.pointer none)) 37, type := 4, pos := "law.go:246", after := #[{ on := 12, ground := Ground.data }, { on := 11, ground := Ground.guard }], guard := some (11, false) }, { dst := some 42, op := Op.move (Operand.tmp 7), type := 37, pos := "law.go:246", after := #[{ on := 11, ground := Ground.guard }], guard := some (11, false) }, { dst := some 43, op := Op.binOp BinOp.eql 37 (Operand.tmp 42) (Operand.const (Value.pointer none)) 37, type := 4, pos := "law.go:246", after := #[{ on := 14, ground := Ground.data }, { on := 11, ground := Ground.guard }], guard := some (11, false) }, { dst := some 44, op := Op.binOp BinOp.neq 4 (Operand.tmp 41) (Operand.tmp 43) 4, type := 4, pos := "law.go:246", after := #[{ on := 13, ground := Ground.data }, { on := 15, ground := Ground.data }, { on := 11, ground := Ground.guard }], guard := some (11, false) }, { dst := some 45, op := Op.pick (Operand.tmp 39) (Operand.const (Value.bool true)) (Operand.tmp 44), type := 4, pos := "law.go:246", after := #[{ on := 11, ground := Ground.data }, { on := 16, ground := Ground.data }], guard := none }, { dst := some 46, op := Op.move (Operand.tmp 45), type := 4, pos := "law.go:246", after := #[{ on := 17, ground := Ground.data }, { on := 11, ground := Ground.chain }], guard := none }, { dst := some 47, op := Op.move (Operand.tmp 6), type := 37, pos := "law.go:246", after := #[{ on := 18, ground := Ground.guard }], guard := some (18, false) }, { dst := some 48, op := Op.binOp BinOp.neq 37 (Operand.tmp 47) (Operand.const (Value.pointer none)) 37, type := 4, pos := "law.go:246", after := #[{ on := 19, ground := Ground.data }, { on := 18, ground := Ground.guard }], guard := some (18, false) }, { dst := some 49, op := Op.move (Operand.tmp 48), type := 4, pos := "law.go:246", after := #[{ on := 20, ground := Ground.data }, { on := 18, ground := Ground.chain }, { on := 18, ground := Ground.guard }], guard := some (18, false) }, { dst := some 50, op := Op.move (Operand.tmp 6), type := 37, pos := "law.go:246", after := #[{ on := 21, ground := Ground.guard }], guard := some (21, true) }, { dst := some 51, op := Op.nilCheck (Operand.tmp 50), type := 0, pos := "law.go:246", after := #[{ on := 22, ground := Ground.data }, { on := 21, ground := Ground.guard }], guard := some (21, true) }, { dst := some 52, op := Op.load 40 (Operand.tmp 51), type := 40, pos := "law.go:246", after := #[{ on := 23, ground := Ground.data }, { on := 21, ground := Ground.guard }], guard := some (21, true) }, { dst := some 53, op := Op.move (Operand.tmp 7), type := 37, pos := "law.go:246", after := #[{ on := 21, ground := Ground.guard }], guard := some (21, true) }, { dst := some 54, op := Op.nilCheck (Operand.tmp 53), type := 0, pos := "law.go:246", after := #[{ on := 25, ground := Ground.data }, { on := 21, ground := Ground.guard }], guard := some (21, true) }, { dst := some 55, op := Op.load 40 (Operand.tmp 54), type := 40, pos := "law.go:246", after := #[{ on := 26, ground := Ground.data }, { on := 21, ground := Ground.guard }], guard := some (21, true) }, { dst := some 56, op := Op.call { callee := Callee.value (Operand.func 82), args := #[Operand.tmp 52, Operand.tmp 55], argTypes := #[40, 40] }, type := 4, pos := "law.go:246", after := #[{ on := 24, ground := Ground.data }, { on := 27, ground := Ground.data }, { on := 21, ground := Ground.chain }, { on := 21, ground := Ground.guard }], guard := some (21, true) }, { dst := some 57, op := Op.unOp UnOp.not 4 (Operand.tmp 56), type := 4, pos := "law.go:246", after := #[{ on := 28, ground := Ground.data }, { on := 21, ground := Ground.guard }], guard := some (21, true) }, { dst := some 58, op := Op.pick (Operand.tmp 49) (Operand.tmp 57) (Operand.const (Value.bool false)), type := 4, pos := "law.go:246", after := #[{ on := 21, ground := Ground.data }, { on := 29, ground := Ground.data }, { on := 18, ground := Ground.guard }], guard := some (18, false) }, { dst := some 59, op := Op.pick (Operand.tmp 46) (Operand.const (Value.bool true)) (Operand.tmp 58), type := 4, pos := "law.go:246", after := #[{ on := 18, ground := Ground.data }, { on := 30, ground := Ground.data }], guard := none }] true).wp Tryd.prog Q a0 W := by
  refine start_ (n := 32) (S := fun w' => True) (ds := []) #[false, false, false, false, false, false, false, false, false, false, false, false, false, false, false, false, false, false, false, false, false, false, false, false, false, false, false, false, false, false, false, false] (by kernel_rfl) rfl rfl trivial (fun hHeld => ?_)
  refine with_tabW as47bs.tab as47bs.bits (fun HT_ HW_ => ?_)
  refine inv_at [0, 1, 2, 3, 4, 5, 6, 7, 8, 9, 10, 11, 12, 13, 14, 15, 16, 17, 18, 19, 20, 21, 22, 23, 24, 25, 26, 27, 28, 29, 30, 31] (fun a0_ b a w' => a = putSel a0_ b [(0, 28, .slice (some ⟨b1, o1, none⟩) n ca), (1, 29, .int .i64 (i : Int)), (2, 30, .pointer (some ⟨b1, o1 + i * 2, none⟩)), (3, 31, .pointer (some ⟨b1, o1 + i * 2, none⟩)), (4, 32, .string t1), (5, 33, .slice (some ⟨b2, o2, none⟩) n cb), (6, 34, .int .i64 (i : Int)), (7, 35, .pointer (some ⟨b2, o2 + i * 2, none⟩)), (8, 36, .pointer (some ⟨b2, o2 + i * 2, none⟩)), (9, 37, .string t2), (10, 38, .bool false), (11, 39, .bool false), (12, 40, .pointer (some ⟨b3, o3, none⟩)), (13, 41, .bool false), (14, 42, .pointer none), (15, 43, .bool true), (16, 44, .bool true), (17, 45, .bool true), (18, 46, .bool true), (19, 47, undef), (20, 48, undef), (21, 49, undef), (22, 50, undef), (23, 51, undef), (24, 52, undef), (25, 53, undef), (26, 54, undef), (27, 55, undef), (28, 56, undef), (29, 57, undef), (30, 58, undef), (31, 59, .bool true)] ∧ (Below w0.heap.size w0 w')) HT_.out HW_.out (by kernel_rfl) (by kernel_rfl) ?_ ?_ ?_
  · exact ⟨(by simp only [putSel, Bool.false_eq_true, if_false]), hI⟩
  · clear hI hend hHeld
    refine steps_cons ?_ ?_
    · rintro b a w' ⟨ha, hI⟩ hb_ hon hoff
      refine ⟨_, rfl, fun K hK => ?_⟩
      have e0 : a.tmps[0]? = some (.slice (some ⟨b1, o1, none⟩) n ca) := by rw [ha]; exact (putSel_off rfl).trans s0
      replace ha := Aside0.mk ha
      refine value_ (w1 := w') (v := .slice (some ⟨b1, o1, none⟩) n ca) (by rfl) rfl ?_ ?_
      · go_simp; try rfl
        all_goals (try (simp only [IntKind.wrap_i64]; omega))
      exact hK.out _ _ ⟨(by rw [ha.out]; exact putSel_upk 0 hb_ rfl rfl rfl), hI⟩
    refine steps_cons ?_ ?_
    · rintro b a w' ⟨ha, hI⟩ hb_ hon hoff
      refine ⟨_, rfl, fun K hK => ?_⟩
      have e5 : a.tmps[5]? = some (.int .i64 (i : Int)) := by rw [ha]; exact (putSel_off rfl).trans s5
      replace ha := Aside0.mk ha
      refine value_ (w1 := w') (v := .int .i64 (i : Int)) (by rfl) rfl ?_ ?_
      · go_simp; try rfl
        all_goals (try (simp only [IntKind.wrap_i64]; omega))
      exact hK.out _ _ ⟨(by rw [ha.out]; exact putSel_upk 1 hb_ rfl rfl rfl), hI⟩
    refine steps_cons ?_ ?_
    · rintro b a w' ⟨ha, hI⟩ hb_ hon hoff
      refine ⟨_, rfl, fun K hK => ?_⟩
      have e28 : a.tmps[28]? = some (.slice (some ⟨b1, o1, none⟩) n ca) := by rw [ha]; exact putSel_on (e := (0, 28, .slice (some ⟨b1, o1, none⟩) n ca)) 0 rfl rfl (hon 0 (by kernel_rfl)) (by rw [hsz]; rfl)
      have e29 : a.tmps[29]? = some (.int .i64 (i : Int)) := by rw [ha]; exact putSel_on (e := (1, 29, .int .i64 (i : Int))) 1 rfl rfl (hon 1 (by kernel_rfl)) (by rw [hsz]; rfl)
      replace ha := Aside0.mk ha
      refine value_ (w1 := w') (v := .pointer (some ⟨b1, o1 + i * 2, none⟩)) (by rfl) rfl ?_ ?_
      · go_simp; try rfl
        all_goals (try (simp only [IntKind.wrap_i64]; omega))
      exact hK.out _ _ ⟨(by rw [ha.out]; exact putSel_upk 2 hb_ rfl rfl rfl), hI⟩
    refine steps_cons ?_ ?_
    · rintro b a w' ⟨ha, hI⟩ hb_ hon hoff
      refine ⟨_, rfl, fun K hK => ?_⟩
      have e30 : a.tmps[30]? = some (.pointer (some ⟨b1, o1 + i * 2, none⟩)) := by rw [ha]; exact putSel_on (e := (2, 30, .pointer (some ⟨b1, o1 + i * 2, none⟩))) 2 rfl rfl (hon 2 (by kernel_rfl)) (by rw [hsz]; rfl)
      replace ha := Aside0.mk ha
      refine value_ (w1 := w') (v := .pointer (some ⟨b1, o1 + i * 2, none⟩)) (by rfl) rfl ?_ ?_
      · go_simp; try rfl
        all_goals (try (simp only [IntKind.wrap_i64]; omega))
      exact hK.out _ _ ⟨(by rw [ha.out]; exact putSel_upk 3 hb_ rfl rfl rfl), hI⟩
    refine steps_cons ?_ ?_
    · rintro b a w' ⟨ha, hI⟩ hb_ hon hoff
      refine ⟨_, rfl, fun K hK => ?_⟩
      have e31 : a.tmps[31]? = some (.pointer (some ⟨b1, o1 + i * 2, none⟩)) := by rw [ha]; exact putSel_on (e := (3, 31, .pointer (some ⟨b1, o1 + i * 2, none⟩))) 3 rfl rfl (hon 3 (by kernel_rfl)) (by rw [hsz]; rfl)
      replace ha := Aside0.mk ha
      have m0 := Kept.of hI _ _ _ d10
      refine value_ (w1 := w') (v := .string t1) (by rfl) rfl ?_ ?_
      · go_simp; try rfl
        all_goals (try (simp only [IntKind.wrap_i64]; omega))
      exact hK.out _ _ ⟨(by rw [ha.out]; exact putSel_upk 4 hb_ rfl rfl rfl), hI⟩
    refine steps_cons ?_ ?_
    · rintro b a w' ⟨ha, hI⟩ hb_ hon hoff
      refine ⟨_, rfl, fun K hK => ?_⟩
      have e1 : a.tmps[1]? = some (.slice (some ⟨b2, o2, none⟩) n cb) := by rw [ha]; exact (putSel_off rfl).trans s1
      replace ha := Aside0.mk ha
      refine value_ (w1 := w') (v := .slice (some ⟨b2, o2, none⟩) n cb) (by rfl) rfl ?_ ?_
      · go_simp; try rfl
        all_goals (try (simp only [IntKind.wrap_i64]; omega))
      exact hK.out _ _ ⟨(by rw [ha.out]; exact putSel_upk 5 hb_ rfl rfl rfl), hI⟩
    refine steps_cons ?_ ?_
    · rintro b a w' ⟨ha, hI⟩ hb_ hon hoff
      refine ⟨_, rfl, fun K hK => ?_⟩
      have e5 : a.tmps[5]? = some (.int .i64 (i : Int)) := by rw [ha]; exact (putSel_off rfl).trans s5
      replace ha := Aside0.mk ha
      refine value_ (w1 := w') (v := .int .i64 (i : Int)) (by rfl) rfl ?_ ?_
      · go_simp; try rfl
        all_goals (try (simp only [IntKind.wrap_i64]; omega))
      exact hK.out _ _ ⟨(by rw [ha.out]; exact putSel_upk 6 hb_ rfl rfl rfl), hI⟩
    refine steps_cons ?_ ?_
    · rintro b a w' ⟨ha, hI⟩ hb_ hon hoff
      refine ⟨_, rfl, fun K hK => ?_⟩
      have e33 : a.tmps[33]? = some (.slice (some ⟨b2, o2, none⟩) n cb) := by rw [ha]; exact putSel_on (e := (5, 33, .slice (some ⟨b2, o2, none⟩) n cb)) 5 rfl rfl (hon 5 (by kernel_rfl)) (by rw [hsz]; rfl)
      have e34 : a.tmps[34]? = some (.int .i64 (i : Int)) := by rw [ha]; exact putSel_on (e := (6, 34, .int .i64 (i : Int))) 6 rfl rfl (hon 6 (by kernel_rfl)) (by rw [hsz]; rfl)
      replace ha := Aside0.mk ha
      refine value_ (w1 := w') (v := .pointer (some ⟨b2, o2 + i * 2, none⟩)) (by rfl) rfl ?_ ?_
      · go_simp; try rfl
        all_goals (try (simp only [IntKind.wrap_i64]; omega))
      exact hK.out _ _ ⟨(by rw [ha.out]; exact putSel_upk 7 hb_ rfl rfl rfl), hI⟩
    refine steps_cons ?_ ?_
    · rintro b a w' ⟨ha, hI⟩ hb_ hon hoff
      refine ⟨_, rfl, fun K hK => ?_⟩
      have e35 : a.tmps[35]? = some (.pointer (some ⟨b2, o2 + i * 2, none⟩)) := by rw [ha]; exact putSel_on (e := (7, 35, .pointer (some ⟨b2, o2 + i * 2, none⟩))) 7 rfl rfl (hon 7 (by kernel_rfl)) (by rw [hsz]; rfl)
      replace ha := Aside0.mk ha
      refine value_ (w1 := w') (v := .pointer (some ⟨b2, o2 + i * 2, none⟩)) (by rfl) rfl ?_ ?_
      · go_simp; try rfl
        all_goals (try (simp only [IntKind.wrap_i64]; omega))
      exact hK.out _ _ ⟨(by rw [ha.out]; exact putSel_upk 8 hb_ rfl rfl rfl), hI⟩
    refine steps_cons ?_ ?_
    · rintro b a w' ⟨ha, hI⟩ hb_ hon hoff
      refine ⟨_, rfl, fun K hK => ?_⟩
      have e36 : a.tmps[36]? = some (.pointer (some ⟨b2, o2 + i * 2, none⟩)) := by rw [ha]; exact putSel_on (e := (8, 36, .pointer (some ⟨b2, o2 + i * 2, none⟩))) 8 rfl rfl (hon 8 (by kernel_rfl)) (by rw [hsz]; rfl)
      replace ha := Aside0.mk ha
      have m0 := Kept.of hI _ _ _ d20
      refine value_ (w1 := w') (v := .string t2) (by rfl) rfl ?_ ?_
      · go_simp; try rfl
        all_goals (try (simp only [IntKind.wrap_i64]; omega))
      exact hK.out _ _ ⟨(by rw [ha.out]; exact putSel_upk 9 hb_ rfl rfl rfl), hI⟩
    refine steps_cons ?_ ?_
    · rintro b a w' ⟨ha, hI⟩ hb_ hon hoff
      refine ⟨_, rfl, fun K hK => ?_⟩
      have e32 : a.tmps[32]? = some (.string t1) := by rw [ha]; exact putSel_on (e := (4, 32, .string t1)) 4 rfl rfl (hon 4 (by kernel_rfl)) (by rw [hsz]; rfl)
      have e37 : a.tmps[37]? = some (.string t2) := by rw [ha]; exact putSel_on (e := (9, 37, .string t2)) 9 rfl rfl (hon 9 (by kernel_rfl)) (by rw [hsz]; rfl)
      replace ha := Aside0.mk ha
      refine value_ (w1 := w') (v := .bool false) (by rfl) rfl ?_ ?_
      · go_simp; try rfl
        all_goals (try (simp only [IntKind.wrap_i64]; omega))
      exact hK.out _ _ ⟨(by rw [ha.out]; exact putSel_upk 10 hb_ rfl rfl rfl), hI⟩
    refine steps_cons ?_ ?_
    · rintro b a w' ⟨ha, hI⟩ hb_ hon hoff
      refine ⟨_, rfl, fun K hK => ?_⟩
      have e38 : a.tmps[38]? = some (.bool false) := by rw [ha]; exact putSel_on (e := (10, 38, .bool false)) 10 rfl rfl (hon 10 (by kernel_rfl)) (by rw [hsz]; rfl)
      replace ha := Aside0.mk ha
      refine value_ (w1 := w') (v := .bool false) (by rfl) rfl ?_ ?_
      · go_simp; try rfl
        all_goals (try (simp only [IntKind.wrap_i64]; omega))
      exact hK.out _ _ ⟨(by rw [ha.out]; exact putSel_upk 11 hb_ rfl rfl rfl), hI⟩
    refine steps_cons ?_ ?_
    · rintro b a w' ⟨ha, hI⟩ hb_ hon hoff
      refine ⟨_, rfl, fun K hK => ?_⟩
      have e6 : a.tmps[6]? = some (.pointer (some ⟨b3, o3, none⟩)) := by rw [ha]; exact (putSel_off rfl).trans s6
      have e39 : a.tmps[39]? = some (.bool false) := by rw [ha]; exact putSel_on (e := (11, 39, .bool false)) 11 rfl rfl (hon 11 (by kernel_rfl)) (by rw [hsz]; rfl)
      replace ha := Aside0.mk ha
      refine value_ (w1 := w') (v := .pointer (some ⟨b3, o3, none⟩)) (wanted_on rfl rfl rfl e39) rfl ?_ ?_
      · go_simp; try rfl
        all_goals (try (simp only [IntKind.wrap_i64]; omega))
      exact hK.out _ _ ⟨(by rw [ha.out]; exact putSel_upk 12 hb_ rfl rfl rfl), hI⟩
    refine steps_cons ?_ ?_
    · rintro b a w' ⟨ha, hI⟩ hb_ hon hoff
      refine ⟨_, rfl, fun K hK => ?_⟩
      have e40 : a.tmps[40]? = some (.pointer (some ⟨b3, o3, none⟩)) := by rw [ha]; exact putSel_on (e := (12, 40, .pointer (some ⟨b3, o3, none⟩))) 12 rfl rfl (hon 12 (by kernel_rfl)) (by rw [hsz]; rfl)
      have e39 : a.tmps[39]? = some (.bool false) := by rw [ha]; exact putSel_on (e := (11, 39, .bool false)) 11 rfl rfl (hon 11 (by kernel_rfl)) (by rw [hsz]; rfl)
      replace ha := Aside0.mk ha
      refine value_ (w1 := w') (v := .bool false) (wanted_on rfl rfl rfl e39) rfl ?_ ?_
      · go_simp; try rfl
        all_goals (try (simp only [IntKind.wrap_i64]; omega))
      exact hK.out _ _ ⟨(by rw [ha.out]; exact putSel_upk 13 hb_ rfl rfl rfl), hI⟩
    refine steps_cons ?_ ?_
    · rintro b a w' ⟨ha, hI⟩ hb_ hon hoff
      refine ⟨_, rfl, fun K hK => ?_⟩
      have e7 : a.tmps[7]? = some (.pointer none) := by rw [ha]; exact (putSel_off rfl).trans s7
      have e39 : a.tmps[39]? = some (.bool false) := by rw [ha]; exact putSel_on (e := (11, 39, .bool false)) 11 rfl rfl (hon 11 (by kernel_rfl)) (by rw [hsz]; rfl)
      replace ha := Aside0.mk ha
      refine value_ (w1 := w') (v := .pointer none) (wanted_on rfl rfl rfl e39) rfl ?_ ?_
      · go_simp; try rfl
        all_goals (try (simp only [IntKind.wrap_i64]; omega))
      exact hK.out _ _ ⟨(by rw [ha.out]; exact putSel_upk 14 hb_ rfl rfl rfl), hI⟩
    refine steps_cons ?_ ?_
    · rintro b a w' ⟨ha, hI⟩ hb_ hon hoff
      refine ⟨_, rfl, fun K hK => ?_⟩
      have e42 : a.tmps[42]? = some (.pointer none) := by rw [ha]; exact putSel_on (e := (14, 42, .pointer none)) 14 rfl rfl (hon 14 (by kernel_rfl)) (by rw [hsz]; rfl)
      have e39 : a.tmps[39]? = some (.bool false) := by rw [ha]; exact putSel_on (e := (11, 39, .bool false)) 11 rfl rfl (hon 11 (by kernel_rfl)) (by rw [hsz]; rfl)
      replace ha := Aside0.mk ha
      refine value_ (w1 := w') (v := .bool true) (wanted_on rfl rfl rfl e39) rfl ?_ ?_
      · go_simp; try rfl
        all_goals (try (simp only [IntKind.wrap_i64]; omega))
      exact hK.out _ _ ⟨(by rw [ha.out]; exact putSel_upk 15 hb_ rfl rfl rfl), hI⟩
    refine steps_cons ?_ ?_
    · rintro b a w' ⟨ha, hI⟩ hb_ hon hoff
      refine ⟨_, rfl, fun K hK => ?_⟩
      have e41 : a.tmps[41]? = some (.bool false) := by rw [ha]; exact putSel_on (e := (13, 41, .bool false)) 13 rfl rfl (hon 13 (by kernel_rfl)) (by rw [hsz]; rfl)
      have e43 : a.tmps[43]? = some (.bool true) := by rw [ha]; exact putSel_on (e := (15, 43, .bool true)) 15 rfl rfl (hon 15 (by kernel_rfl)) (by rw [hsz]; rfl)
      have e39 : a.tmps[39]? = some (.bool false) := by rw [ha]; exact putSel_on (e := (11, 39, .bool false)) 11 rfl rfl (hon 11 (by kernel_rfl)) (by rw [hsz]; rfl)
      replace ha := Aside0.mk ha
      refine value_ (w1 := w') (v := .bool true) (wanted_on rfl rfl rfl e39) rfl ?_ ?_
      · go_simp; try rfl
        all_goals (try (simp only [IntKind.wrap_i64]; omega))
      exact hK.out _ _ ⟨(by rw [ha.out]; exact putSel_upk 16 hb_ rfl rfl rfl), hI⟩
    refine steps_cons ?_ ?_
    · rintro b a w' ⟨ha, hI⟩ hb_ hon hoff
      refine ⟨_, rfl, fun K hK => ?_⟩
      have e39 : a.tmps[39]? = some (.bool false) := by rw [ha]; exact putSel_on (e := (11, 39, .bool false)) 11 rfl rfl (hon 11 (by kernel_rfl)) (by rw [hsz]; rfl)
      have e44 : a.tmps[44]? = some (.bool true) := by rw [ha]; exact putSel_on (e := (16, 44, .bool true)) 16 rfl rfl (hon 16 (by kernel_rfl)) (by rw [hsz]; rfl)
      replace ha := Aside0.mk ha
      refine value_ (w1 := w') (v := .bool true) (by rfl) rfl ?_ ?_
      · go_simp; try rfl
        all_goals (try (simp only [IntKind.wrap_i64]; omega))
      exact hK.out _ _ ⟨(by rw [ha.out]; exact putSel_upk 17 hb_ rfl rfl rfl), hI⟩
    refine steps_cons ?_ ?_
    · rintro b a w' ⟨ha, hI⟩ hb_ hon hoff
      refine ⟨_, rfl, fun K hK => ?_⟩
      have e45 : a.tmps[45]? = some (.bool true) := by rw [ha]; exact putSel_on (e := (17, 45, .bool true)) 17 rfl rfl (hon 17 (by kernel_rfl)) (by rw [hsz]; rfl)
      replace ha := Aside0.mk ha
      refine value_ (w1 := w') (v := .bool true) (by rfl) rfl ?_ ?_
      · go_simp; try rfl
        all_goals (try (simp only [IntKind.wrap_i64]; omega))
      exact hK.out _ _ ⟨(by rw [ha.out]; exact putSel_upk 18 hb_ rfl rfl rfl), hI⟩
    refine steps_cons ?_ ?_
    · rintro b a w' ⟨ha, hI⟩ hb_ hon hoff
      refine ⟨_, rfl, fun K hK => ?_⟩
      have e46 : a.tmps[46]? = some (.bool true) := by rw [ha]; exact putSel_on (e := (18, 46, .bool true)) 18 rfl rfl (hon 18 (by kernel_rfl)) (by rw [hsz]; rfl)
      exact off_ (wanted_off rfl rfl rfl e46) (hK.out _ _ ⟨(by rw [ha]; exact putSel_upk 19 hb_ rfl rfl rfl), hI⟩)
    refine steps_cons ?_ ?_
    · rintro b a w' ⟨ha, hI⟩ hb_ hon hoff
      refine ⟨_, rfl, fun K hK => ?_⟩
      have e46 : a.tmps[46]? = some (.bool true) := by rw [ha]; exact putSel_on (e := (18, 46, .bool true)) 18 rfl rfl (hon 18 (by kernel_rfl)) (by rw [hsz]; rfl)
      exact off_ (wanted_off rfl rfl rfl e46) (hK.out _ _ ⟨(by rw [ha]; exact putSel_upk 20 hb_ rfl rfl rfl), hI⟩)
    refine steps_cons ?_ ?_
    · rintro b a w' ⟨ha, hI⟩ hb_ hon hoff
      refine ⟨_, rfl, fun K hK => ?_⟩
      have e46 : a.tmps[46]? = some (.bool true) := by rw [ha]; exact putSel_on (e := (18, 46, .bool true)) 18 rfl rfl (hon 18 (by kernel_rfl)) (by rw [hsz]; rfl)
      exact off_ (wanted_off rfl rfl rfl e46) (hK.out _ _ ⟨(by rw [ha]; exact putSel_upk 21 hb_ rfl rfl rfl), hI⟩)
    refine steps_cons ?_ ?_
    · rintro b a w' ⟨ha, hI⟩ hb_ hon hoff
      refine ⟨_, rfl, fun K hK => ?_⟩
      have e49 : a.tmps[49]? = some (undef) := by rw [ha]; exact putSel_on (e := (21, 49, undef)) 21 rfl rfl (hon 21 (by kernel_rfl)) (by rw [hsz]; rfl)
      exact off_ (wanted_und rfl rfl rfl e49) (hK.out _ _ ⟨(by rw [ha]; exact putSel_upk 22 hb_ rfl rfl rfl), hI⟩)
    refine steps_cons ?_ ?_
    · rintro b a w' ⟨ha, hI⟩ hb_ hon hoff
      refine ⟨_, rfl, fun K hK => ?_⟩
      have e49 : a.tmps[49]? = some (undef) := by rw [ha]; exact putSel_on (e := (21, 49, undef)) 21 rfl rfl (hon 21 (by kernel_rfl)) (by rw [hsz]; rfl)
      exact off_ (wanted_und rfl rfl rfl e49) (hK.out _ _ ⟨(by rw [ha]; exact putSel_upk 23 hb_ rfl rfl rfl), hI⟩)
    refine steps_cons ?_ ?_
    · rintro b a w' ⟨ha, hI⟩ hb_ hon hoff
      refine ⟨_, rfl, fun K hK => ?_⟩
      have e49 : a.tmps[49]? = some (undef) := by rw [ha]; exact putSel_on (e := (21, 49, undef)) 21 rfl rfl (hon 21 (by kernel_rfl)) (by rw [hsz]; rfl)
      exact off_ (wanted_und rfl rfl rfl e49) (hK.out _ _ ⟨(by rw [ha]; exact putSel_upk 24 hb_ rfl rfl rfl), hI⟩)
    refine steps_cons ?_ ?_
    · rintro b a w' ⟨ha, hI⟩ hb_ hon hoff
      refine ⟨_, rfl, fun K hK => ?_⟩
      have e49 : a.tmps[49]? = some (undef) := by rw [ha]; exact putSel_on (e := (21, 49, undef)) 21 rfl rfl (hon 21 (by kernel_rfl)) (by rw [hsz]; rfl)
      exact off_ (wanted_und rfl rfl rfl e49) (hK.out _ _ ⟨(by rw [ha]; exact putSel_upk 25 hb_ rfl rfl rfl), hI⟩)
    refine steps_cons ?_ ?_
    · rintro b a w' ⟨ha, hI⟩ hb_ hon hoff
      refine ⟨_, rfl, fun K hK => ?_⟩
      have e49 : a.tmps[49]? = some (undef) := by rw [ha]; exact putSel_on (e := (21, 49, undef)) 21 rfl rfl (hon 21 (by kernel_rfl)) (by rw [hsz]; rfl)
      exact off_ (wanted_und rfl rfl rfl e49) (hK.out _ _ ⟨(by rw [ha]; exact putSel_upk 26 hb_ rfl rfl rfl), hI⟩)
    refine steps_cons ?_ ?_
    · rintro b a w' ⟨ha, hI⟩ hb_ hon hoff
      refine ⟨_, rfl, fun K hK => ?_⟩
      have e49 : a.tmps[49]? = some (undef) := by rw [ha]; exact putSel_on (e := (21, 49, undef)) 21 rfl rfl (hon 21 (by kernel_rfl)) (by rw [hsz]; rfl)
      exact off_ (wanted_und rfl rfl rfl e49) (hK.out _ _ ⟨(by rw [ha]; exact putSel_upk 27 hb_ rfl rfl rfl), hI⟩)
    refine steps_cons ?_ ?_
    · rintro b a w' ⟨ha, hI⟩ hb_ hon hoff
      refine ⟨_, rfl, fun K hK => ?_⟩
      have e49 : a.tmps[49]? = some (undef) := by rw [ha]; exact putSel_on (e := (21, 49, undef)) 21 rfl rfl (hon 21 (by kernel_rfl)) (by rw [hsz]; rfl)
      exact off_ (wanted_und rfl rfl rfl e49) (hK.out _ _ ⟨(by rw [ha]; exact putSel_upk 28 hb_ rfl rfl rfl), hI⟩)
    refine steps_cons ?_ ?_
    · rintro b a w' ⟨ha, hI⟩ hb_ hon hoff
      refine ⟨_, rfl, fun K hK => ?_⟩
      have e49 : a.tmps[49]? = some (undef) := by rw [ha]; exact putSel_on (e := (21, 49, undef)) 21 rfl rfl (hon 21 (by kernel_rfl)) (by rw [hsz]; rfl)
      exact off_ (wanted_und rfl rfl rfl e49) (hK.out _ _ ⟨(by rw [ha]; exact putSel_upk 29 hb_ rfl rfl rfl), hI⟩)
    refine steps_cons ?_ ?_
    · rintro b a w' ⟨ha, hI⟩ hb_ hon hoff
      refine ⟨_, rfl, fun K hK => ?_⟩
      have e46 : a.tmps[46]? = some (.bool true) := by rw [ha]; exact putSel_on (e := (18, 46, .bool true)) 18 rfl rfl (hon 18 (by kernel_rfl)) (by rw [hsz]; rfl)
      exact off_ (wanted_off rfl rfl rfl e46) (hK.out _ _ ⟨(by rw [ha]; exact putSel_upk 30 hb_ rfl rfl rfl), hI⟩)
    refine steps_cons ?_ ?_
    · rintro b a w' ⟨ha, hI⟩ hb_ hon hoff
      refine ⟨_, rfl, fun K hK => ?_⟩
      have e46 : a.tmps[46]? = some (.bool true) := by rw [ha]; exact putSel_on (e := (18, 46, .bool true)) 18 rfl rfl (hon 18 (by kernel_rfl)) (by rw [hsz]; rfl)
      have e58 : a.tmps[58]? = some (undef) := by rw [ha]; exact putSel_on (e := (30, 58, undef)) 30 rfl rfl (hon 30 (by kernel_rfl)) (by rw [hsz]; rfl)
      replace ha := Aside0.mk ha
      refine value_ (w1 := w') (v := .bool true) (by rfl) rfl ?_ ?_
      · go_simp; try rfl
        all_goals (try (simp only [IntKind.wrap_i64]; omega))
      exact hK.out _ _ ⟨(by rw [ha.out]; exact putSel_upk 31 hb_ rfl rfl rfl), hI⟩
    exact steps_nil
  rintro b a w1 hall ⟨ha, hI1⟩
  exact hend a w1 hI1 (by rw [ha]; simp only [putSel, if_true, hall 0 (by kernel_rfl), hall 1 (by kernel_rfl), hall 2 (by kernel_rfl), hall 3 (by kernel_rfl), hall 4 (by kernel_rfl), hall 5 (by kernel_rfl), hall 6 (by kernel_rfl), hall 7 (by kernel_rfl), hall 8 (by kernel_rfl), hall 9 (by kernel_rfl), hall 10 (by kernel_rfl), hall 11 (by kernel_rfl), hall 12 (by kernel_rfl), hall 13 (by kernel_rfl), hall 14 (by kernel_rfl), hall 15 (by kernel_rfl), hall 16 (by kernel_rfl), hall 17 (by kernel_rfl), hall 18 (by kernel_rfl), hall 19 (by kernel_rfl), hall 20 (by kernel_rfl), hall 21 (by kernel_rfl), hall 22 (by kernel_rfl), hall 23 (by kernel_rfl), hall 24 (by kernel_rfl), hall 25 (by kernel_rfl), hall 26 (by kernel_rfl), hall 27 (by kernel_rfl), hall 28 (by kernel_rfl), hall 29 (by kernel_rfl), hall 30 (by kernel_rfl), hall 31 (by kernel_rfl)]) (by rw [ha]; exact (putSel_size b _ a0).2) (by rw [ha]; exact putSel_on (e := (31, 59, .bool true)) 31 rfl rfl (hall 31 (by kernel_rfl)) (by rw [hsz]; rfl))
end Go.Proofs.YtipmphgkdomebaaDoor
namespace Go.Proofs.YtipmphgkdomebaaDoor
open Go.RowKit Go.Proofs.YtipmphgkdomebaaDoorW.PrintWords Go.Proofs.YtipmphgkdomebaaDoorW.PrintLast
set_option linter.unusedVariables false
set_option linter.unusedSimpArgs false
def as47c.T : Bool × List (List Nat × List Nat) := (true, [([], []), ([], []), ([0, 1], [0, 1]), ([2], [2]), ([3], [3]), ([], []), ([], []), ([5, 6], [5, 6]), ([7], [7]), ([8], [8]), ([4, 9], [4, 9]), ([10], [10]), ([11], [11]), ([12, 11], [11, 12]), ([11], [11]), ([14, 11], [11, 14]), ([13, 15, 11], [11, 13, 15]), ([11, 16], [11, 16]), ([17, 11], [17]), ([18], [18]), ([19, 18], [18, 19]), ([20, 18, 18], [18, 20]), ([21], [21]), ([22, 21], [21, 22]), ([23, 21], [21, 23]), ([21], [21]), ([25, 21], [21, 25]), ([26, 21], [21, 26]), ([24, 27, 21, 21], [21, 24, 27]), ([28, 21], [21, 28]), ([21, 29, 18], [18, 21, 29]), ([18, 30], [18, 30])])
def as47c.B : List Nat := [0, 0, 3, 7, 15, 0, 0, 96, 224, 480, 1023, 2047, 4095, 8191, 4095, 20479, 65535, 131071, 262143, 524287, 1048575, 2097151, 4194303, 8388607, 16777215, 4194303, 37748735, 104857599, 268435455, 536870911, 1073741823, 2147483647]
theorem as47c.tab : rtab .any (opsOf Tryd.f47 8) = as47c.T := by kernel_rfl
theorem as47c.bits : waitsOk as47c.T.2 as47c.B = true := by kernel_rfl
set_option maxRecDepth 100000 in
set_option maxHeartbeats 4000000 in
theorem as47c (w0 : World) (t1 t2 : ByteArray) (hq : (t1.toList == t2.toList) = true) (n ca cb i b1 o1 b2 o2 : Nat) (q1 : (0 : Int) ≤ (i : Int)) (q2 : (i : Int) < (n : Int)) (d10 : w0.cell? ⟨b1, o1 + i * 2, none⟩ = some (.string t1)) (d20 : w0.cell? ⟨b2, o2 + i * 2, none⟩ = some (.string t2)) (a0 : Act) (s0 : a0.tmps[0]? = some (.slice (some ⟨b1, o1, none⟩) n ca)) (s1 : a0.tmps[1]? = some (.slice (some ⟨b2, o2, none⟩) n cb)) (s5 : a0.tmps[5]? = some (.int .i64 (i : Int))) (s6 : a0.tmps[6]? = some (.pointer none)) (s7 : a0.tmps[7]? = some (.pointer none)) (hsz : a0.tmps.size = Tryd.f47.ntmps) (W : World) (hI : Below w0.heap.size w0 W.drew) (Q : Exit → Act → World → Prop) (hend : ∀ (a9 : Act) w', Below w0.heap.size w0 w' → a9 = putSel a0 (fun _ => true) [(0, 28, .slice (some ⟨b1, o1, none⟩) n ca), (1, 29, .int .i64 (i : Int)), (2, 30, .pointer (some ⟨b1, o1 + i * 2, none⟩)), (3, 31, .pointer (some ⟨b1, o1 + i * 2, none⟩)), (4, 32, .string t1), (5, 33, .slice (some ⟨b2, o2, none⟩) n cb), (6, 34, .int .i64 (i : Int)), (7, 35, .pointer (some ⟨b2, o2 + i * 2, none⟩)), (8, 36, .pointer (some ⟨b2, o2 + i * 2, none⟩)), (9, 37, .string t2), (10, 38, .bool false), (11, 39, .bool false), (12, 40, .pointer none), (13, 41, .bool true), (14, 42, .pointer none), (15, 43, .bool true), (16, 44, .bool false), (17, 45, .bool false), (18, 46, .bool false), (19, 47, .pointer none), (20, 48, .bool false), (21, 49, .bool false), (22, 50, undef), (23, 51, undef), (24, 52, undef), (25, 53, undef), (26, 54, undef), (27, 55, undef), (28, 56, undef), (29, 57, undef), (30, 58, .bool false), (31, 59, .bool false)] → a9.defers = a0.defers → a9.tmps[59]? = some (.bool false) → Q .normal a9 w') :
    (Code.region 8 #[{ dst := some 28, op := Op.move (Operand.tmp 0), type := 26, pos := "law.go:246", after := #[], guard := none }, { dst := some 29, op := Op.move (Operand.tmp 5), type := 3, pos := "law.go:246", after := #[], guard := none }, { dst := some 30, op := Op.indexAddr 26 (Operand.tmp 28) (Operand.tmp 29), type := 0, pos := "law.go:246", after := #[{ on := 0, ground := Ground.data }, { on := 1, ground := Ground.data }], guard := none }, { dst := some 31, op := Op.fieldAddr 42 (Operand.tmp 30) 0, type := 0, pos := "law.go:246", after := #[{ on := 2, ground := Ground.data }], guard := none }, { dst := some 32, op := Op.load 9 (Operand.tmp 31), type := 9, pos := "law.go:246", after := #[{ on := 3, ground := Ground.data }], guard := none }, { dst := some 33, op := Op.move (Operand.tmp 1), type := 26, pos := "law.go:246", after := #[], guard := none }, { dst := some 34, op := Op.move (Operand.tmp 5), type := 3, pos := "law.go:246", after := #[], guard := none }, { dst := some 35, op := Op.indexAddr 26 (Operand.tmp 33) (Operand.tmp 34), type := 0, pos := "law.go:246", after := #[{ on := 5, ground := Ground.data }, { on := 6, ground := Ground.data }], guard := none }, { dst := some 36, op := Op.fieldAddr 42 (Operand.tmp 35) 0, type := 0, pos := "law.go:246", after := #[{ on := 7, ground := Ground.data }], guard := none }, { dst := some 37, op := Op.load 9 (Operand.tmp 36), type := 9, pos := "law.go:246", after := #[{ on := 8, ground := Ground.data }], guard := none }, { dst := some 38, op := Op.binOp BinOp.neq 9 (Operand.tmp 32) (Operand.tmp 37) 9, type := 4, pos := "law.go:246", after := #[{ on := 4, ground := Ground.data }, { on := 9, ground := Ground.data }], guard := none }, { dst := some 39, op := Op.move (Operand.tmp 38), type := 4, pos := "law.go:246", after := #[{ on := 10, ground := Ground.data }], guard := none }, { dst := some 40, op := Op.move (Operand.tmp 6), type := 37, pos := "law.go:246", after := #[{ on := 11, ground := Ground.guard }], guard := some (11, false) }, { dst := some 41, op := Op.binOp BinOp.eql 37 (Operand.tmp 40) (Operand.const (Value.pointer none)) 37, type := 4, pos := "law.go:246", after := #[{ on := 12, ground := Ground.data }, { on := 11, ground := Ground.guard }], guard := some (11, false) }, { dst := some 42, op := Op.move (Operand.tmp 7), type := 37, pos := "law.go:246", after := #[{ on := 11, ground := Ground.guard }], guard := some (11, false) }, { dst := some 43, op := Op.binOp BinOp.eql 37 (Operand.tmp 42) (Operand.const (Value.pointer none)) 37, type := 4, pos := "law.go:246", after := #[{ on := 14, ground := Ground.data }, { on := 11, ground := Ground.guard }], guard := some (11, false) }, { dst := some 44, op := Op.binOp BinOp.neq 4 (Operand.tmp 41) (Operand.tmp 43) 4, type := 4, pos := "law.go:246", after := #[{ on := 13, ground := Ground.data }, { on := 15, ground := Ground.data }, { on := 11, ground := Ground.guard }], guard := some (11, false) }, { dst := some 45, op := Op.pick (Operand.tmp 39) (Operand.const (Value.bool true)) (Operand.tmp 44), type := 4, pos := "law.go:246", after := #[{ on := 11, ground := Ground.data }, { on := 16, ground := Ground.data }], guard := none }, { dst := some 46, op := Op.move (Operand.tmp 45), type := 4, pos := "law.go:246", after := #[{ on := 17, ground := Ground.data }, { on := 11, ground := Ground.chain }], guard := none }, { dst := some 47, op := Op.move (Operand.tmp 6), type := 37, pos := "law.go:246", after := #[{ on := 18, ground := Ground.guard }], guard := some (18, false) }, { dst := some 48, op := Op.binOp BinOp.neq 37 (Operand.tmp 47) (Operand.const (Value.pointer none)) 37, type := 4, pos := "law.go:246", after := #[{ on := 19, ground := Ground.data }, { on := 18, ground := Ground.guard }], guard := some (18, false) }, { dst := some 49, op := Op.move (Operand.tmp 48), type := 4, pos := "law.go:246", after := #[{ on := 20, ground := Ground.data }, { on := 18, ground := Ground.chain }, { on := 18, ground := Ground.guard }], guard := some (18, false) }, { dst := some 50, op := Op.move (Operand.tmp 6), type := 37, pos := "law.go:246", after := #[{ on := 21, ground := Ground.guard }], guard := some (21, true) }, { dst := some 51, op := Op.nilCheck (Operand.tmp 50), type := 0, pos := "law.go:246", after := #[{ on := 22, ground := Ground.data }, { on := 21, ground := Ground.guard }], guard := some (21, true) }, { dst := some 52, op := Op.load 40 (Operand.tmp 51), type := 40, pos := "law.go:246", after := #[{ on := 23, ground := Ground.data }, { on := 21, ground := Ground.guard }], guard := some (21, true) }, { dst := some 53, op := Op.move (Operand.tmp 7), type := 37, pos := "law.go:246", after := #[{ on := 21, ground := Ground.guard }], guard := some (21, true) }, { dst := some 54, op := Op.nilCheck (Operand.tmp 53), type := 0, pos := "law.go:246", after := #[{ on := 25, ground := Ground.data }, { on := 21, ground := Ground.guard }], guard := some (21, true) }, { dst := some 55, op := Op.load 40 (Operand.tmp 54), type := 40, pos := "law.go:246", after := #[{ on := 26, ground := Ground.data }, { on := 21, ground := Ground.guard }], guard := some (21, true) }, { dst := some 56, op := Op.call { callee := Callee.value (Operand.func 82), args := #[Operand.tmp 52, Operand.tmp 55], argTypes := #[40, 40] }, type := 4, pos := "law.go:246", after := #[{ on := 24, ground := Ground.data }, { on := 27, ground := Ground.data }, { on := 21, ground := Ground.chain }, { on := 21, ground := Ground.guard }], guard := some (21, true) }, { dst := some 57, op := Op.unOp UnOp.not 4 (Operand.tmp 56), type := 4, pos := "law.go:246", after := #[{ on := 28, ground := Ground.data }, { on := 21, ground := Ground.guard }], guard := some (21, true) }, { dst := some 58, op := Op.pick (Operand.tmp 49) (Operand.tmp 57) (Operand.const (Value.bool false)), type := 4, pos := "law.go:246", after := #[{ on := 21, ground := Ground.data }, { on := 29, ground := Ground.data }, { on := 18, ground := Ground.guard }], guard := some (18, false) }, { dst := some 59, op := Op.pick (Operand.tmp 46) (Operand.const (Value.bool true)) (Operand.tmp 58), type := 4, pos := "law.go:246", after := #[{ on := 18, ground := Ground.data }, { on := 30, ground := Ground.data }], guard := none }] true).wp Tryd.prog Q a0 W := by
  refine start_ (n := 32) (S := fun w' => True) (ds := []) #[false, false, false, false, false, false, false, false, false, false, false, false, false, false, false, false, false, false, false, false, false, false, false, false, false, false, false, false, false, false, false, false] (by kernel_rfl) rfl rfl trivial (fun hHeld => ?_)
  refine with_tabW as47c.tab as47c.bits (fun HT_ HW_ => ?_)
  refine inv_at [0, 1, 2, 3, 4, 5, 6, 7, 8, 9, 10, 11, 12, 13, 14, 15, 16, 17, 18, 19, 20, 21, 22, 23, 24, 25, 26, 27, 28, 29, 30, 31] (fun a0_ b a w' => a = putSel a0_ b [(0, 28, .slice (some ⟨b1, o1, none⟩) n ca), (1, 29, .int .i64 (i : Int)), (2, 30, .pointer (some ⟨b1, o1 + i * 2, none⟩)), (3, 31, .pointer (some ⟨b1, o1 + i * 2, none⟩)), (4, 32, .string t1), (5, 33, .slice (some ⟨b2, o2, none⟩) n cb), (6, 34, .int .i64 (i : Int)), (7, 35, .pointer (some ⟨b2, o2 + i * 2, none⟩)), (8, 36, .pointer (some ⟨b2, o2 + i * 2, none⟩)), (9, 37, .string t2), (10, 38, .bool false), (11, 39, .bool false), (12, 40, .pointer none), (13, 41, .bool true), (14, 42, .pointer none), (15, 43, .bool true), (16, 44, .bool false), (17, 45, .bool false), (18, 46, .bool false), (19, 47, .pointer none), (20, 48, .bool false), (21, 49, .bool false), (22, 50, undef), (23, 51, undef), (24, 52, undef), (25, 53, undef), (26, 54, undef), (27, 55, undef), (28, 56, undef), (29, 57, undef), (30, 58, .bool false), (31, 59, .bool false)] ∧ (Below w0.heap.size w0 w')) HT_.out HW_.out (by kernel_rfl) (by kernel_rfl) ?_ ?_ ?_
  · exact ⟨(by simp only [putSel, Bool.false_eq_true, if_false]), hI⟩
  · clear hI hend hHeld
    refine steps_cons ?_ ?_
    · rintro b a w' ⟨ha, hI⟩ hb_ hon hoff
      refine ⟨_, rfl, fun K hK => ?_⟩
      have e0 : a.tmps[0]? = some (.slice (some ⟨b1, o1, none⟩) n ca) := by rw [ha]; exact (putSel_off rfl).trans s0
      replace ha := Aside0.mk ha
      refine value_ (w1 := w') (v := .slice (some ⟨b1, o1, none⟩) n ca) (by rfl) rfl ?_ ?_
      · go_simp; try rfl
        all_goals (try (simp only [IntKind.wrap_i64]; omega))
      exact hK.out _ _ ⟨(by rw [ha.out]; exact putSel_upk 0 hb_ rfl rfl rfl), hI⟩
    refine steps_cons ?_ ?_
    · rintro b a w' ⟨ha, hI⟩ hb_ hon hoff
      refine ⟨_, rfl, fun K hK => ?_⟩
      have e5 : a.tmps[5]? = some (.int .i64 (i : Int)) := by rw [ha]; exact (putSel_off rfl).trans s5
      replace ha := Aside0.mk ha
      refine value_ (w1 := w') (v := .int .i64 (i : Int)) (by rfl) rfl ?_ ?_
      · go_simp; try rfl
        all_goals (try (simp only [IntKind.wrap_i64]; omega))
      exact hK.out _ _ ⟨(by rw [ha.out]; exact putSel_upk 1 hb_ rfl rfl rfl), hI⟩
    refine steps_cons ?_ ?_
    · rintro b a w' ⟨ha, hI⟩ hb_ hon hoff
      refine ⟨_, rfl, fun K hK => ?_⟩
      have e28 : a.tmps[28]? = some (.slice (some ⟨b1, o1, none⟩) n ca) := by rw [ha]; exact putSel_on (e := (0, 28, .slice (some ⟨b1, o1, none⟩) n ca)) 0 rfl rfl (hon 0 (by kernel_rfl)) (by rw [hsz]; rfl)
      have e29 : a.tmps[29]? = some (.int .i64 (i : Int)) := by rw [ha]; exact putSel_on (e := (1, 29, .int .i64 (i : Int))) 1 rfl rfl (hon 1 (by kernel_rfl)) (by rw [hsz]; rfl)
      replace ha := Aside0.mk ha
      refine value_ (w1 := w') (v := .pointer (some ⟨b1, o1 + i * 2, none⟩)) (by rfl) rfl ?_ ?_
      · go_simp; try rfl
        all_goals (try (simp only [IntKind.wrap_i64]; omega))
      exact hK.out _ _ ⟨(by rw [ha.out]; exact putSel_upk 2 hb_ rfl rfl rfl), hI⟩
    refine steps_cons ?_ ?_
    · rintro b a w' ⟨ha, hI⟩ hb_ hon hoff
      refine ⟨_, rfl, fun K hK => ?_⟩
      have e30 : a.tmps[30]? = some (.pointer (some ⟨b1, o1 + i * 2, none⟩)) := by rw [ha]; exact putSel_on (e := (2, 30, .pointer (some ⟨b1, o1 + i * 2, none⟩))) 2 rfl rfl (hon 2 (by kernel_rfl)) (by rw [hsz]; rfl)
      replace ha := Aside0.mk ha
      refine value_ (w1 := w') (v := .pointer (some ⟨b1, o1 + i * 2, none⟩)) (by rfl) rfl ?_ ?_
      · go_simp; try rfl
        all_goals (try (simp only [IntKind.wrap_i64]; omega))
      exact hK.out _ _ ⟨(by rw [ha.out]; exact putSel_upk 3 hb_ rfl rfl rfl), hI⟩
    refine steps_cons ?_ ?_
    · rintro b a w' ⟨ha, hI⟩ hb_ hon hoff
      refine ⟨_, rfl, fun K hK => ?_⟩
      have e31 : a.tmps[31]? = some (.pointer (some ⟨b1, o1 + i * 2, none⟩)) := by rw [ha]; exact putSel_on (e := (3, 31, .pointer (some ⟨b1, o1 + i * 2, none⟩))) 3 rfl rfl (hon 3 (by kernel_rfl)) (by rw [hsz]; rfl)
      replace ha := Aside0.mk ha
      have m0 := Kept.of hI _ _ _ d10
      refine value_ (w1 := w') (v := .string t1) (by rfl) rfl ?_ ?_
      · go_simp; try rfl
        all_goals (try (simp only [IntKind.wrap_i64]; omega))
      exact hK.out _ _ ⟨(by rw [ha.out]; exact putSel_upk 4 hb_ rfl rfl rfl), hI⟩
    refine steps_cons ?_ ?_
    · rintro b a w' ⟨ha, hI⟩ hb_ hon hoff
      refine ⟨_, rfl, fun K hK => ?_⟩
      have e1 : a.tmps[1]? = some (.slice (some ⟨b2, o2, none⟩) n cb) := by rw [ha]; exact (putSel_off rfl).trans s1
      replace ha := Aside0.mk ha
      refine value_ (w1 := w') (v := .slice (some ⟨b2, o2, none⟩) n cb) (by rfl) rfl ?_ ?_
      · go_simp; try rfl
        all_goals (try (simp only [IntKind.wrap_i64]; omega))
      exact hK.out _ _ ⟨(by rw [ha.out]; exact putSel_upk 5 hb_ rfl rfl rfl), hI⟩
    refine steps_cons ?_ ?_
    · rintro b a w' ⟨ha, hI⟩ hb_ hon hoff
      refine ⟨_, rfl, fun K hK => ?_⟩
      have e5 : a.tmps[5]? = some (.int .i64 (i : Int)) := by rw [ha]; exact (putSel_off rfl).trans s5
      replace ha := Aside0.mk ha
      refine value_ (w1 := w') (v := .int .i64 (i : Int)) (by rfl) rfl ?_ ?_
      · go_simp; try rfl
        all_goals (try (simp only [IntKind.wrap_i64]; omega))
      exact hK.out _ _ ⟨(by rw [ha.out]; exact putSel_upk 6 hb_ rfl rfl rfl), hI⟩
    refine steps_cons ?_ ?_
    · rintro b a w' ⟨ha, hI⟩ hb_ hon hoff
      refine ⟨_, rfl, fun K hK => ?_⟩
      have e33 : a.tmps[33]? = some (.slice (some ⟨b2, o2, none⟩) n cb) := by rw [ha]; exact putSel_on (e := (5, 33, .slice (some ⟨b2, o2, none⟩) n cb)) 5 rfl rfl (hon 5 (by kernel_rfl)) (by rw [hsz]; rfl)
      have e34 : a.tmps[34]? = some (.int .i64 (i : Int)) := by rw [ha]; exact putSel_on (e := (6, 34, .int .i64 (i : Int))) 6 rfl rfl (hon 6 (by kernel_rfl)) (by rw [hsz]; rfl)
      replace ha := Aside0.mk ha
      refine value_ (w1 := w') (v := .pointer (some ⟨b2, o2 + i * 2, none⟩)) (by rfl) rfl ?_ ?_
      · go_simp; try rfl
        all_goals (try (simp only [IntKind.wrap_i64]; omega))
      exact hK.out _ _ ⟨(by rw [ha.out]; exact putSel_upk 7 hb_ rfl rfl rfl), hI⟩
    refine steps_cons ?_ ?_
    · rintro b a w' ⟨ha, hI⟩ hb_ hon hoff
      refine ⟨_, rfl, fun K hK => ?_⟩
      have e35 : a.tmps[35]? = some (.pointer (some ⟨b2, o2 + i * 2, none⟩)) := by rw [ha]; exact putSel_on (e := (7, 35, .pointer (some ⟨b2, o2 + i * 2, none⟩))) 7 rfl rfl (hon 7 (by kernel_rfl)) (by rw [hsz]; rfl)
      replace ha := Aside0.mk ha
      refine value_ (w1 := w') (v := .pointer (some ⟨b2, o2 + i * 2, none⟩)) (by rfl) rfl ?_ ?_
      · go_simp; try rfl
        all_goals (try (simp only [IntKind.wrap_i64]; omega))
      exact hK.out _ _ ⟨(by rw [ha.out]; exact putSel_upk 8 hb_ rfl rfl rfl), hI⟩
    refine steps_cons ?_ ?_
    · rintro b a w' ⟨ha, hI⟩ hb_ hon hoff
      refine ⟨_, rfl, fun K hK => ?_⟩
      have e36 : a.tmps[36]? = some (.pointer (some ⟨b2, o2 + i * 2, none⟩)) := by rw [ha]; exact putSel_on (e := (8, 36, .pointer (some ⟨b2, o2 + i * 2, none⟩))) 8 rfl rfl (hon 8 (by kernel_rfl)) (by rw [hsz]; rfl)
      replace ha := Aside0.mk ha
      have m0 := Kept.of hI _ _ _ d20
      refine value_ (w1 := w') (v := .string t2) (by rfl) rfl ?_ ?_
      · go_simp; try rfl
        all_goals (try (simp only [IntKind.wrap_i64]; omega))
      exact hK.out _ _ ⟨(by rw [ha.out]; exact putSel_upk 9 hb_ rfl rfl rfl), hI⟩
    refine steps_cons ?_ ?_
    · rintro b a w' ⟨ha, hI⟩ hb_ hon hoff
      refine ⟨_, rfl, fun K hK => ?_⟩
      have e32 : a.tmps[32]? = some (.string t1) := by rw [ha]; exact putSel_on (e := (4, 32, .string t1)) 4 rfl rfl (hon 4 (by kernel_rfl)) (by rw [hsz]; rfl)
      have e37 : a.tmps[37]? = some (.string t2) := by rw [ha]; exact putSel_on (e := (9, 37, .string t2)) 9 rfl rfl (hon 9 (by kernel_rfl)) (by rw [hsz]; rfl)
      replace ha := Aside0.mk ha
      refine value_ (w1 := w') (v := .bool false) (by rfl) rfl ?_ ?_
      · go_simp; try rfl
        all_goals (try (simp only [IntKind.wrap_i64]; omega))
      exact hK.out _ _ ⟨(by rw [ha.out]; exact putSel_upk 10 hb_ rfl rfl rfl), hI⟩
    refine steps_cons ?_ ?_
    · rintro b a w' ⟨ha, hI⟩ hb_ hon hoff
      refine ⟨_, rfl, fun K hK => ?_⟩
      have e38 : a.tmps[38]? = some (.bool false) := by rw [ha]; exact putSel_on (e := (10, 38, .bool false)) 10 rfl rfl (hon 10 (by kernel_rfl)) (by rw [hsz]; rfl)
      replace ha := Aside0.mk ha
      refine value_ (w1 := w') (v := .bool false) (by rfl) rfl ?_ ?_
      · go_simp; try rfl
        all_goals (try (simp only [IntKind.wrap_i64]; omega))
      exact hK.out _ _ ⟨(by rw [ha.out]; exact putSel_upk 11 hb_ rfl rfl rfl), hI⟩
    refine steps_cons ?_ ?_
    · rintro b a w' ⟨ha, hI⟩ hb_ hon hoff
      refine ⟨_, rfl, fun K hK => ?_⟩
      have e6 : a.tmps[6]? = some (.pointer none) := by rw [ha]; exact (putSel_off rfl).trans s6
      have e39 : a.tmps[39]? = some (.bool false) := by rw [ha]; exact putSel_on (e := (11, 39, .bool false)) 11 rfl rfl (hon 11 (by kernel_rfl)) (by rw [hsz]; rfl)
      replace ha := Aside0.mk ha
      refine value_ (w1 := w') (v := .pointer none) (wanted_on rfl rfl rfl e39) rfl ?_ ?_
      · go_simp; try rfl
        all_goals (try (simp only [IntKind.wrap_i64]; omega))
      exact hK.out _ _ ⟨(by rw [ha.out]; exact putSel_upk 12 hb_ rfl rfl rfl), hI⟩
    refine steps_cons ?_ ?_
    · rintro b a w' ⟨ha, hI⟩ hb_ hon hoff
      refine ⟨_, rfl, fun K hK => ?_⟩
      have e40 : a.tmps[40]? = some (.pointer none) := by rw [ha]; exact putSel_on (e := (12, 40, .pointer none)) 12 rfl rfl (hon 12 (by kernel_rfl)) (by rw [hsz]; rfl)
      have e39 : a.tmps[39]? = some (.bool false) := by rw [ha]; exact putSel_on (e := (11, 39, .bool false)) 11 rfl rfl (hon 11 (by kernel_rfl)) (by rw [hsz]; rfl)
      replace ha := Aside0.mk ha
      refine value_ (w1 := w') (v := .bool true) (wanted_on rfl rfl rfl e39) rfl ?_ ?_
      · go_simp; try rfl
        all_goals (try (simp only [IntKind.wrap_i64]; omega))
      exact hK.out _ _ ⟨(by rw [ha.out]; exact putSel_upk 13 hb_ rfl rfl rfl), hI⟩
    refine steps_cons ?_ ?_
    · rintro b a w' ⟨ha, hI⟩ hb_ hon hoff
      refine ⟨_, rfl, fun K hK => ?_⟩
      have e7 : a.tmps[7]? = some (.pointer none) := by rw [ha]; exact (putSel_off rfl).trans s7
      have e39 : a.tmps[39]? = some (.bool false) := by rw [ha]; exact putSel_on (e := (11, 39, .bool false)) 11 rfl rfl (hon 11 (by kernel_rfl)) (by rw [hsz]; rfl)
      replace ha := Aside0.mk ha
      refine value_ (w1 := w') (v := .pointer none) (wanted_on rfl rfl rfl e39) rfl ?_ ?_
      · go_simp; try rfl
        all_goals (try (simp only [IntKind.wrap_i64]; omega))
      exact hK.out _ _ ⟨(by rw [ha.out]; exact putSel_upk 14 hb_ rfl rfl rfl), hI⟩
    refine steps_cons ?_ ?_
    · rintro b a w' ⟨ha, hI⟩ hb_ hon hoff
      refine ⟨_, rfl, fun K hK => ?_⟩
      have e42 : a.tmps[42]? = some (.pointer none) := by rw [ha]; exact putSel_on (e := (14, 42, .pointer none)) 14 rfl rfl (hon 14 (by kernel_rfl)) (by rw [hsz]; rfl)
      have e39 : a.tmps[39]? = some (.bool false) := by rw [ha]; exact putSel_on (e := (11, 39, .bool false)) 11 rfl rfl (hon 11 (by kernel_rfl)) (by rw [hsz]; rfl)
      replace ha := Aside0.mk ha
      refine value_ (w1 := w') (v := .bool true) (wanted_on rfl rfl rfl e39) rfl ?_ ?_
      · go_simp; try rfl
        all_goals (try (simp only [IntKind.wrap_i64]; omega))
      exact hK.out _ _ ⟨(by rw [ha.out]; exact putSel_upk 15 hb_ rfl rfl rfl), hI⟩
    refine steps_cons ?_ ?_
    · rintro b a w' ⟨ha, hI⟩ hb_ hon hoff
      refine ⟨_, rfl, fun K hK => ?_⟩
      have e41 : a.tmps[41]? = some (.bool true) := by rw [ha]; exact putSel_on (e := (13, 41, .bool true)) 13 rfl rfl (hon 13 (by kernel_rfl)) (by rw [hsz]; rfl)
      have e43 : a.tmps[43]? = some (.bool true) := by rw [ha]; exact putSel_on (e := (15, 43, .bool true)) 15 rfl rfl (hon 15 (by kernel_rfl)) (by rw [hsz]; rfl)
      have e39 : a.tmps[39]? = some (.bool false) := by rw [ha]; exact putSel_on (e := (11, 39, .bool false)) 11 rfl rfl (hon 11 (by kernel_rfl)) (by rw [hsz]; rfl)
      replace ha := Aside0.mk ha
      refine value_ (w1 := w') (v := .bool false) (wanted_on rfl rfl rfl e39) rfl ?_ ?_
      · go_simp; try rfl
        all_goals (try (simp only [IntKind.wrap_i64]; omega))
      exact hK.out _ _ ⟨(by rw [ha.out]; exact putSel_upk 16 hb_ rfl rfl rfl), hI⟩
    refine steps_cons ?_ ?_
    · rintro b a w' ⟨ha, hI⟩ hb_ hon hoff
      refine ⟨_, rfl, fun K hK => ?_⟩
      have e39 : a.tmps[39]? = some (.bool false) := by rw [ha]; exact putSel_on (e := (11, 39, .bool false)) 11 rfl rfl (hon 11 (by kernel_rfl)) (by rw [hsz]; rfl)
      have e44 : a.tmps[44]? = some (.bool false) := by rw [ha]; exact putSel_on (e := (16, 44, .bool false)) 16 rfl rfl (hon 16 (by kernel_rfl)) (by rw [hsz]; rfl)
      replace ha := Aside0.mk ha
      refine value_ (w1 := w') (v := .bool false) (by rfl) rfl ?_ ?_
      · go_simp; try rfl
        all_goals (try (simp only [IntKind.wrap_i64]; omega))
      exact hK.out _ _ ⟨(by rw [ha.out]; exact putSel_upk 17 hb_ rfl rfl rfl), hI⟩
    refine steps_cons ?_ ?_
    · rintro b a w' ⟨ha, hI⟩ hb_ hon hoff
      refine ⟨_, rfl, fun K hK => ?_⟩
      have e45 : a.tmps[45]? = some (.bool false) := by rw [ha]; exact putSel_on (e := (17, 45, .bool false)) 17 rfl rfl (hon 17 (by kernel_rfl)) (by rw [hsz]; rfl)
      replace ha := Aside0.mk ha
      refine value_ (w1 := w') (v := .bool false) (by rfl) rfl ?_ ?_
      · go_simp; try rfl
        all_goals (try (simp only [IntKind.wrap_i64]; omega))
      exact hK.out _ _ ⟨(by rw [ha.out]; exact putSel_upk 18 hb_ rfl rfl rfl), hI⟩
    refine steps_cons ?_ ?_
    · rintro b a w' ⟨ha, hI⟩ hb_ hon hoff
      refine ⟨_, rfl, fun K hK => ?_⟩
      have e6 : a.tmps[6]? = some (.pointer none) := by rw [ha]; exact (putSel_off rfl).trans s6
      have e46 : a.tmps[46]? = some (.bool false) := by rw [ha]; exact putSel_on (e := (18, 46, .bool false)) 18 rfl rfl (hon 18 (by kernel_rfl)) (by rw [hsz]; rfl)
      replace ha := Aside0.mk ha
      refine value_ (w1 := w') (v := .pointer none) (wanted_on rfl rfl rfl e46) rfl ?_ ?_
      · go_simp; try rfl
        all_goals (try (simp only [IntKind.wrap_i64]; omega))
      exact hK.out _ _ ⟨(by rw [ha.out]; exact putSel_upk 19 hb_ rfl rfl rfl), hI⟩
    refine steps_cons ?_ ?_
    · rintro b a w' ⟨ha, hI⟩ hb_ hon hoff
      refine ⟨_, rfl, fun K hK => ?_⟩
      have e47 : a.tmps[47]? = some (.pointer none) := by rw [ha]; exact putSel_on (e := (19, 47, .pointer none)) 19 rfl rfl (hon 19 (by kernel_rfl)) (by rw [hsz]; rfl)
      have e46 : a.tmps[46]? = some (.bool false) := by rw [ha]; exact putSel_on (e := (18, 46, .bool false)) 18 rfl rfl (hon 18 (by kernel_rfl)) (by rw [hsz]; rfl)
      replace ha := Aside0.mk ha
      refine value_ (w1 := w') (v := .bool false) (wanted_on rfl rfl rfl e46) rfl ?_ ?_
      · go_simp; try rfl
        all_goals (try (simp only [IntKind.wrap_i64]; omega))
      exact hK.out _ _ ⟨(by rw [ha.out]; exact putSel_upk 20 hb_ rfl rfl rfl), hI⟩
    refine steps_cons ?_ ?_
    · rintro b a w' ⟨ha, hI⟩ hb_ hon hoff
      refine ⟨_, rfl, fun K hK => ?_⟩
      have e48 : a.tmps[48]? = some (.bool false) := by rw [ha]; exact putSel_on (e := (20, 48, .bool false)) 20 rfl rfl (hon 20 (by kernel_rfl)) (by rw [hsz]; rfl)
      have e46 : a.tmps[46]? = some (.bool false) := by rw [ha]; exact putSel_on (e := (18, 46, .bool false)) 18 rfl rfl (hon 18 (by kernel_rfl)) (by rw [hsz]; rfl)
      replace ha := Aside0.mk ha
      refine value_ (w1 := w') (v := .bool false) (wanted_on rfl rfl rfl e46) rfl ?_ ?_
      · go_simp; try rfl
        all_goals (try (simp only [IntKind.wrap_i64]; omega))
      exact hK.out _ _ ⟨(by rw [ha.out]; exact putSel_upk 21 hb_ rfl rfl rfl), hI⟩
    refine steps_cons ?_ ?_
    · rintro b a w' ⟨ha, hI⟩ hb_ hon hoff
      refine ⟨_, rfl, fun K hK => ?_⟩
      have e49 : a.tmps[49]? = some (.bool false) := by rw [ha]; exact putSel_on (e := (21, 49, .bool false)) 21 rfl rfl (hon 21 (by kernel_rfl)) (by rw [hsz]; rfl)
      exact off_ (wanted_off rfl rfl rfl e49) (hK.out _ _ ⟨(by rw [ha]; exact putSel_upk 22 hb_ rfl rfl rfl), hI⟩)
    refine steps_cons ?_ ?_
    · rintro b a w' ⟨ha, hI⟩ hb_ hon hoff
      refine ⟨_, rfl, fun K hK => ?_⟩
      have e49 : a.tmps[49]? = some (.bool false) := by rw [ha]; exact putSel_on (e := (21, 49, .bool false)) 21 rfl rfl (hon 21 (by kernel_rfl)) (by rw [hsz]; rfl)
      exact off_ (wanted_off rfl rfl rfl e49) (hK.out _ _ ⟨(by rw [ha]; exact putSel_upk 23 hb_ rfl rfl rfl), hI⟩)
    refine steps_cons ?_ ?_
    · rintro b a w' ⟨ha, hI⟩ hb_ hon hoff
      refine ⟨_, rfl, fun K hK => ?_⟩
      have e49 : a.tmps[49]? = some (.bool false) := by rw [ha]; exact putSel_on (e := (21, 49, .bool false)) 21 rfl rfl (hon 21 (by kernel_rfl)) (by rw [hsz]; rfl)
      exact off_ (wanted_off rfl rfl rfl e49) (hK.out _ _ ⟨(by rw [ha]; exact putSel_upk 24 hb_ rfl rfl rfl), hI⟩)
    refine steps_cons ?_ ?_
    · rintro b a w' ⟨ha, hI⟩ hb_ hon hoff
      refine ⟨_, rfl, fun K hK => ?_⟩
      have e49 : a.tmps[49]? = some (.bool false) := by rw [ha]; exact putSel_on (e := (21, 49, .bool false)) 21 rfl rfl (hon 21 (by kernel_rfl)) (by rw [hsz]; rfl)
      exact off_ (wanted_off rfl rfl rfl e49) (hK.out _ _ ⟨(by rw [ha]; exact putSel_upk 25 hb_ rfl rfl rfl), hI⟩)
    refine steps_cons ?_ ?_
    · rintro b a w' ⟨ha, hI⟩ hb_ hon hoff
      refine ⟨_, rfl, fun K hK => ?_⟩
      have e49 : a.tmps[49]? = some (.bool false) := by rw [ha]; exact putSel_on (e := (21, 49, .bool false)) 21 rfl rfl (hon 21 (by kernel_rfl)) (by rw [hsz]; rfl)
      exact off_ (wanted_off rfl rfl rfl e49) (hK.out _ _ ⟨(by rw [ha]; exact putSel_upk 26 hb_ rfl rfl rfl), hI⟩)
    refine steps_cons ?_ ?_
    · rintro b a w' ⟨ha, hI⟩ hb_ hon hoff
      refine ⟨_, rfl, fun K hK => ?_⟩
      have e49 : a.tmps[49]? = some (.bool false) := by rw [ha]; exact putSel_on (e := (21, 49, .bool false)) 21 rfl rfl (hon 21 (by kernel_rfl)) (by rw [hsz]; rfl)
      exact off_ (wanted_off rfl rfl rfl e49) (hK.out _ _ ⟨(by rw [ha]; exact putSel_upk 27 hb_ rfl rfl rfl), hI⟩)
    refine steps_cons ?_ ?_
    · rintro b a w' ⟨ha, hI⟩ hb_ hon hoff
      refine ⟨_, rfl, fun K hK => ?_⟩
      have e49 : a.tmps[49]? = some (.bool false) := by rw [ha]; exact putSel_on (e := (21, 49, .bool false)) 21 rfl rfl (hon 21 (by kernel_rfl)) (by rw [hsz]; rfl)
      exact off_ (wanted_off rfl rfl rfl e49) (hK.out _ _ ⟨(by rw [ha]; exact putSel_upk 28 hb_ rfl rfl rfl), hI⟩)
    refine steps_cons ?_ ?_
    · rintro b a w' ⟨ha, hI⟩ hb_ hon hoff
      refine ⟨_, rfl, fun K hK => ?_⟩
      have e49 : a.tmps[49]? = some (.bool false) := by rw [ha]; exact putSel_on (e := (21, 49, .bool false)) 21 rfl rfl (hon 21 (by kernel_rfl)) (by rw [hsz]; rfl)
      exact off_ (wanted_off rfl rfl rfl e49) (hK.out _ _ ⟨(by rw [ha]; exact putSel_upk 29 hb_ rfl rfl rfl), hI⟩)
    refine steps_cons ?_ ?_
    · rintro b a w' ⟨ha, hI⟩ hb_ hon hoff
      refine ⟨_, rfl, fun K hK => ?_⟩
      have e49 : a.tmps[49]? = some (.bool false) := by rw [ha]; exact putSel_on (e := (21, 49, .bool false)) 21 rfl rfl (hon 21 (by kernel_rfl)) (by rw [hsz]; rfl)
      have e57 : a.tmps[57]? = some (undef) := by rw [ha]; exact putSel_on (e := (29, 57, undef)) 29 rfl rfl (hon 29 (by kernel_rfl)) (by rw [hsz]; rfl)
      have e46 : a.tmps[46]? = some (.bool false) := by rw [ha]; exact putSel_on (e := (18, 46, .bool false)) 18 rfl rfl (hon 18 (by kernel_rfl)) (by rw [hsz]; rfl)
      replace ha := Aside0.mk ha
      refine value_ (w1 := w') (v := .bool false) (wanted_on rfl rfl rfl e46) rfl ?_ ?_
      · go_simp; try rfl
        all_goals (try (simp only [IntKind.wrap_i64]; omega))
      exact hK.out _ _ ⟨(by rw [ha.out]; exact putSel_upk 30 hb_ rfl rfl rfl), hI⟩
    refine steps_cons ?_ ?_
    · rintro b a w' ⟨ha, hI⟩ hb_ hon hoff
      refine ⟨_, rfl, fun K hK => ?_⟩
      have e46 : a.tmps[46]? = some (.bool false) := by rw [ha]; exact putSel_on (e := (18, 46, .bool false)) 18 rfl rfl (hon 18 (by kernel_rfl)) (by rw [hsz]; rfl)
      have e58 : a.tmps[58]? = some (.bool false) := by rw [ha]; exact putSel_on (e := (30, 58, .bool false)) 30 rfl rfl (hon 30 (by kernel_rfl)) (by rw [hsz]; rfl)
      replace ha := Aside0.mk ha
      refine value_ (w1 := w') (v := .bool false) (by rfl) rfl ?_ ?_
      · go_simp; try rfl
        all_goals (try (simp only [IntKind.wrap_i64]; omega))
      exact hK.out _ _ ⟨(by rw [ha.out]; exact putSel_upk 31 hb_ rfl rfl rfl), hI⟩
    exact steps_nil
  rintro b a w1 hall ⟨ha, hI1⟩
  exact hend a w1 hI1 (by rw [ha]; simp only [putSel, if_true, hall 0 (by kernel_rfl), hall 1 (by kernel_rfl), hall 2 (by kernel_rfl), hall 3 (by kernel_rfl), hall 4 (by kernel_rfl), hall 5 (by kernel_rfl), hall 6 (by kernel_rfl), hall 7 (by kernel_rfl), hall 8 (by kernel_rfl), hall 9 (by kernel_rfl), hall 10 (by kernel_rfl), hall 11 (by kernel_rfl), hall 12 (by kernel_rfl), hall 13 (by kernel_rfl), hall 14 (by kernel_rfl), hall 15 (by kernel_rfl), hall 16 (by kernel_rfl), hall 17 (by kernel_rfl), hall 18 (by kernel_rfl), hall 19 (by kernel_rfl), hall 20 (by kernel_rfl), hall 21 (by kernel_rfl), hall 22 (by kernel_rfl), hall 23 (by kernel_rfl), hall 24 (by kernel_rfl), hall 25 (by kernel_rfl), hall 26 (by kernel_rfl), hall 27 (by kernel_rfl), hall 28 (by kernel_rfl), hall 29 (by kernel_rfl), hall 30 (by kernel_rfl), hall 31 (by kernel_rfl)]) (by rw [ha]; exact (putSel_size b _ a0).2) (by rw [ha]; exact putSel_on (e := (31, 59, .bool false)) 31 rfl rfl (hall 31 (by kernel_rfl)) (by rw [hsz]; rfl))
end Go.Proofs.YtipmphgkdomebaaDoor
namespace Go.Proofs.YtipmphgkdomebaaDoor
open Go.RowKit Go.Proofs.YtipmphgkdomebaaDoorW.PrintWords Go.Proofs.YtipmphgkdomebaaDoorW.PrintLast
set_option linter.unusedVariables false
set_option linter.unusedSimpArgs false
def as47d.T : Bool × List (List Nat × List Nat) := (true, [([], []), ([], []), ([0, 1], [0, 1]), ([2], [2]), ([3], [3]), ([], []), ([], []), ([5, 6], [5, 6]), ([7], [7]), ([8], [8]), ([4, 9], [4, 9]), ([10], [10]), ([11], [11]), ([12, 11], [11, 12]), ([11], [11]), ([14, 11], [11, 14]), ([13, 15, 11], [11, 13, 15]), ([11, 16], [11, 16]), ([17, 11], [17]), ([18], [18]), ([19, 18], [18, 19]), ([20, 18, 18], [18, 20]), ([21], [21]), ([22, 21], [21, 22]), ([23, 21], [21, 23]), ([21], [21]), ([25, 21], [21, 25]), ([26, 21], [21, 26]), ([24, 27, 21, 21], [21, 24, 27]), ([28, 21], [21, 28]), ([21, 29, 18], [18, 21, 29]), ([18, 30], [18, 30])])
def as47d.B : List Nat := [0, 0, 3, 7, 15, 0, 0, 96, 224, 480, 1023, 2047, 4095, 8191, 4095, 20479, 65535, 131071, 262143, 524287, 1048575, 2097151, 4194303, 8388607, 16777215, 4194303, 37748735, 104857599, 268435455, 536870911, 1073741823, 2147483647]
theorem as47d.tab : rtab .any (opsOf Tryd.f47 8) = as47d.T := by kernel_rfl
theorem as47d.bits : waitsOk as47d.T.2 as47d.B = true := by kernel_rfl
set_option maxRecDepth 100000 in
set_option maxHeartbeats 4000000 in
theorem as47d (w0 : World) (t1 t2 : ByteArray) (hq : (t1.toList == t2.toList) = true) (n ca cb i b1 o1 b2 o2 : Nat) (q1 : (0 : Int) ≤ (i : Int)) (q2 : (i : Int) < (n : Int)) (b3 o3 b4 o4 : Nat) (y1 y2 : EX) (j1 j2 : Tri) (E1 : ExAt w0 ⟨b3, o3, none⟩ y1 j1) (E2 : ExAt w0 ⟨b4, o4, none⟩ y2 j2) (s : Bool) (cS : ∀ W, Below w0.heap.size w0 W → Calls Tryd.prog 82 #[.agg #[.int .i64 y1.kind, .string y1.text, .string y1.name, .string y1.attr, .slice j1.A y1.na j1.ca, .pointer j1.P, .slice j1.V y1.nv j1.cv], .agg #[.int .i64 y2.kind, .string y2.text, .string y2.name, .string y2.attr, .slice j2.A y2.na j2.ca, .pointer j2.P, .slice j2.V y2.nv j2.cv]] W fun e w' => e = .returned (.bool s) ∧ Below W.heap.size W w') (d10 : w0.cell? ⟨b1, o1 + i * 2, none⟩ = some (.string t1)) (d20 : w0.cell? ⟨b2, o2 + i * 2, none⟩ = some (.string t2)) (a0 : Act) (s0 : a0.tmps[0]? = some (.slice (some ⟨b1, o1, none⟩) n ca)) (s1 : a0.tmps[1]? = some (.slice (some ⟨b2, o2, none⟩) n cb)) (s5 : a0.tmps[5]? = some (.int .i64 (i : Int))) (s6 : a0.tmps[6]? = some (.pointer (some ⟨b3, o3, none⟩))) (s7 : a0.tmps[7]? = some (.pointer (some ⟨b4, o4, none⟩))) (hsz : a0.tmps.size = Tryd.f47.ntmps) (W : World) (hI : Below w0.heap.size w0 W.drew) (Q : Exit → Act → World → Prop) (hend : ∀ (a9 : Act) w', Below w0.heap.size w0 w' → a9 = putSel a0 (fun _ => true) [(0, 28, .slice (some ⟨b1, o1, none⟩) n ca), (1, 29, .int .i64 (i : Int)), (2, 30, .pointer (some ⟨b1, o1 + i * 2, none⟩)), (3, 31, .pointer (some ⟨b1, o1 + i * 2, none⟩)), (4, 32, .string t1), (5, 33, .slice (some ⟨b2, o2, none⟩) n cb), (6, 34, .int .i64 (i : Int)), (7, 35, .pointer (some ⟨b2, o2 + i * 2, none⟩)), (8, 36, .pointer (some ⟨b2, o2 + i * 2, none⟩)), (9, 37, .string t2), (10, 38, .bool false), (11, 39, .bool false), (12, 40, .pointer (some ⟨b3, o3, none⟩)), (13, 41, .bool false), (14, 42, .pointer (some ⟨b4, o4, none⟩)), (15, 43, .bool false), (16, 44, .bool false), (17, 45, .bool false), (18, 46, .bool false), (19, 47, .pointer (some ⟨b3, o3, none⟩)), (20, 48, .bool true), (21, 49, .bool true), (22, 50, .pointer (some ⟨b3, o3, none⟩)), (23, 51, .pointer (some ⟨b3, o3, none⟩)), (24, 52, .agg #[.int .i64 y1.kind, .string y1.text, .string y1.name, .string y1.attr, .slice j1.A y1.na j1.ca, .pointer j1.P, .slice j1.V y1.nv j1.cv]), (25, 53, .pointer (some ⟨b4, o4, none⟩)), (26, 54, .pointer (some ⟨b4, o4, none⟩)), (27, 55, .agg #[.int .i64 y2.kind, .string y2.text, .string y2.name, .string y2.attr, .slice j2.A y2.na j2.ca, .pointer j2.P, .slice j2.V y2.nv j2.cv]), (28, 56, .bool s), (29, 57, .bool (!s)), (30, 58, .bool (!s)), (31, 59, .bool (!s))] → a9.defers = a0.defers → a9.tmps[59]? = some (.bool (!s)) → Q .normal a9 w') :
    (Code.region 8 #[{ dst := some 28, op := Op.move (Operand.tmp 0), type := 26, pos := "law.go:246", after := #[], guard := none }, { dst := some 29, op := Op.move (Operand.tmp 5), type := 3, pos := "law.go:246", after := #[], guard := none }, { dst := some 30, op := Op.indexAddr 26 (Operand.tmp 28) (Operand.tmp 29), type := 0, pos := "law.go:246", after := #[{ on := 0, ground := Ground.data }, { on := 1, ground := Ground.data }], guard := none }, { dst := some 31, op := Op.fieldAddr 42 (Operand.tmp 30) 0, type := 0, pos := "law.go:246", after := #[{ on := 2, ground := Ground.data }], guard := none }, { dst := some 32, op := Op.load 9 (Operand.tmp 31), type := 9, pos := "law.go:246", after := #[{ on := 3, ground := Ground.data }], guard := none }, { dst := some 33, op := Op.move (Operand.tmp 1), type := 26, pos := "law.go:246", after := #[], guard := none }, { dst := some 34, op := Op.move (Operand.tmp 5), type := 3, pos := "law.go:246", after := #[], guard := none }, { dst := some 35, op := Op.indexAddr 26 (Operand.tmp 33) (Operand.tmp 34), type := 0, pos := "law.go:246", after := #[{ on := 5, ground := Ground.data }, { on := 6, ground := Ground.data }], guard := none }, { dst := some 36, op := Op.fieldAddr 42 (Operand.tmp 35) 0, type := 0, pos := "law.go:246", after := #[{ on := 7, ground := Ground.data }], guard := none }, { dst := some 37, op := Op.load 9 (Operand.tmp 36), type := 9, pos := "law.go:246", after := #[{ on := 8, ground := Ground.data }], guard := none }, { dst := some 38, op := Op.binOp BinOp.neq 9 (Operand.tmp 32) (Operand.tmp 37) 9, type := 4, pos := "law.go:246", after := #[{ on := 4, ground := Ground.data }, { on := 9, ground := Ground.data }], guard := none }, { dst := some 39, op := Op.move (Operand.tmp 38), type := 4, pos := "law.go:246", after := #[{ on := 10, ground := Ground.data }], guard := none }, { dst := some 40, op := Op.move (Operand.tmp 6), type := 37, pos := "law.go:246", after := #[{ on := 11, ground := Ground.guard }], guard := some (11, false) }, { dst := some 41, op := Op.binOp BinOp.eql 37 (Operand.tmp 40) (Operand.const (Value.pointer none)) 37, type := 4, pos := "law.go:246", after := #[{ on := 12, ground := Ground.data }, { on := 11, ground := Ground.guard }], guard := some (11, false) }, { dst := some 42, op := Op.move (Operand.tmp 7), type := 37, pos := "law.go:246", after := #[{ on := 11, ground := Ground.guard }], guard := some (11, false) }, { dst := some 43, op := Op.binOp BinOp.eql 37 (Operand.tmp 42) (Operand.const (Value.pointer none)) 37, type := 4, pos := "law.go:246", after := #[{ on := 14, ground := Ground.data }, { on := 11, ground := Ground.guard }], guard := some (11, false) }, { dst := some 44, op := Op.binOp BinOp.neq 4 (Operand.tmp 41) (Operand.tmp 43) 4, type := 4, pos := "law.go:246", after := #[{ on := 13, ground := Ground.data }, { on := 15, ground := Ground.data }, { on := 11, ground := Ground.guard }], guard := some (11, false) }, { dst := some 45, op := Op.pick (Operand.tmp 39) (Operand.const (Value.bool true)) (Operand.tmp 44), type := 4, pos := "law.go:246", after := #[{ on := 11, ground := Ground.data }, { on := 16, ground := Ground.data }], guard := none }, { dst := some 46, op := Op.move (Operand.tmp 45), type := 4, pos := "law.go:246", after := #[{ on := 17, ground := Ground.data }, { on := 11, ground := Ground.chain }], guard := none }, { dst := some 47, op := Op.move (Operand.tmp 6), type := 37, pos := "law.go:246", after := #[{ on := 18, ground := Ground.guard }], guard := some (18, false) }, { dst := some 48, op := Op.binOp BinOp.neq 37 (Operand.tmp 47) (Operand.const (Value.pointer none)) 37, type := 4, pos := "law.go:246", after := #[{ on := 19, ground := Ground.data }, { on := 18, ground := Ground.guard }], guard := some (18, false) }, { dst := some 49, op := Op.move (Operand.tmp 48), type := 4, pos := "law.go:246", after := #[{ on := 20, ground := Ground.data }, { on := 18, ground := Ground.chain }, { on := 18, ground := Ground.guard }], guard := some (18, false) }, { dst := some 50, op := Op.move (Operand.tmp 6), type := 37, pos := "law.go:246", after := #[{ on := 21, ground := Ground.guard }], guard := some (21, true) }, { dst := some 51, op := Op.nilCheck (Operand.tmp 50), type := 0, pos := "law.go:246", after := #[{ on := 22, ground := Ground.data }, { on := 21, ground := Ground.guard }], guard := some (21, true) }, { dst := some 52, op := Op.load 40 (Operand.tmp 51), type := 40, pos := "law.go:246", after := #[{ on := 23, ground := Ground.data }, { on := 21, ground := Ground.guard }], guard := some (21, true) }, { dst := some 53, op := Op.move (Operand.tmp 7), type := 37, pos := "law.go:246", after := #[{ on := 21, ground := Ground.guard }], guard := some (21, true) }, { dst := some 54, op := Op.nilCheck (Operand.tmp 53), type := 0, pos := "law.go:246", after := #[{ on := 25, ground := Ground.data }, { on := 21, ground := Ground.guard }], guard := some (21, true) }, { dst := some 55, op := Op.load 40 (Operand.tmp 54), type := 40, pos := "law.go:246", after := #[{ on := 26, ground := Ground.data }, { on := 21, ground := Ground.guard }], guard := some (21, true) }, { dst := some 56, op := Op.call { callee := Callee.value (Operand.func 82), args := #[Operand.tmp 52, Operand.tmp 55], argTypes := #[40, 40] }, type := 4, pos := "law.go:246", after := #[{ on := 24, ground := Ground.data }, { on := 27, ground := Ground.data }, { on := 21, ground := Ground.chain }, { on := 21, ground := Ground.guard }], guard := some (21, true) }, { dst := some 57, op := Op.unOp UnOp.not 4 (Operand.tmp 56), type := 4, pos := "law.go:246", after := #[{ on := 28, ground := Ground.data }, { on := 21, ground := Ground.guard }], guard := some (21, true) }, { dst := some 58, op := Op.pick (Operand.tmp 49) (Operand.tmp 57) (Operand.const (Value.bool false)), type := 4, pos := "law.go:246", after := #[{ on := 21, ground := Ground.data }, { on := 29, ground := Ground.data }, { on := 18, ground := Ground.guard }], guard := some (18, false) }, { dst := some 59, op := Op.pick (Operand.tmp 46) (Operand.const (Value.bool true)) (Operand.tmp 58), type := 4, pos := "law.go:246", after := #[{ on := 18, ground := Ground.data }, { on := 30, ground := Ground.data }], guard := none }] true).wp Tryd.prog Q a0 W := by
  refine start_ (n := 32) (S := fun w' => True) (ds := []) #[false, false, false, false, false, false, false, false, false, false, false, false, false, false, false, false, false, false, false, false, false, false, false, false, false, false, false, false, false, false, false, false] (by kernel_rfl) rfl rfl trivial (fun hHeld => ?_)
  refine with_tabW as47d.tab as47d.bits (fun HT_ HW_ => ?_)
  refine inv_at [0, 1, 2, 3, 4, 5, 6, 7, 8, 9, 10, 11, 12, 13, 14, 15, 16, 17, 18, 19, 20, 21, 22, 23, 24, 25, 26, 27, 28, 29, 30, 31] (fun a0_ b a w' => a = putSel a0_ b [(0, 28, .slice (some ⟨b1, o1, none⟩) n ca), (1, 29, .int .i64 (i : Int)), (2, 30, .pointer (some ⟨b1, o1 + i * 2, none⟩)), (3, 31, .pointer (some ⟨b1, o1 + i * 2, none⟩)), (4, 32, .string t1), (5, 33, .slice (some ⟨b2, o2, none⟩) n cb), (6, 34, .int .i64 (i : Int)), (7, 35, .pointer (some ⟨b2, o2 + i * 2, none⟩)), (8, 36, .pointer (some ⟨b2, o2 + i * 2, none⟩)), (9, 37, .string t2), (10, 38, .bool false), (11, 39, .bool false), (12, 40, .pointer (some ⟨b3, o3, none⟩)), (13, 41, .bool false), (14, 42, .pointer (some ⟨b4, o4, none⟩)), (15, 43, .bool false), (16, 44, .bool false), (17, 45, .bool false), (18, 46, .bool false), (19, 47, .pointer (some ⟨b3, o3, none⟩)), (20, 48, .bool true), (21, 49, .bool true), (22, 50, .pointer (some ⟨b3, o3, none⟩)), (23, 51, .pointer (some ⟨b3, o3, none⟩)), (24, 52, .agg #[.int .i64 y1.kind, .string y1.text, .string y1.name, .string y1.attr, .slice j1.A y1.na j1.ca, .pointer j1.P, .slice j1.V y1.nv j1.cv]), (25, 53, .pointer (some ⟨b4, o4, none⟩)), (26, 54, .pointer (some ⟨b4, o4, none⟩)), (27, 55, .agg #[.int .i64 y2.kind, .string y2.text, .string y2.name, .string y2.attr, .slice j2.A y2.na j2.ca, .pointer j2.P, .slice j2.V y2.nv j2.cv]), (28, 56, .bool s), (29, 57, .bool (!s)), (30, 58, .bool (!s)), (31, 59, .bool (!s))] ∧ (Below w0.heap.size w0 w')) HT_.out HW_.out (by kernel_rfl) (by kernel_rfl) ?_ ?_ ?_
  · exact ⟨(by simp only [putSel, Bool.false_eq_true, if_false]), hI⟩
  · clear hI hend hHeld
    refine steps_cons ?_ ?_
    · rintro b a w' ⟨ha, hI⟩ hb_ hon hoff
      refine ⟨_, rfl, fun K hK => ?_⟩
      have e0 : a.tmps[0]? = some (.slice (some ⟨b1, o1, none⟩) n ca) := by rw [ha]; exact (putSel_off rfl).trans s0
      replace ha := Aside0.mk ha
      refine value_ (w1 := w') (v := .slice (some ⟨b1, o1, none⟩) n ca) (by rfl) rfl ?_ ?_
      · go_simp; try rfl
        all_goals (try (simp only [IntKind.wrap_i64]; omega))
      exact hK.out _ _ ⟨(by rw [ha.out]; exact putSel_upk 0 hb_ rfl rfl rfl), hI⟩
    refine steps_cons ?_ ?_
    · rintro b a w' ⟨ha, hI⟩ hb_ hon hoff
      refine ⟨_, rfl, fun K hK => ?_⟩
      have e5 : a.tmps[5]? = some (.int .i64 (i : Int)) := by rw [ha]; exact (putSel_off rfl).trans s5
      replace ha := Aside0.mk ha
      refine value_ (w1 := w') (v := .int .i64 (i : Int)) (by rfl) rfl ?_ ?_
      · go_simp; try rfl
        all_goals (try (simp only [IntKind.wrap_i64]; omega))
      exact hK.out _ _ ⟨(by rw [ha.out]; exact putSel_upk 1 hb_ rfl rfl rfl), hI⟩
    refine steps_cons ?_ ?_
    · rintro b a w' ⟨ha, hI⟩ hb_ hon hoff
      refine ⟨_, rfl, fun K hK => ?_⟩
      have e28 : a.tmps[28]? = some (.slice (some ⟨b1, o1, none⟩) n ca) := by rw [ha]; exact putSel_on (e := (0, 28, .slice (some ⟨b1, o1, none⟩) n ca)) 0 rfl rfl (hon 0 (by kernel_rfl)) (by rw [hsz]; rfl)
      have e29 : a.tmps[29]? = some (.int .i64 (i : Int)) := by rw [ha]; exact putSel_on (e := (1, 29, .int .i64 (i : Int))) 1 rfl rfl (hon 1 (by kernel_rfl)) (by rw [hsz]; rfl)
      replace ha := Aside0.mk ha
      refine value_ (w1 := w') (v := .pointer (some ⟨b1, o1 + i * 2, none⟩)) (by rfl) rfl ?_ ?_
      · go_simp; try rfl
        all_goals (try (simp only [IntKind.wrap_i64]; omega))
      exact hK.out _ _ ⟨(by rw [ha.out]; exact putSel_upk 2 hb_ rfl rfl rfl), hI⟩
    refine steps_cons ?_ ?_
    · rintro b a w' ⟨ha, hI⟩ hb_ hon hoff
      refine ⟨_, rfl, fun K hK => ?_⟩
      have e30 : a.tmps[30]? = some (.pointer (some ⟨b1, o1 + i * 2, none⟩)) := by rw [ha]; exact putSel_on (e := (2, 30, .pointer (some ⟨b1, o1 + i * 2, none⟩))) 2 rfl rfl (hon 2 (by kernel_rfl)) (by rw [hsz]; rfl)
      replace ha := Aside0.mk ha
      refine value_ (w1 := w') (v := .pointer (some ⟨b1, o1 + i * 2, none⟩)) (by rfl) rfl ?_ ?_
      · go_simp; try rfl
        all_goals (try (simp only [IntKind.wrap_i64]; omega))
      exact hK.out _ _ ⟨(by rw [ha.out]; exact putSel_upk 3 hb_ rfl rfl rfl), hI⟩
    refine steps_cons ?_ ?_
    · rintro b a w' ⟨ha, hI⟩ hb_ hon hoff
      refine ⟨_, rfl, fun K hK => ?_⟩
      have e31 : a.tmps[31]? = some (.pointer (some ⟨b1, o1 + i * 2, none⟩)) := by rw [ha]; exact putSel_on (e := (3, 31, .pointer (some ⟨b1, o1 + i * 2, none⟩))) 3 rfl rfl (hon 3 (by kernel_rfl)) (by rw [hsz]; rfl)
      replace ha := Aside0.mk ha
      have m0 := Kept.of hI _ _ _ d10
      refine value_ (w1 := w') (v := .string t1) (by rfl) rfl ?_ ?_
      · go_simp; try rfl
        all_goals (try (simp only [IntKind.wrap_i64]; omega))
      exact hK.out _ _ ⟨(by rw [ha.out]; exact putSel_upk 4 hb_ rfl rfl rfl), hI⟩
    refine steps_cons ?_ ?_
    · rintro b a w' ⟨ha, hI⟩ hb_ hon hoff
      refine ⟨_, rfl, fun K hK => ?_⟩
      have e1 : a.tmps[1]? = some (.slice (some ⟨b2, o2, none⟩) n cb) := by rw [ha]; exact (putSel_off rfl).trans s1
      replace ha := Aside0.mk ha
      refine value_ (w1 := w') (v := .slice (some ⟨b2, o2, none⟩) n cb) (by rfl) rfl ?_ ?_
      · go_simp; try rfl
        all_goals (try (simp only [IntKind.wrap_i64]; omega))
      exact hK.out _ _ ⟨(by rw [ha.out]; exact putSel_upk 5 hb_ rfl rfl rfl), hI⟩
    refine steps_cons ?_ ?_
    · rintro b a w' ⟨ha, hI⟩ hb_ hon hoff
      refine ⟨_, rfl, fun K hK => ?_⟩
      have e5 : a.tmps[5]? = some (.int .i64 (i : Int)) := by rw [ha]; exact (putSel_off rfl).trans s5
      replace ha := Aside0.mk ha
      refine value_ (w1 := w') (v := .int .i64 (i : Int)) (by rfl) rfl ?_ ?_
      · go_simp; try rfl
        all_goals (try (simp only [IntKind.wrap_i64]; omega))
      exact hK.out _ _ ⟨(by rw [ha.out]; exact putSel_upk 6 hb_ rfl rfl rfl), hI⟩
    refine steps_cons ?_ ?_
    · rintro b a w' ⟨ha, hI⟩ hb_ hon hoff
      refine ⟨_, rfl, fun K hK => ?_⟩
      have e33 : a.tmps[33]? = some (.slice (some ⟨b2, o2, none⟩) n cb) := by rw [ha]; exact putSel_on (e := (5, 33, .slice (some ⟨b2, o2, none⟩) n cb)) 5 rfl rfl (hon 5 (by kernel_rfl)) (by rw [hsz]; rfl)
      have e34 : a.tmps[34]? = some (.int .i64 (i : Int)) := by rw [ha]; exact putSel_on (e := (6, 34, .int .i64 (i : Int))) 6 rfl rfl (hon 6 (by kernel_rfl)) (by rw [hsz]; rfl)
      replace ha := Aside0.mk ha
      refine value_ (w1 := w') (v := .pointer (some ⟨b2, o2 + i * 2, none⟩)) (by rfl) rfl ?_ ?_
      · go_simp; try rfl
        all_goals (try (simp only [IntKind.wrap_i64]; omega))
      exact hK.out _ _ ⟨(by rw [ha.out]; exact putSel_upk 7 hb_ rfl rfl rfl), hI⟩
    refine steps_cons ?_ ?_
    · rintro b a w' ⟨ha, hI⟩ hb_ hon hoff
      refine ⟨_, rfl, fun K hK => ?_⟩
      have e35 : a.tmps[35]? = some (.pointer (some ⟨b2, o2 + i * 2, none⟩)) := by rw [ha]; exact putSel_on (e := (7, 35, .pointer (some ⟨b2, o2 + i * 2, none⟩))) 7 rfl rfl (hon 7 (by kernel_rfl)) (by rw [hsz]; rfl)
      replace ha := Aside0.mk ha
      refine value_ (w1 := w') (v := .pointer (some ⟨b2, o2 + i * 2, none⟩)) (by rfl) rfl ?_ ?_
      · go_simp; try rfl
        all_goals (try (simp only [IntKind.wrap_i64]; omega))
      exact hK.out _ _ ⟨(by rw [ha.out]; exact putSel_upk 8 hb_ rfl rfl rfl), hI⟩
    refine steps_cons ?_ ?_
    · rintro b a w' ⟨ha, hI⟩ hb_ hon hoff
      refine ⟨_, rfl, fun K hK => ?_⟩
      have e36 : a.tmps[36]? = some (.pointer (some ⟨b2, o2 + i * 2, none⟩)) := by rw [ha]; exact putSel_on (e := (8, 36, .pointer (some ⟨b2, o2 + i * 2, none⟩))) 8 rfl rfl (hon 8 (by kernel_rfl)) (by rw [hsz]; rfl)
      replace ha := Aside0.mk ha
      have m0 := Kept.of hI _ _ _ d20
      refine value_ (w1 := w') (v := .string t2) (by rfl) rfl ?_ ?_
      · go_simp; try rfl
        all_goals (try (simp only [IntKind.wrap_i64]; omega))
      exact hK.out _ _ ⟨(by rw [ha.out]; exact putSel_upk 9 hb_ rfl rfl rfl), hI⟩
    refine steps_cons ?_ ?_
    · rintro b a w' ⟨ha, hI⟩ hb_ hon hoff
      refine ⟨_, rfl, fun K hK => ?_⟩
      have e32 : a.tmps[32]? = some (.string t1) := by rw [ha]; exact putSel_on (e := (4, 32, .string t1)) 4 rfl rfl (hon 4 (by kernel_rfl)) (by rw [hsz]; rfl)
      have e37 : a.tmps[37]? = some (.string t2) := by rw [ha]; exact putSel_on (e := (9, 37, .string t2)) 9 rfl rfl (hon 9 (by kernel_rfl)) (by rw [hsz]; rfl)
      replace ha := Aside0.mk ha
      refine value_ (w1 := w') (v := .bool false) (by rfl) rfl ?_ ?_
      · go_simp; try rfl
        all_goals (try (simp only [IntKind.wrap_i64]; omega))
      exact hK.out _ _ ⟨(by rw [ha.out]; exact putSel_upk 10 hb_ rfl rfl rfl), hI⟩
    refine steps_cons ?_ ?_
    · rintro b a w' ⟨ha, hI⟩ hb_ hon hoff
      refine ⟨_, rfl, fun K hK => ?_⟩
      have e38 : a.tmps[38]? = some (.bool false) := by rw [ha]; exact putSel_on (e := (10, 38, .bool false)) 10 rfl rfl (hon 10 (by kernel_rfl)) (by rw [hsz]; rfl)
      replace ha := Aside0.mk ha
      refine value_ (w1 := w') (v := .bool false) (by rfl) rfl ?_ ?_
      · go_simp; try rfl
        all_goals (try (simp only [IntKind.wrap_i64]; omega))
      exact hK.out _ _ ⟨(by rw [ha.out]; exact putSel_upk 11 hb_ rfl rfl rfl), hI⟩
    refine steps_cons ?_ ?_
    · rintro b a w' ⟨ha, hI⟩ hb_ hon hoff
      refine ⟨_, rfl, fun K hK => ?_⟩
      have e6 : a.tmps[6]? = some (.pointer (some ⟨b3, o3, none⟩)) := by rw [ha]; exact (putSel_off rfl).trans s6
      have e39 : a.tmps[39]? = some (.bool false) := by rw [ha]; exact putSel_on (e := (11, 39, .bool false)) 11 rfl rfl (hon 11 (by kernel_rfl)) (by rw [hsz]; rfl)
      replace ha := Aside0.mk ha
      refine value_ (w1 := w') (v := .pointer (some ⟨b3, o3, none⟩)) (wanted_on rfl rfl rfl e39) rfl ?_ ?_
      · go_simp; try rfl
        all_goals (try (simp only [IntKind.wrap_i64]; omega))
      exact hK.out _ _ ⟨(by rw [ha.out]; exact putSel_upk 12 hb_ rfl rfl rfl), hI⟩
    refine steps_cons ?_ ?_
    · rintro b a w' ⟨ha, hI⟩ hb_ hon hoff
      refine ⟨_, rfl, fun K hK => ?_⟩
      have e40 : a.tmps[40]? = some (.pointer (some ⟨b3, o3, none⟩)) := by rw [ha]; exact putSel_on (e := (12, 40, .pointer (some ⟨b3, o3, none⟩))) 12 rfl rfl (hon 12 (by kernel_rfl)) (by rw [hsz]; rfl)
      have e39 : a.tmps[39]? = some (.bool false) := by rw [ha]; exact putSel_on (e := (11, 39, .bool false)) 11 rfl rfl (hon 11 (by kernel_rfl)) (by rw [hsz]; rfl)
      replace ha := Aside0.mk ha
      refine value_ (w1 := w') (v := .bool false) (wanted_on rfl rfl rfl e39) rfl ?_ ?_
      · go_simp; try rfl
        all_goals (try (simp only [IntKind.wrap_i64]; omega))
      exact hK.out _ _ ⟨(by rw [ha.out]; exact putSel_upk 13 hb_ rfl rfl rfl), hI⟩
    refine steps_cons ?_ ?_
    · rintro b a w' ⟨ha, hI⟩ hb_ hon hoff
      refine ⟨_, rfl, fun K hK => ?_⟩
      have e7 : a.tmps[7]? = some (.pointer (some ⟨b4, o4, none⟩)) := by rw [ha]; exact (putSel_off rfl).trans s7
      have e39 : a.tmps[39]? = some (.bool false) := by rw [ha]; exact putSel_on (e := (11, 39, .bool false)) 11 rfl rfl (hon 11 (by kernel_rfl)) (by rw [hsz]; rfl)
      replace ha := Aside0.mk ha
      refine value_ (w1 := w') (v := .pointer (some ⟨b4, o4, none⟩)) (wanted_on rfl rfl rfl e39) rfl ?_ ?_
      · go_simp; try rfl
        all_goals (try (simp only [IntKind.wrap_i64]; omega))
      exact hK.out _ _ ⟨(by rw [ha.out]; exact putSel_upk 14 hb_ rfl rfl rfl), hI⟩
    refine steps_cons ?_ ?_
    · rintro b a w' ⟨ha, hI⟩ hb_ hon hoff
      refine ⟨_, rfl, fun K hK => ?_⟩
      have e42 : a.tmps[42]? = some (.pointer (some ⟨b4, o4, none⟩)) := by rw [ha]; exact putSel_on (e := (14, 42, .pointer (some ⟨b4, o4, none⟩))) 14 rfl rfl (hon 14 (by kernel_rfl)) (by rw [hsz]; rfl)
      have e39 : a.tmps[39]? = some (.bool false) := by rw [ha]; exact putSel_on (e := (11, 39, .bool false)) 11 rfl rfl (hon 11 (by kernel_rfl)) (by rw [hsz]; rfl)
      replace ha := Aside0.mk ha
      refine value_ (w1 := w') (v := .bool false) (wanted_on rfl rfl rfl e39) rfl ?_ ?_
      · go_simp; try rfl
        all_goals (try (simp only [IntKind.wrap_i64]; omega))
      exact hK.out _ _ ⟨(by rw [ha.out]; exact putSel_upk 15 hb_ rfl rfl rfl), hI⟩
    refine steps_cons ?_ ?_
    · rintro b a w' ⟨ha, hI⟩ hb_ hon hoff
      refine ⟨_, rfl, fun K hK => ?_⟩
      have e41 : a.tmps[41]? = some (.bool false) := by rw [ha]; exact putSel_on (e := (13, 41, .bool false)) 13 rfl rfl (hon 13 (by kernel_rfl)) (by rw [hsz]; rfl)
      have e43 : a.tmps[43]? = some (.bool false) := by rw [ha]; exact putSel_on (e := (15, 43, .bool false)) 15 rfl rfl (hon 15 (by kernel_rfl)) (by rw [hsz]; rfl)
      have e39 : a.tmps[39]? = some (.bool false) := by rw [ha]; exact putSel_on (e := (11, 39, .bool false)) 11 rfl rfl (hon 11 (by kernel_rfl)) (by rw [hsz]; rfl)
      replace ha := Aside0.mk ha
      refine value_ (w1 := w') (v := .bool false) (wanted_on rfl rfl rfl e39) rfl ?_ ?_
      · go_simp; try rfl
        all_goals (try (simp only [IntKind.wrap_i64]; omega))
      exact hK.out _ _ ⟨(by rw [ha.out]; exact putSel_upk 16 hb_ rfl rfl rfl), hI⟩
    refine steps_cons ?_ ?_
    · rintro b a w' ⟨ha, hI⟩ hb_ hon hoff
      refine ⟨_, rfl, fun K hK => ?_⟩
      have e39 : a.tmps[39]? = some (.bool false) := by rw [ha]; exact putSel_on (e := (11, 39, .bool false)) 11 rfl rfl (hon 11 (by kernel_rfl)) (by rw [hsz]; rfl)
      have e44 : a.tmps[44]? = some (.bool false) := by rw [ha]; exact putSel_on (e := (16, 44, .bool false)) 16 rfl rfl (hon 16 (by kernel_rfl)) (by rw [hsz]; rfl)
      replace ha := Aside0.mk ha
      refine value_ (w1 := w') (v := .bool false) (by rfl) rfl ?_ ?_
      · go_simp; try rfl
        all_goals (try (simp only [IntKind.wrap_i64]; omega))
      exact hK.out _ _ ⟨(by rw [ha.out]; exact putSel_upk 17 hb_ rfl rfl rfl), hI⟩
    refine steps_cons ?_ ?_
    · rintro b a w' ⟨ha, hI⟩ hb_ hon hoff
      refine ⟨_, rfl, fun K hK => ?_⟩
      have e45 : a.tmps[45]? = some (.bool false) := by rw [ha]; exact putSel_on (e := (17, 45, .bool false)) 17 rfl rfl (hon 17 (by kernel_rfl)) (by rw [hsz]; rfl)
      replace ha := Aside0.mk ha
      refine value_ (w1 := w') (v := .bool false) (by rfl) rfl ?_ ?_
      · go_simp; try rfl
        all_goals (try (simp only [IntKind.wrap_i64]; omega))
      exact hK.out _ _ ⟨(by rw [ha.out]; exact putSel_upk 18 hb_ rfl rfl rfl), hI⟩
    refine steps_cons ?_ ?_
    · rintro b a w' ⟨ha, hI⟩ hb_ hon hoff
      refine ⟨_, rfl, fun K hK => ?_⟩
      have e6 : a.tmps[6]? = some (.pointer (some ⟨b3, o3, none⟩)) := by rw [ha]; exact (putSel_off rfl).trans s6
      have e46 : a.tmps[46]? = some (.bool false) := by rw [ha]; exact putSel_on (e := (18, 46, .bool false)) 18 rfl rfl (hon 18 (by kernel_rfl)) (by rw [hsz]; rfl)
      replace ha := Aside0.mk ha
      refine value_ (w1 := w') (v := .pointer (some ⟨b3, o3, none⟩)) (wanted_on rfl rfl rfl e46) rfl ?_ ?_
      · go_simp; try rfl
        all_goals (try (simp only [IntKind.wrap_i64]; omega))
      exact hK.out _ _ ⟨(by rw [ha.out]; exact putSel_upk 19 hb_ rfl rfl rfl), hI⟩
    refine steps_cons ?_ ?_
    · rintro b a w' ⟨ha, hI⟩ hb_ hon hoff
      refine ⟨_, rfl, fun K hK => ?_⟩
      have e47 : a.tmps[47]? = some (.pointer (some ⟨b3, o3, none⟩)) := by rw [ha]; exact putSel_on (e := (19, 47, .pointer (some ⟨b3, o3, none⟩))) 19 rfl rfl (hon 19 (by kernel_rfl)) (by rw [hsz]; rfl)
      have e46 : a.tmps[46]? = some (.bool false) := by rw [ha]; exact putSel_on (e := (18, 46, .bool false)) 18 rfl rfl (hon 18 (by kernel_rfl)) (by rw [hsz]; rfl)
      replace ha := Aside0.mk ha
      refine value_ (w1 := w') (v := .bool true) (wanted_on rfl rfl rfl e46) rfl ?_ ?_
      · go_simp; try rfl
        all_goals (try (simp only [IntKind.wrap_i64]; omega))
      exact hK.out _ _ ⟨(by rw [ha.out]; exact putSel_upk 20 hb_ rfl rfl rfl), hI⟩
    refine steps_cons ?_ ?_
    · rintro b a w' ⟨ha, hI⟩ hb_ hon hoff
      refine ⟨_, rfl, fun K hK => ?_⟩
      have e48 : a.tmps[48]? = some (.bool true) := by rw [ha]; exact putSel_on (e := (20, 48, .bool true)) 20 rfl rfl (hon 20 (by kernel_rfl)) (by rw [hsz]; rfl)
      have e46 : a.tmps[46]? = some (.bool false) := by rw [ha]; exact putSel_on (e := (18, 46, .bool false)) 18 rfl rfl (hon 18 (by kernel_rfl)) (by rw [hsz]; rfl)
      replace ha := Aside0.mk ha
      refine value_ (w1 := w') (v := .bool true) (wanted_on rfl rfl rfl e46) rfl ?_ ?_
      · go_simp; try rfl
        all_goals (try (simp only [IntKind.wrap_i64]; omega))
      exact hK.out _ _ ⟨(by rw [ha.out]; exact putSel_upk 21 hb_ rfl rfl rfl), hI⟩
    refine steps_cons ?_ ?_
    · rintro b a w' ⟨ha, hI⟩ hb_ hon hoff
      refine ⟨_, rfl, fun K hK => ?_⟩
      have e6 : a.tmps[6]? = some (.pointer (some ⟨b3, o3, none⟩)) := by rw [ha]; exact (putSel_off rfl).trans s6
      have e49 : a.tmps[49]? = some (.bool true) := by rw [ha]; exact putSel_on (e := (21, 49, .bool true)) 21 rfl rfl (hon 21 (by kernel_rfl)) (by rw [hsz]; rfl)
      replace ha := Aside0.mk ha
      refine value_ (w1 := w') (v := .pointer (some ⟨b3, o3, none⟩)) (wanted_on rfl rfl rfl e49) rfl ?_ ?_
      · go_simp; try rfl
        all_goals (try (simp only [IntKind.wrap_i64]; omega))
      exact hK.out _ _ ⟨(by rw [ha.out]; exact putSel_upk 22 hb_ rfl rfl rfl), hI⟩
    refine steps_cons ?_ ?_
    · rintro b a w' ⟨ha, hI⟩ hb_ hon hoff
      refine ⟨_, rfl, fun K hK => ?_⟩
      have e50 : a.tmps[50]? = some (.pointer (some ⟨b3, o3, none⟩)) := by rw [ha]; exact putSel_on (e := (22, 50, .pointer (some ⟨b3, o3, none⟩))) 22 rfl rfl (hon 22 (by kernel_rfl)) (by rw [hsz]; rfl)
      have e49 : a.tmps[49]? = some (.bool true) := by rw [ha]; exact putSel_on (e := (21, 49, .bool true)) 21 rfl rfl (hon 21 (by kernel_rfl)) (by rw [hsz]; rfl)
      replace ha := Aside0.mk ha
      refine value_ (w1 := w') (v := .pointer (some ⟨b3, o3, none⟩)) (wanted_on rfl rfl rfl e49) rfl ?_ ?_
      · go_simp; try rfl
        all_goals (try (simp only [IntKind.wrap_i64]; omega))
      exact hK.out _ _ ⟨(by rw [ha.out]; exact putSel_upk 23 hb_ rfl rfl rfl), hI⟩
    refine steps_cons ?_ ?_
    · rintro b a w' ⟨ha, hI⟩ hb_ hon hoff
      refine ⟨_, rfl, fun K hK => ?_⟩
      have e51 : a.tmps[51]? = some (.pointer (some ⟨b3, o3, none⟩)) := by rw [ha]; exact putSel_on (e := (23, 51, .pointer (some ⟨b3, o3, none⟩))) 23 rfl rfl (hon 23 (by kernel_rfl)) (by rw [hsz]; rfl)
      have e49 : a.tmps[49]? = some (.bool true) := by rw [ha]; exact putSel_on (e := (21, 49, .bool true)) 21 rfl rfl (hon 21 (by kernel_rfl)) (by rw [hsz]; rfl)
      replace ha := Aside0.mk ha
      have m0 := Kept.of hI _ _ _ E1.c0
      have m1 := Kept.of hI _ _ _ E1.c1
      have m2 := Kept.of hI _ _ _ E1.c2
      have m3 := Kept.of hI _ _ _ E1.c3
      have m4 := Kept.of hI _ _ _ E1.c4
      have m5 := Kept.of hI _ _ _ E1.c5
      have m6 := Kept.of hI _ _ _ E1.c6
      refine value_ (w1 := w') (v := .agg #[.int .i64 y1.kind, .string y1.text, .string y1.name, .string y1.attr, .slice j1.A y1.na j1.ca, .pointer j1.P, .slice j1.V y1.nv j1.cv]) (wanted_on rfl rfl rfl e49) rfl ?_ ?_
      · go_simp; try rfl
        all_goals (try (simp only [IntKind.wrap_i64]; omega))
      exact hK.out _ _ ⟨(by rw [ha.out]; exact putSel_upk 24 hb_ rfl rfl rfl), hI⟩
    refine steps_cons ?_ ?_
    · rintro b a w' ⟨ha, hI⟩ hb_ hon hoff
      refine ⟨_, rfl, fun K hK => ?_⟩
      have e7 : a.tmps[7]? = some (.pointer (some ⟨b4, o4, none⟩)) := by rw [ha]; exact (putSel_off rfl).trans s7
      have e49 : a.tmps[49]? = some (.bool true) := by rw [ha]; exact putSel_on (e := (21, 49, .bool true)) 21 rfl rfl (hon 21 (by kernel_rfl)) (by rw [hsz]; rfl)
      replace ha := Aside0.mk ha
      refine value_ (w1 := w') (v := .pointer (some ⟨b4, o4, none⟩)) (wanted_on rfl rfl rfl e49) rfl ?_ ?_
      · go_simp; try rfl
        all_goals (try (simp only [IntKind.wrap_i64]; omega))
      exact hK.out _ _ ⟨(by rw [ha.out]; exact putSel_upk 25 hb_ rfl rfl rfl), hI⟩
    refine steps_cons ?_ ?_
    · rintro b a w' ⟨ha, hI⟩ hb_ hon hoff
      refine ⟨_, rfl, fun K hK => ?_⟩
      have e53 : a.tmps[53]? = some (.pointer (some ⟨b4, o4, none⟩)) := by rw [ha]; exact putSel_on (e := (25, 53, .pointer (some ⟨b4, o4, none⟩))) 25 rfl rfl (hon 25 (by kernel_rfl)) (by rw [hsz]; rfl)
      have e49 : a.tmps[49]? = some (.bool true) := by rw [ha]; exact putSel_on (e := (21, 49, .bool true)) 21 rfl rfl (hon 21 (by kernel_rfl)) (by rw [hsz]; rfl)
      replace ha := Aside0.mk ha
      refine value_ (w1 := w') (v := .pointer (some ⟨b4, o4, none⟩)) (wanted_on rfl rfl rfl e49) rfl ?_ ?_
      · go_simp; try rfl
        all_goals (try (simp only [IntKind.wrap_i64]; omega))
      exact hK.out _ _ ⟨(by rw [ha.out]; exact putSel_upk 26 hb_ rfl rfl rfl), hI⟩
    refine steps_cons ?_ ?_
    · rintro b a w' ⟨ha, hI⟩ hb_ hon hoff
      refine ⟨_, rfl, fun K hK => ?_⟩
      have e54 : a.tmps[54]? = some (.pointer (some ⟨b4, o4, none⟩)) := by rw [ha]; exact putSel_on (e := (26, 54, .pointer (some ⟨b4, o4, none⟩))) 26 rfl rfl (hon 26 (by kernel_rfl)) (by rw [hsz]; rfl)
      have e49 : a.tmps[49]? = some (.bool true) := by rw [ha]; exact putSel_on (e := (21, 49, .bool true)) 21 rfl rfl (hon 21 (by kernel_rfl)) (by rw [hsz]; rfl)
      replace ha := Aside0.mk ha
      have m0 := Kept.of hI _ _ _ E2.c0
      have m1 := Kept.of hI _ _ _ E2.c1
      have m2 := Kept.of hI _ _ _ E2.c2
      have m3 := Kept.of hI _ _ _ E2.c3
      have m4 := Kept.of hI _ _ _ E2.c4
      have m5 := Kept.of hI _ _ _ E2.c5
      have m6 := Kept.of hI _ _ _ E2.c6
      refine value_ (w1 := w') (v := .agg #[.int .i64 y2.kind, .string y2.text, .string y2.name, .string y2.attr, .slice j2.A y2.na j2.ca, .pointer j2.P, .slice j2.V y2.nv j2.cv]) (wanted_on rfl rfl rfl e49) rfl ?_ ?_
      · go_simp; try rfl
        all_goals (try (simp only [IntKind.wrap_i64]; omega))
      exact hK.out _ _ ⟨(by rw [ha.out]; exact putSel_upk 27 hb_ rfl rfl rfl), hI⟩
    refine steps_cons ?_ ?_
    · rintro b a w' ⟨ha, hI⟩ hb_ hon hoff
      refine ⟨_, rfl, fun K hK => ?_⟩
      have e52 : a.tmps[52]? = some (.agg #[.int .i64 y1.kind, .string y1.text, .string y1.name, .string y1.attr, .slice j1.A y1.na j1.ca, .pointer j1.P, .slice j1.V y1.nv j1.cv]) := by rw [ha]; exact putSel_on (e := (24, 52, .agg #[.int .i64 y1.kind, .string y1.text, .string y1.name, .string y1.attr, .slice j1.A y1.na j1.ca, .pointer j1.P, .slice j1.V y1.nv j1.cv])) 24 rfl rfl (hon 24 (by kernel_rfl)) (by rw [hsz]; rfl)
      have e55 : a.tmps[55]? = some (.agg #[.int .i64 y2.kind, .string y2.text, .string y2.name, .string y2.attr, .slice j2.A y2.na j2.ca, .pointer j2.P, .slice j2.V y2.nv j2.cv]) := by rw [ha]; exact putSel_on (e := (27, 55, .agg #[.int .i64 y2.kind, .string y2.text, .string y2.name, .string y2.attr, .slice j2.A y2.na j2.ca, .pointer j2.P, .slice j2.V y2.nv j2.cv])) 27 rfl rfl (hon 27 (by kernel_rfl)) (by rw [hsz]; rfl)
      have e49 : a.tmps[49]? = some (.bool true) := by rw [ha]; exact putSel_on (e := (21, 49, .bool true)) 21 rfl rfl (hon 21 (by kernel_rfl)) (by rw [hsz]; rfl)
      replace ha := Aside0.mk ha
      refine goes_ Tryd.func82 (by kernel_rfl) rfl #[.agg #[.int .i64 y1.kind, .string y1.text, .string y1.name, .string y1.attr, .slice j1.A y1.na j1.ca, .pointer j1.P, .slice j1.V y1.nv j1.cv], .agg #[.int .i64 y2.kind, .string y2.text, .string y2.name, .string y2.attr, .slice j2.A y2.na j2.ca, .pointer j2.P, .slice j2.V y2.nv j2.cv]] (wanted_on rfl rfl rfl e49) rfl rfl (by first | (simp only [List.map_toArray, List.map_cons, List.map_nil, Act.eval, Array.getD_eq_getD_getElem?, Option.getD_some, e52, e55]; done) | (simp only [List.map_toArray, List.map_cons, List.map_nil, Act.eval, Array.getD_eq_getD_getElem?, Option.getD_some, e52, e55]; rfl)) ?_
      refine (cS w' hI).mono ?_
      rintro e w1 ⟨rfl, b1⟩; have hI1 := below_on hI b1 hI.size
      exact ⟨_, rfl, hK.out _ _ ⟨(by rw [ha.out]; exact putSel_upk 28 hb_ rfl rfl rfl), hI1⟩⟩
    refine steps_cons ?_ ?_
    · rintro b a w' ⟨ha, hI⟩ hb_ hon hoff
      refine ⟨_, rfl, fun K hK => ?_⟩
      have e56 : a.tmps[56]? = some (.bool s) := by rw [ha]; exact putSel_on (e := (28, 56, .bool s)) 28 rfl rfl (hon 28 (by kernel_rfl)) (by rw [hsz]; rfl)
      have e49 : a.tmps[49]? = some (.bool true) := by rw [ha]; exact putSel_on (e := (21, 49, .bool true)) 21 rfl rfl (hon 21 (by kernel_rfl)) (by rw [hsz]; rfl)
      replace ha := Aside0.mk ha
      refine value_ (w1 := w') (v := .bool (!s)) (wanted_on rfl rfl rfl e49) rfl ?_ ?_
      · go_simp; try rfl
        all_goals (try (simp only [IntKind.wrap_i64]; omega))
      exact hK.out _ _ ⟨(by rw [ha.out]; exact putSel_upk 29 hb_ rfl rfl rfl), hI⟩
    refine steps_cons ?_ ?_
    · rintro b a w' ⟨ha, hI⟩ hb_ hon hoff
      refine ⟨_, rfl, fun K hK => ?_⟩
      have e49 : a.tmps[49]? = some (.bool true) := by rw [ha]; exact putSel_on (e := (21, 49, .bool true)) 21 rfl rfl (hon 21 (by kernel_rfl)) (by rw [hsz]; rfl)
      have e57 : a.tmps[57]? = some (.bool (!s)) := by rw [ha]; exact putSel_on (e := (29, 57, .bool (!s))) 29 rfl rfl (hon 29 (by kernel_rfl)) (by rw [hsz]; rfl)
      have e46 : a.tmps[46]? = some (.bool false) := by rw [ha]; exact putSel_on (e := (18, 46, .bool false)) 18 rfl rfl (hon 18 (by kernel_rfl)) (by rw [hsz]; rfl)
      replace ha := Aside0.mk ha
      refine value_ (w1 := w') (v := .bool (!s)) (wanted_on rfl rfl rfl e46) rfl ?_ ?_
      · go_simp; try rfl
        all_goals (try (simp only [IntKind.wrap_i64]; omega))
      exact hK.out _ _ ⟨(by rw [ha.out]; exact putSel_upk 30 hb_ rfl rfl rfl), hI⟩
    refine steps_cons ?_ ?_
    · rintro b a w' ⟨ha, hI⟩ hb_ hon hoff
      refine ⟨_, rfl, fun K hK => ?_⟩
      have e46 : a.tmps[46]? = some (.bool false) := by rw [ha]; exact putSel_on (e := (18, 46, .bool false)) 18 rfl rfl (hon 18 (by kernel_rfl)) (by rw [hsz]; rfl)
      have e58 : a.tmps[58]? = some (.bool (!s)) := by rw [ha]; exact putSel_on (e := (30, 58, .bool (!s))) 30 rfl rfl (hon 30 (by kernel_rfl)) (by rw [hsz]; rfl)
      replace ha := Aside0.mk ha
      refine value_ (w1 := w') (v := .bool (!s)) (by rfl) rfl ?_ ?_
      · go_simp; try rfl
        all_goals (try (simp only [IntKind.wrap_i64]; omega))
      exact hK.out _ _ ⟨(by rw [ha.out]; exact putSel_upk 31 hb_ rfl rfl rfl), hI⟩
    exact steps_nil
  rintro b a w1 hall ⟨ha, hI1⟩
  exact hend a w1 hI1 (by rw [ha]; simp only [putSel, if_true, hall 0 (by kernel_rfl), hall 1 (by kernel_rfl), hall 2 (by kernel_rfl), hall 3 (by kernel_rfl), hall 4 (by kernel_rfl), hall 5 (by kernel_rfl), hall 6 (by kernel_rfl), hall 7 (by kernel_rfl), hall 8 (by kernel_rfl), hall 9 (by kernel_rfl), hall 10 (by kernel_rfl), hall 11 (by kernel_rfl), hall 12 (by kernel_rfl), hall 13 (by kernel_rfl), hall 14 (by kernel_rfl), hall 15 (by kernel_rfl), hall 16 (by kernel_rfl), hall 17 (by kernel_rfl), hall 18 (by kernel_rfl), hall 19 (by kernel_rfl), hall 20 (by kernel_rfl), hall 21 (by kernel_rfl), hall 22 (by kernel_rfl), hall 23 (by kernel_rfl), hall 24 (by kernel_rfl), hall 25 (by kernel_rfl), hall 26 (by kernel_rfl), hall 27 (by kernel_rfl), hall 28 (by kernel_rfl), hall 29 (by kernel_rfl), hall 30 (by kernel_rfl), hall 31 (by kernel_rfl)]) (by rw [ha]; exact (putSel_size b _ a0).2) (by rw [ha]; exact putSel_on (e := (31, 59, .bool (!s))) 31 rfl rfl (hall 31 (by kernel_rfl)) (by rw [hsz]; rfl))
end Go.Proofs.YtipmphgkdomebaaDoor
namespace Go.Proofs.YtipmphgkdomebaaDoor
open Go.RowKit Go.Proofs.YtipmphgkdomebaaDoorW.PrintWords Go.Proofs.YtipmphgkdomebaaDoorW.PrintLast
set_option linter.unusedVariables false
set_option linter.unusedSimpArgs false
def as82xa.T : Bool × List (List Nat × List Nat) := (true, [([], []), ([0], [0]), ([], []), ([1, 2], [1, 2]), ([3], [3]), ([4], [4]), ([], []), ([6], [6]), ([], []), ([7, 8], [7, 8]), ([9], [9]), ([10], [10]), ([5, 11], [5, 11]), ([12], [12]), ([13], [13]), ([14, 13], [13, 14]), ([13], [13]), ([15, 16, 13], [13, 15, 16]), ([17, 13], [13, 17]), ([18, 13], [13, 18]), ([13], [13]), ([20, 13], [13, 20]), ([13], [13]), ([21, 22, 13], [13, 21, 22]), ([23, 13], [13, 23]), ([24, 13], [13, 24]), ([19, 25, 13, 13], [13, 19, 25]), ([26, 13], [13, 26]), ([13, 27], [13, 27])])
def as82xa.B : List Nat := [0, 1, 0, 7, 15, 31, 0, 64, 0, 448, 960, 1984, 4095, 8191, 16383, 32767, 16383, 131071, 262143, 524287, 16383, 1064959, 16383, 7356415, 15745023, 32522239, 67108863, 134217727, 268435455]
theorem as82xa.tab : rtab .any (opsOf Tryd.f82 6) = as82xa.T := by kernel_rfl
theorem as82xa.bits : waitsOk as82xa.T.2 as82xa.B = true := by kernel_rfl
set_option maxRecDepth 100000 in
set_option maxHeartbeats 4000000 in
theorem as82xa (w0 : World) (x1 x2 : EX) (ca1 ca2 cv1 cv2 : Nat) (V1 V2 : Option Addr) (P1 P2 : Option Addr) (t1 t2 : ByteArray) (hq : (t1.toList == t2.toList) = false) (n i b1 o1 b2 o2 : Nat) (n1 : x1.na = n) (n2 : x2.na = n) (q1 : (0 : Int) ≤ (i : Int)) (q2 : (i : Int) < (n : Int)) (d10 : w0.cell? ⟨b1, o1 + i * 8, none⟩ = some (.string t1)) (d20 : w0.cell? ⟨b2, o2 + i * 8, none⟩ = some (.string t2)) (a0 : Act) (s2 : a0.tmps[2]? = some (.pointer (some ⟨w0.heap.size, 0, none⟩))) (s3 : a0.tmps[3]? = some (.pointer (some ⟨w0.heap.size + 1, 0, none⟩))) (s5 : a0.tmps[5]? = some (.int .i64 (i : Int))) (hsz : a0.tmps.size = Tryd.f82.ntmps) (W : World) (hI : ExI w0 x1 x2 (some ⟨b1, o1, none⟩) ca1 P1 V1 cv1 (some ⟨b2, o2, none⟩) ca2 P2 V2 cv2 W.drew) (Q : Exit → Act → World → Prop) (hend : ∀ (a9 : Act) w', ExI w0 x1 x2 (some ⟨b1, o1, none⟩) ca1 P1 V1 cv1 (some ⟨b2, o2, none⟩) ca2 P2 V2 cv2 w' → a9 = putSel a0 (fun _ => true) [(0, 68, .pointer (some ⟨w0.heap.size, 4, none⟩)), (1, 69, .slice (some ⟨b1, o1, none⟩) x1.na ca1), (2, 70, .int .i64 (i : Int)), (3, 71, .pointer (some ⟨b1, o1 + i * 8, none⟩)), (4, 72, .pointer (some ⟨b1, o1 + i * 8, none⟩)), (5, 73, .string t1), (6, 74, .pointer (some ⟨w0.heap.size + 1, 4, none⟩)), (7, 75, .slice (some ⟨b2, o2, none⟩) x2.na ca2), (8, 76, .int .i64 (i : Int)), (9, 77, .pointer (some ⟨b2, o2 + i * 8, none⟩)), (10, 78, .pointer (some ⟨b2, o2 + i * 8, none⟩)), (11, 79, .string t2), (12, 80, .bool true), (13, 81, .bool true), (14, 82, undef), (15, 83, undef), (16, 84, undef), (17, 85, undef), (18, 86, undef), (19, 87, undef), (20, 88, undef), (21, 89, undef), (22, 90, undef), (23, 91, undef), (24, 92, undef), (25, 93, undef), (26, 94, undef), (27, 95, undef), (28, 96, .bool true)] → a9.defers = a0.defers → a9.tmps[96]? = some (.bool true) → Q .normal a9 w') :
    (Code.region 6 #[{ dst := some 68, op := Op.fieldAddr 40 (Operand.tmp 2) 4, type := 0, pos := "law.go:259", after := #[], guard := none }, { dst := some 69, op := Op.load 36 (Operand.tmp 68), type := 36, pos := "law.go:259", after := #[{ on := 0, ground := Ground.data }], guard := none }, { dst := some 70, op := Op.move (Operand.tmp 5), type := 3, pos := "law.go:259", after := #[], guard := none }, { dst := some 71, op := Op.indexAddr 36 (Operand.tmp 69) (Operand.tmp 70), type := 0, pos := "law.go:259", after := #[{ on := 1, ground := Ground.data }, { on := 2, ground := Ground.data }], guard := none }, { dst := some 72, op := Op.fieldAddr 77 (Operand.tmp 71) 0, type := 0, pos := "law.go:259", after := #[{ on := 3, ground := Ground.data }], guard := none }, { dst := some 73, op := Op.load 9 (Operand.tmp 72), type := 9, pos := "law.go:259", after := #[{ on := 4, ground := Ground.data }], guard := none }, { dst := some 74, op := Op.fieldAddr 40 (Operand.tmp 3) 4, type := 0, pos := "law.go:259", after := #[], guard := none }, { dst := some 75, op := Op.load 36 (Operand.tmp 74), type := 36, pos := "law.go:259", after := #[{ on := 6, ground := Ground.data }], guard := none }, { dst := some 76, op := Op.move (Operand.tmp 5), type := 3, pos := "law.go:259", after := #[], guard := none }, { dst := some 77, op := Op.indexAddr 36 (Operand.tmp 75) (Operand.tmp 76), type := 0, pos := "law.go:259", after := #[{ on := 7, ground := Ground.data }, { on := 8, ground := Ground.data }], guard := none }, { dst := some 78, op := Op.fieldAddr 77 (Operand.tmp 77) 0, type := 0, pos := "law.go:259", after := #[{ on := 9, ground := Ground.data }], guard := none }, { dst := some 79, op := Op.load 9 (Operand.tmp 78), type := 9, pos := "law.go:259", after := #[{ on := 10, ground := Ground.data }], guard := none }, { dst := some 80, op := Op.binOp BinOp.neq 9 (Operand.tmp 73) (Operand.tmp 79) 9, type := 4, pos := "law.go:259", after := #[{ on := 5, ground := Ground.data }, { on := 11, ground := Ground.data }], guard := none }, { dst := some 81, op := Op.move (Operand.tmp 80), type := 4, pos := "law.go:259", after := #[{ on := 12, ground := Ground.data }], guard := none }, { dst := some 82, op := Op.fieldAddr 40 (Operand.tmp 2) 4, type := 0, pos := "law.go:259", after := #[{ on := 13, ground := Ground.guard }], guard := some (13, false) }, { dst := some 83, op := Op.load 36 (Operand.tmp 82), type := 36, pos := "law.go:259", after := #[{ on := 14, ground := Ground.data }, { on := 13, ground := Ground.guard }], guard := some (13, false) }, { dst := some 84, op := Op.move (Operand.tmp 5), type := 3, pos := "law.go:259", after := #[{ on := 13, ground := Ground.guard }], guard := some (13, false) }, { dst := some 85, op := Op.indexAddr 36 (Operand.tmp 83) (Operand.tmp 84), type := 0, pos := "law.go:259", after := #[{ on := 15, ground := Ground.data }, { on := 16, ground := Ground.data }, { on := 13, ground := Ground.guard }], guard := some (13, false) }, { dst := some 86, op := Op.fieldAddr 77 (Operand.tmp 85) 1, type := 0, pos := "law.go:259", after := #[{ on := 17, ground := Ground.data }, { on := 13, ground := Ground.guard }], guard := some (13, false) }, { dst := some 87, op := Op.load 40 (Operand.tmp 86), type := 40, pos := "law.go:259", after := #[{ on := 18, ground := Ground.data }, { on := 13, ground := Ground.guard }], guard := some (13, false) }, { dst := some 88, op := Op.fieldAddr 40 (Operand.tmp 3) 4, type := 0, pos := "law.go:259", after := #[{ on := 13, ground := Ground.guard }], guard := some (13, false) }, { dst := some 89, op := Op.load 36 (Operand.tmp 88), type := 36, pos := "law.go:259", after := #[{ on := 20, ground := Ground.data }, { on := 13, ground := Ground.guard }], guard := some (13, false) }, { dst := some 90, op := Op.move (Operand.tmp 5), type := 3, pos := "law.go:259", after := #[{ on := 13, ground := Ground.guard }], guard := some (13, false) }, { dst := some 91, op := Op.indexAddr 36 (Operand.tmp 89) (Operand.tmp 90), type := 0, pos := "law.go:259", after := #[{ on := 21, ground := Ground.data }, { on := 22, ground := Ground.data }, { on := 13, ground := Ground.guard }], guard := some (13, false) }, { dst := some 92, op := Op.fieldAddr 77 (Operand.tmp 91) 1, type := 0, pos := "law.go:259", after := #[{ on := 23, ground := Ground.data }, { on := 13, ground := Ground.guard }], guard := some (13, false) }, { dst := some 93, op := Op.load 40 (Operand.tmp 92), type := 40, pos := "law.go:259", after := #[{ on := 24, ground := Ground.data }, { on := 13, ground := Ground.guard }], guard := some (13, false) }, { dst := some 94, op := Op.call { callee := Callee.value (Operand.func 82), args := #[Operand.tmp 87, Operand.tmp 93], argTypes := #[40, 40] }, type := 4, pos := "law.go:259", after := #[{ on := 19, ground := Ground.data }, { on := 25, ground := Ground.data }, { on := 13, ground := Ground.chain }, { on := 13, ground := Ground.guard }], guard := some (13, false) }, { dst := some 95, op := Op.unOp UnOp.not 4 (Operand.tmp 94), type := 4, pos := "law.go:259", after := #[{ on := 26, ground := Ground.data }, { on := 13, ground := Ground.guard }], guard := some (13, false) }, { dst := some 96, op := Op.pick (Operand.tmp 81) (Operand.const (Value.bool true)) (Operand.tmp 95), type := 4, pos := "law.go:259", after := #[{ on := 13, ground := Ground.data }, { on := 27, ground := Ground.data }], guard := none }] true).wp Tryd.prog Q a0 W := by
  refine start_ (n := 29) (S := fun w' => True) (ds := []) #[false, false, false, false, false, false, false, false, false, false, false, false, false, false, false, false, false, false, false, false, false, false, false, false, false, false, false, false, false] (by kernel_rfl) rfl rfl trivial (fun hHeld => ?_)
  refine with_tabW as82xa.tab as82xa.bits (fun HT_ HW_ => ?_)
  refine inv_at [0, 1, 2, 3, 4, 5, 6, 7, 8, 9, 10, 11, 12, 13, 14, 15, 16, 17, 18, 19, 20, 21, 22, 23, 24, 25, 26, 27, 28] (fun a0_ b a w' => a = putSel a0_ b [(0, 68, .pointer (some ⟨w0.heap.size, 4, none⟩)), (1, 69, .slice (some ⟨b1, o1, none⟩) x1.na ca1), (2, 70, .int .i64 (i : Int)), (3, 71, .pointer (some ⟨b1, o1 + i * 8, none⟩)), (4, 72, .pointer (some ⟨b1, o1 + i * 8, none⟩)), (5, 73, .string t1), (6, 74, .pointer (some ⟨w0.heap.size + 1, 4, none⟩)), (7, 75, .slice (some ⟨b2, o2, none⟩) x2.na ca2), (8, 76, .int .i64 (i : Int)), (9, 77, .pointer (some ⟨b2, o2 + i * 8, none⟩)), (10, 78, .pointer (some ⟨b2, o2 + i * 8, none⟩)), (11, 79, .string t2), (12, 80, .bool true), (13, 81, .bool true), (14, 82, undef), (15, 83, undef), (16, 84, undef), (17, 85, undef), (18, 86, undef), (19, 87, undef), (20, 88, undef), (21, 89, undef), (22, 90, undef), (23, 91, undef), (24, 92, undef), (25, 93, undef), (26, 94, undef), (27, 95, undef), (28, 96, .bool true)] ∧ (ExI w0 x1 x2 (some ⟨b1, o1, none⟩) ca1 P1 V1 cv1 (some ⟨b2, o2, none⟩) ca2 P2 V2 cv2 w')) HT_.out HW_.out (by kernel_rfl) (by kernel_rfl) ?_ ?_ ?_
  · exact ⟨(by simp only [putSel, Bool.false_eq_true, if_false]), hI⟩
  · clear hI hend hHeld
    refine steps_cons ?_ ?_
    · rintro b a w' ⟨ha, hI⟩ hb_ hon hoff
      refine ⟨_, rfl, fun K hK => ?_⟩
      have e2 : a.tmps[2]? = some (.pointer (some ⟨w0.heap.size, 0, none⟩)) := by rw [ha]; exact (putSel_off rfl).trans s2
      replace ha := Aside0.mk ha
      refine value_ (w1 := w') (v := .pointer (some ⟨w0.heap.size, 4, none⟩)) (by rfl) rfl ?_ ?_
      · go_simp; try rfl
        all_goals (try (simp only [IntKind.wrap_i64]; omega))
      exact hK.out _ _ ⟨(by rw [ha.out]; exact putSel_upk 0 hb_ rfl rfl rfl), hI⟩
    refine steps_cons ?_ ?_
    · rintro b a w' ⟨ha, hI⟩ hb_ hon hoff
      refine ⟨_, rfl, fun K hK => ?_⟩
      have e68 : a.tmps[68]? = some (.pointer (some ⟨w0.heap.size, 4, none⟩)) := by rw [ha]; exact putSel_on (e := (0, 68, .pointer (some ⟨w0.heap.size, 4, none⟩))) 0 rfl rfl (hon 0 (by kernel_rfl)) (by rw [hsz]; rfl)
      replace ha := Aside0.mk ha
      have m0 := Own.c hI 1 4 rfl rfl
      refine value_ (w1 := w') (v := .slice (some ⟨b1, o1, none⟩) x1.na ca1) (by rfl) rfl ?_ ?_
      · go_simp; try rfl
        all_goals (try (simp only [IntKind.wrap_i64]; omega))
      exact hK.out _ _ ⟨(by rw [ha.out]; exact putSel_upk 1 hb_ rfl rfl rfl), hI⟩
    refine steps_cons ?_ ?_
    · rintro b a w' ⟨ha, hI⟩ hb_ hon hoff
      refine ⟨_, rfl, fun K hK => ?_⟩
      have e5 : a.tmps[5]? = some (.int .i64 (i : Int)) := by rw [ha]; exact (putSel_off rfl).trans s5
      replace ha := Aside0.mk ha
      refine value_ (w1 := w') (v := .int .i64 (i : Int)) (by rfl) rfl ?_ ?_
      · go_simp; try rfl
        all_goals (try (simp only [IntKind.wrap_i64]; omega))
      exact hK.out _ _ ⟨(by rw [ha.out]; exact putSel_upk 2 hb_ rfl rfl rfl), hI⟩
    refine steps_cons ?_ ?_
    · rintro b a w' ⟨ha, hI⟩ hb_ hon hoff
      refine ⟨_, rfl, fun K hK => ?_⟩
      have e69 : a.tmps[69]? = some (.slice (some ⟨b1, o1, none⟩) x1.na ca1) := by rw [ha]; exact putSel_on (e := (1, 69, .slice (some ⟨b1, o1, none⟩) x1.na ca1)) 1 rfl rfl (hon 1 (by kernel_rfl)) (by rw [hsz]; rfl)
      have e70 : a.tmps[70]? = some (.int .i64 (i : Int)) := by rw [ha]; exact putSel_on (e := (2, 70, .int .i64 (i : Int))) 2 rfl rfl (hon 2 (by kernel_rfl)) (by rw [hsz]; rfl)
      replace ha := Aside0.mk ha
      refine value_ (w1 := w') (v := .pointer (some ⟨b1, o1 + i * 8, none⟩)) (by rfl) rfl ?_ ?_
      · go_simp; try rfl
        all_goals (try (simp only [IntKind.wrap_i64]; omega))
      exact hK.out _ _ ⟨(by rw [ha.out]; exact putSel_upk 3 hb_ rfl rfl rfl), hI⟩
    refine steps_cons ?_ ?_
    · rintro b a w' ⟨ha, hI⟩ hb_ hon hoff
      refine ⟨_, rfl, fun K hK => ?_⟩
      have e71 : a.tmps[71]? = some (.pointer (some ⟨b1, o1 + i * 8, none⟩)) := by rw [ha]; exact putSel_on (e := (3, 71, .pointer (some ⟨b1, o1 + i * 8, none⟩))) 3 rfl rfl (hon 3 (by kernel_rfl)) (by rw [hsz]; rfl)
      replace ha := Aside0.mk ha
      refine value_ (w1 := w') (v := .pointer (some ⟨b1, o1 + i * 8, none⟩)) (by rfl) rfl ?_ ?_
      · go_simp; try rfl
        all_goals (try (simp only [IntKind.wrap_i64]; omega))
      exact hK.out _ _ ⟨(by rw [ha.out]; exact putSel_upk 4 hb_ rfl rfl rfl), hI⟩
    refine steps_cons ?_ ?_
    · rintro b a w' ⟨ha, hI⟩ hb_ hon hoff
      refine ⟨_, rfl, fun K hK => ?_⟩
      have e72 : a.tmps[72]? = some (.pointer (some ⟨b1, o1 + i * 8, none⟩)) := by rw [ha]; exact putSel_on (e := (4, 72, .pointer (some ⟨b1, o1 + i * 8, none⟩))) 4 rfl rfl (hon 4 (by kernel_rfl)) (by rw [hsz]; rfl)
      replace ha := Aside0.mk ha
      have m0 := Kept.of (Own.bel hI) _ _ _ d10
      refine value_ (w1 := w') (v := .string t1) (by rfl) rfl ?_ ?_
      · go_simp; try rfl
        all_goals (try (simp only [IntKind.wrap_i64]; omega))
      exact hK.out _ _ ⟨(by rw [ha.out]; exact putSel_upk 5 hb_ rfl rfl rfl), hI⟩
    refine steps_cons ?_ ?_
    · rintro b a w' ⟨ha, hI⟩ hb_ hon hoff
      refine ⟨_, rfl, fun K hK => ?_⟩
      have e3 : a.tmps[3]? = some (.pointer (some ⟨w0.heap.size + 1, 0, none⟩)) := by rw [ha]; exact (putSel_off rfl).trans s3
      replace ha := Aside0.mk ha
      refine value_ (w1 := w') (v := .pointer (some ⟨w0.heap.size + 1, 4, none⟩)) (by rfl) rfl ?_ ?_
      · go_simp; try rfl
        all_goals (try (simp only [IntKind.wrap_i64]; omega))
      exact hK.out _ _ ⟨(by rw [ha.out]; exact putSel_upk 6 hb_ rfl rfl rfl), hI⟩
    refine steps_cons ?_ ?_
    · rintro b a w' ⟨ha, hI⟩ hb_ hon hoff
      refine ⟨_, rfl, fun K hK => ?_⟩
      have e74 : a.tmps[74]? = some (.pointer (some ⟨w0.heap.size + 1, 4, none⟩)) := by rw [ha]; exact putSel_on (e := (6, 74, .pointer (some ⟨w0.heap.size + 1, 4, none⟩))) 6 rfl rfl (hon 6 (by kernel_rfl)) (by rw [hsz]; rfl)
      replace ha := Aside0.mk ha
      have m0 := Own.c hI 0 4 rfl rfl
      refine value_ (w1 := w') (v := .slice (some ⟨b2, o2, none⟩) x2.na ca2) (by rfl) rfl ?_ ?_
      · go_simp; try rfl
        all_goals (try (simp only [IntKind.wrap_i64]; omega))
      exact hK.out _ _ ⟨(by rw [ha.out]; exact putSel_upk 7 hb_ rfl rfl rfl), hI⟩
    refine steps_cons ?_ ?_
    · rintro b a w' ⟨ha, hI⟩ hb_ hon hoff
      refine ⟨_, rfl, fun K hK => ?_⟩
      have e5 : a.tmps[5]? = some (.int .i64 (i : Int)) := by rw [ha]; exact (putSel_off rfl).trans s5
      replace ha := Aside0.mk ha
      refine value_ (w1 := w') (v := .int .i64 (i : Int)) (by rfl) rfl ?_ ?_
      · go_simp; try rfl
        all_goals (try (simp only [IntKind.wrap_i64]; omega))
      exact hK.out _ _ ⟨(by rw [ha.out]; exact putSel_upk 8 hb_ rfl rfl rfl), hI⟩
    refine steps_cons ?_ ?_
    · rintro b a w' ⟨ha, hI⟩ hb_ hon hoff
      refine ⟨_, rfl, fun K hK => ?_⟩
      have e75 : a.tmps[75]? = some (.slice (some ⟨b2, o2, none⟩) x2.na ca2) := by rw [ha]; exact putSel_on (e := (7, 75, .slice (some ⟨b2, o2, none⟩) x2.na ca2)) 7 rfl rfl (hon 7 (by kernel_rfl)) (by rw [hsz]; rfl)
      have e76 : a.tmps[76]? = some (.int .i64 (i : Int)) := by rw [ha]; exact putSel_on (e := (8, 76, .int .i64 (i : Int))) 8 rfl rfl (hon 8 (by kernel_rfl)) (by rw [hsz]; rfl)
      replace ha := Aside0.mk ha
      refine value_ (w1 := w') (v := .pointer (some ⟨b2, o2 + i * 8, none⟩)) (by rfl) rfl ?_ ?_
      · go_simp; try rfl
        all_goals (try (simp only [IntKind.wrap_i64]; omega))
      exact hK.out _ _ ⟨(by rw [ha.out]; exact putSel_upk 9 hb_ rfl rfl rfl), hI⟩
    refine steps_cons ?_ ?_
    · rintro b a w' ⟨ha, hI⟩ hb_ hon hoff
      refine ⟨_, rfl, fun K hK => ?_⟩
      have e77 : a.tmps[77]? = some (.pointer (some ⟨b2, o2 + i * 8, none⟩)) := by rw [ha]; exact putSel_on (e := (9, 77, .pointer (some ⟨b2, o2 + i * 8, none⟩))) 9 rfl rfl (hon 9 (by kernel_rfl)) (by rw [hsz]; rfl)
      replace ha := Aside0.mk ha
      refine value_ (w1 := w') (v := .pointer (some ⟨b2, o2 + i * 8, none⟩)) (by rfl) rfl ?_ ?_
      · go_simp; try rfl
        all_goals (try (simp only [IntKind.wrap_i64]; omega))
      exact hK.out _ _ ⟨(by rw [ha.out]; exact putSel_upk 10 hb_ rfl rfl rfl), hI⟩
    refine steps_cons ?_ ?_
    · rintro b a w' ⟨ha, hI⟩ hb_ hon hoff
      refine ⟨_, rfl, fun K hK => ?_⟩
      have e78 : a.tmps[78]? = some (.pointer (some ⟨b2, o2 + i * 8, none⟩)) := by rw [ha]; exact putSel_on (e := (10, 78, .pointer (some ⟨b2, o2 + i * 8, none⟩))) 10 rfl rfl (hon 10 (by kernel_rfl)) (by rw [hsz]; rfl)
      replace ha := Aside0.mk ha
      have m0 := Kept.of (Own.bel hI) _ _ _ d20
      refine value_ (w1 := w') (v := .string t2) (by rfl) rfl ?_ ?_
      · go_simp; try rfl
        all_goals (try (simp only [IntKind.wrap_i64]; omega))
      exact hK.out _ _ ⟨(by rw [ha.out]; exact putSel_upk 11 hb_ rfl rfl rfl), hI⟩
    refine steps_cons ?_ ?_
    · rintro b a w' ⟨ha, hI⟩ hb_ hon hoff
      refine ⟨_, rfl, fun K hK => ?_⟩
      have e73 : a.tmps[73]? = some (.string t1) := by rw [ha]; exact putSel_on (e := (5, 73, .string t1)) 5 rfl rfl (hon 5 (by kernel_rfl)) (by rw [hsz]; rfl)
      have e79 : a.tmps[79]? = some (.string t2) := by rw [ha]; exact putSel_on (e := (11, 79, .string t2)) 11 rfl rfl (hon 11 (by kernel_rfl)) (by rw [hsz]; rfl)
      replace ha := Aside0.mk ha
      refine value_ (w1 := w') (v := .bool true) (by rfl) rfl ?_ ?_
      · go_simp; try rfl
        all_goals (try (simp only [IntKind.wrap_i64]; omega))
      exact hK.out _ _ ⟨(by rw [ha.out]; exact putSel_upk 12 hb_ rfl rfl rfl), hI⟩
    refine steps_cons ?_ ?_
    · rintro b a w' ⟨ha, hI⟩ hb_ hon hoff
      refine ⟨_, rfl, fun K hK => ?_⟩
      have e80 : a.tmps[80]? = some (.bool true) := by rw [ha]; exact putSel_on (e := (12, 80, .bool true)) 12 rfl rfl (hon 12 (by kernel_rfl)) (by rw [hsz]; rfl)
      replace ha := Aside0.mk ha
      refine value_ (w1 := w') (v := .bool true) (by rfl) rfl ?_ ?_
      · go_simp; try rfl
        all_goals (try (simp only [IntKind.wrap_i64]; omega))
      exact hK.out _ _ ⟨(by rw [ha.out]; exact putSel_upk 13 hb_ rfl rfl rfl), hI⟩
    refine steps_cons ?_ ?_
    · rintro b a w' ⟨ha, hI⟩ hb_ hon hoff
      refine ⟨_, rfl, fun K hK => ?_⟩
      have e81 : a.tmps[81]? = some (.bool true) := by rw [ha]; exact putSel_on (e := (13, 81, .bool true)) 13 rfl rfl (hon 13 (by kernel_rfl)) (by rw [hsz]; rfl)
      exact off_ (wanted_off rfl rfl rfl e81) (hK.out _ _ ⟨(by rw [ha]; exact putSel_upk 14 hb_ rfl rfl rfl), hI⟩)
    refine steps_cons ?_ ?_
    · rintro b a w' ⟨ha, hI⟩ hb_ hon hoff
      refine ⟨_, rfl, fun K hK => ?_⟩
      have e81 : a.tmps[81]? = some (.bool true) := by rw [ha]; exact putSel_on (e := (13, 81, .bool true)) 13 rfl rfl (hon 13 (by kernel_rfl)) (by rw [hsz]; rfl)
      exact off_ (wanted_off rfl rfl rfl e81) (hK.out _ _ ⟨(by rw [ha]; exact putSel_upk 15 hb_ rfl rfl rfl), hI⟩)
    refine steps_cons ?_ ?_
    · rintro b a w' ⟨ha, hI⟩ hb_ hon hoff
      refine ⟨_, rfl, fun K hK => ?_⟩
      have e81 : a.tmps[81]? = some (.bool true) := by rw [ha]; exact putSel_on (e := (13, 81, .bool true)) 13 rfl rfl (hon 13 (by kernel_rfl)) (by rw [hsz]; rfl)
      exact off_ (wanted_off rfl rfl rfl e81) (hK.out _ _ ⟨(by rw [ha]; exact putSel_upk 16 hb_ rfl rfl rfl), hI⟩)
    refine steps_cons ?_ ?_
    · rintro b a w' ⟨ha, hI⟩ hb_ hon hoff
      refine ⟨_, rfl, fun K hK => ?_⟩
      have e81 : a.tmps[81]? = some (.bool true) := by rw [ha]; exact putSel_on (e := (13, 81, .bool true)) 13 rfl rfl (hon 13 (by kernel_rfl)) (by rw [hsz]; rfl)
      exact off_ (wanted_off rfl rfl rfl e81) (hK.out _ _ ⟨(by rw [ha]; exact putSel_upk 17 hb_ rfl rfl rfl), hI⟩)
    refine steps_cons ?_ ?_
    · rintro b a w' ⟨ha, hI⟩ hb_ hon hoff
      refine ⟨_, rfl, fun K hK => ?_⟩
      have e81 : a.tmps[81]? = some (.bool true) := by rw [ha]; exact putSel_on (e := (13, 81, .bool true)) 13 rfl rfl (hon 13 (by kernel_rfl)) (by rw [hsz]; rfl)
      exact off_ (wanted_off rfl rfl rfl e81) (hK.out _ _ ⟨(by rw [ha]; exact putSel_upk 18 hb_ rfl rfl rfl), hI⟩)
    refine steps_cons ?_ ?_
    · rintro b a w' ⟨ha, hI⟩ hb_ hon hoff
      refine ⟨_, rfl, fun K hK => ?_⟩
      have e81 : a.tmps[81]? = some (.bool true) := by rw [ha]; exact putSel_on (e := (13, 81, .bool true)) 13 rfl rfl (hon 13 (by kernel_rfl)) (by rw [hsz]; rfl)
      exact off_ (wanted_off rfl rfl rfl e81) (hK.out _ _ ⟨(by rw [ha]; exact putSel_upk 19 hb_ rfl rfl rfl), hI⟩)
    refine steps_cons ?_ ?_
    · rintro b a w' ⟨ha, hI⟩ hb_ hon hoff
      refine ⟨_, rfl, fun K hK => ?_⟩
      have e81 : a.tmps[81]? = some (.bool true) := by rw [ha]; exact putSel_on (e := (13, 81, .bool true)) 13 rfl rfl (hon 13 (by kernel_rfl)) (by rw [hsz]; rfl)
      exact off_ (wanted_off rfl rfl rfl e81) (hK.out _ _ ⟨(by rw [ha]; exact putSel_upk 20 hb_ rfl rfl rfl), hI⟩)
    refine steps_cons ?_ ?_
    · rintro b a w' ⟨ha, hI⟩ hb_ hon hoff
      refine ⟨_, rfl, fun K hK => ?_⟩
      have e81 : a.tmps[81]? = some (.bool true) := by rw [ha]; exact putSel_on (e := (13, 81, .bool true)) 13 rfl rfl (hon 13 (by kernel_rfl)) (by rw [hsz]; rfl)
      exact off_ (wanted_off rfl rfl rfl e81) (hK.out _ _ ⟨(by rw [ha]; exact putSel_upk 21 hb_ rfl rfl rfl), hI⟩)
    refine steps_cons ?_ ?_
    · rintro b a w' ⟨ha, hI⟩ hb_ hon hoff
      refine ⟨_, rfl, fun K hK => ?_⟩
      have e81 : a.tmps[81]? = some (.bool true) := by rw [ha]; exact putSel_on (e := (13, 81, .bool true)) 13 rfl rfl (hon 13 (by kernel_rfl)) (by rw [hsz]; rfl)
      exact off_ (wanted_off rfl rfl rfl e81) (hK.out _ _ ⟨(by rw [ha]; exact putSel_upk 22 hb_ rfl rfl rfl), hI⟩)
    refine steps_cons ?_ ?_
    · rintro b a w' ⟨ha, hI⟩ hb_ hon hoff
      refine ⟨_, rfl, fun K hK => ?_⟩
      have e81 : a.tmps[81]? = some (.bool true) := by rw [ha]; exact putSel_on (e := (13, 81, .bool true)) 13 rfl rfl (hon 13 (by kernel_rfl)) (by rw [hsz]; rfl)
      exact off_ (wanted_off rfl rfl rfl e81) (hK.out _ _ ⟨(by rw [ha]; exact putSel_upk 23 hb_ rfl rfl rfl), hI⟩)
    refine steps_cons ?_ ?_
    · rintro b a w' ⟨ha, hI⟩ hb_ hon hoff
      refine ⟨_, rfl, fun K hK => ?_⟩
      have e81 : a.tmps[81]? = some (.bool true) := by rw [ha]; exact putSel_on (e := (13, 81, .bool true)) 13 rfl rfl (hon 13 (by kernel_rfl)) (by rw [hsz]; rfl)
      exact off_ (wanted_off rfl rfl rfl e81) (hK.out _ _ ⟨(by rw [ha]; exact putSel_upk 24 hb_ rfl rfl rfl), hI⟩)
    refine steps_cons ?_ ?_
    · rintro b a w' ⟨ha, hI⟩ hb_ hon hoff
      refine ⟨_, rfl, fun K hK => ?_⟩
      have e81 : a.tmps[81]? = some (.bool true) := by rw [ha]; exact putSel_on (e := (13, 81, .bool true)) 13 rfl rfl (hon 13 (by kernel_rfl)) (by rw [hsz]; rfl)
      exact off_ (wanted_off rfl rfl rfl e81) (hK.out _ _ ⟨(by rw [ha]; exact putSel_upk 25 hb_ rfl rfl rfl), hI⟩)
    refine steps_cons ?_ ?_
    · rintro b a w' ⟨ha, hI⟩ hb_ hon hoff
      refine ⟨_, rfl, fun K hK => ?_⟩
      have e81 : a.tmps[81]? = some (.bool true) := by rw [ha]; exact putSel_on (e := (13, 81, .bool true)) 13 rfl rfl (hon 13 (by kernel_rfl)) (by rw [hsz]; rfl)
      exact off_ (wanted_off rfl rfl rfl e81) (hK.out _ _ ⟨(by rw [ha]; exact putSel_upk 26 hb_ rfl rfl rfl), hI⟩)
    refine steps_cons ?_ ?_
    · rintro b a w' ⟨ha, hI⟩ hb_ hon hoff
      refine ⟨_, rfl, fun K hK => ?_⟩
      have e81 : a.tmps[81]? = some (.bool true) := by rw [ha]; exact putSel_on (e := (13, 81, .bool true)) 13 rfl rfl (hon 13 (by kernel_rfl)) (by rw [hsz]; rfl)
      exact off_ (wanted_off rfl rfl rfl e81) (hK.out _ _ ⟨(by rw [ha]; exact putSel_upk 27 hb_ rfl rfl rfl), hI⟩)
    refine steps_cons ?_ ?_
    · rintro b a w' ⟨ha, hI⟩ hb_ hon hoff
      refine ⟨_, rfl, fun K hK => ?_⟩
      have e81 : a.tmps[81]? = some (.bool true) := by rw [ha]; exact putSel_on (e := (13, 81, .bool true)) 13 rfl rfl (hon 13 (by kernel_rfl)) (by rw [hsz]; rfl)
      have e95 : a.tmps[95]? = some (undef) := by rw [ha]; exact putSel_on (e := (27, 95, undef)) 27 rfl rfl (hon 27 (by kernel_rfl)) (by rw [hsz]; rfl)
      replace ha := Aside0.mk ha
      refine value_ (w1 := w') (v := .bool true) (by rfl) rfl ?_ ?_
      · go_simp; try rfl
        all_goals (try (simp only [IntKind.wrap_i64]; omega))
      exact hK.out _ _ ⟨(by rw [ha.out]; exact putSel_upk 28 hb_ rfl rfl rfl), hI⟩
    exact steps_nil
  rintro b a w1 hall ⟨ha, hI1⟩
  exact hend a w1 hI1 (by rw [ha]; simp only [putSel, if_true, hall 0 (by kernel_rfl), hall 1 (by kernel_rfl), hall 2 (by kernel_rfl), hall 3 (by kernel_rfl), hall 4 (by kernel_rfl), hall 5 (by kernel_rfl), hall 6 (by kernel_rfl), hall 7 (by kernel_rfl), hall 8 (by kernel_rfl), hall 9 (by kernel_rfl), hall 10 (by kernel_rfl), hall 11 (by kernel_rfl), hall 12 (by kernel_rfl), hall 13 (by kernel_rfl), hall 14 (by kernel_rfl), hall 15 (by kernel_rfl), hall 16 (by kernel_rfl), hall 17 (by kernel_rfl), hall 18 (by kernel_rfl), hall 19 (by kernel_rfl), hall 20 (by kernel_rfl), hall 21 (by kernel_rfl), hall 22 (by kernel_rfl), hall 23 (by kernel_rfl), hall 24 (by kernel_rfl), hall 25 (by kernel_rfl), hall 26 (by kernel_rfl), hall 27 (by kernel_rfl), hall 28 (by kernel_rfl)]) (by rw [ha]; exact (putSel_size b _ a0).2) (by rw [ha]; exact putSel_on (e := (28, 96, .bool true)) 28 rfl rfl (hall 28 (by kernel_rfl)) (by rw [hsz]; rfl))
end Go.Proofs.YtipmphgkdomebaaDoor
