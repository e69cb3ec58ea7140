/- Whatever two entries: whether they are the same, wherever they stand, as the page says; each is the same as itself; for every input. (Text 2 of 6: what the law's proof rests on, joined; walks printed by the kit's print over given contracts, walks and plain laws by hand.) -/
import Derived.Test.YtipmphgkdomebaaDoorAss0
namespace Go.Proofs.YtipmphgkdomebaaDoor
open Go.RowKit Go.Proofs.YtipmphgkdomebaaDoorW.PrintWords Go.Proofs.YtipmphgkdomebaaDoorW.PrintLast
set_option linter.unusedVariables false
set_option linter.unusedSimpArgs false
def as80bn.T : Bool × List (List Nat × List Nat) := (true, [([], []), ([0], [0]), ([], []), ([2], [2]), ([1, 3], [1, 3]), ([4], [4]), ([5], [5]), ([6, 5], [5, 6]), ([7, 5], [5, 7]), ([5], [5]), ([9, 5], [5, 9]), ([10, 5], [5, 10]), ([8, 11, 5], [5, 8, 11]), ([5, 12], [5, 12]), ([13, 5], [13]), ([14], [14]), ([15, 14], [14, 15]), ([16, 14], [14, 16]), ([17, 14, 14], [14, 17]), ([18], [18]), ([19, 18], [18, 19]), ([20, 18], [18, 20]), ([21, 18], [18, 21]), ([18], [18]), ([23, 18], [18, 23]), ([24, 18], [18, 24]), ([25, 18], [18, 25]), ([22, 26, 18, 18], [18, 22, 26]), ([18, 27, 14], [14, 18, 27]), ([14, 28], [14, 28]), ([29, 27, 0, 1, 2, 3, 4, 5, 6, 7, 8, 9, 10, 11, 12, 13, 14, 15, 16, 17, 18, 19, 20, 21, 22, 23, 24, 25, 26, 27, 28, 29], [29])])
def as80bn.B : List Nat := [0, 1, 0, 4, 15, 31, 63, 127, 255, 63, 575, 1599, 4095, 8191, 16383, 32767, 65535, 131071, 262143, 524287, 1048575, 2097151, 4194303, 524287, 8912895, 25690111, 59244543, 134217727, 268435455, 536870911, 1073741823]
theorem as80bn.tab : rtab .any (opsOf Tryd.f80 1) = as80bn.T := by kernel_rfl
theorem as80bn.bits : waitsOk as80bn.T.2 as80bn.B = true := by kernel_rfl
set_option maxRecDepth 100000 in
set_option maxHeartbeats 4000000 in
theorem as80bn (w0 : World) (t1 t2 : ByteArray) (hq : (t1.toList == t2.toList) = true) (b2 o2 : Nat) (a0 : Act) (s2 : a0.tmps[2]? = some (.pointer (some ⟨w0.heap.size, 0, none⟩))) (s3 : a0.tmps[3]? = some (.pointer (some ⟨w0.heap.size + 1, 0, none⟩))) (hsz : a0.tmps.size = Tryd.f80.ntmps) (W : World) (hI : ElI w0 t1 none t2 (some ⟨b2, o2, none⟩) W.drew) (Q : Exit → Act → World → Prop) (hend : ∀ (a9 : Act) w', ElI w0 t1 none t2 (some ⟨b2, o2, none⟩) w' → a9 = putSel a0 (fun _ => true) [(0, 5, .pointer (some ⟨w0.heap.size, 0, none⟩)), (1, 6, .string t1), (2, 7, .pointer (some ⟨w0.heap.size + 1, 0, none⟩)), (3, 8, .string t2), (4, 9, .bool true), (5, 10, .bool true), (6, 11, .pointer (some ⟨w0.heap.size, 1, none⟩)), (7, 12, .pointer none), (8, 13, .bool true), (9, 14, .pointer (some ⟨w0.heap.size + 1, 1, none⟩)), (10, 15, .pointer (some ⟨b2, o2, none⟩)), (11, 16, .bool false), (12, 17, .bool false), (13, 18, .bool false), (14, 19, .bool false), (15, 20, undef), (16, 21, undef), (17, 22, undef), (18, 23, undef), (19, 24, undef), (20, 25, undef), (21, 26, undef), (22, 27, undef), (23, 28, undef), (24, 29, undef), (25, 30, undef), (26, 31, undef), (27, 32, undef), (28, 33, undef), (29, 34, .bool false), (30, 4, .bool false)] → a9.defers = a0.defers → a9.tmps[4]? = some (.bool false) → Q .normal a9 w') :
    (Code.region 1 #[{ dst := some 5, op := Op.fieldAddr 42 (Operand.tmp 2) 0, type := 0, pos := "ast.go:88", after := #[], guard := none }, { dst := some 6, op := Op.load 9 (Operand.tmp 5), type := 9, pos := "ast.go:88", after := #[{ on := 0, ground := Ground.data }], guard := none }, { dst := some 7, op := Op.fieldAddr 42 (Operand.tmp 3) 0, type := 0, pos := "ast.go:88", after := #[], guard := none }, { dst := some 8, op := Op.load 9 (Operand.tmp 7), type := 9, pos := "ast.go:88", after := #[{ on := 2, ground := Ground.data }], guard := none }, { dst := some 9, op := Op.binOp BinOp.eql 9 (Operand.tmp 6) (Operand.tmp 8) 9, type := 4, pos := "ast.go:88", after := #[{ on := 1, ground := Ground.data }, { on := 3, ground := Ground.data }], guard := none }, { dst := some 10, op := Op.move (Operand.tmp 9), type := 4, pos := "ast.go:88", after := #[{ on := 4, ground := Ground.data }], guard := none }, { dst := some 11, op := Op.fieldAddr 42 (Operand.tmp 2) 1, type := 0, pos := "ast.go:88", after := #[{ on := 5, ground := Ground.guard }], guard := some (5, true) }, { dst := some 12, op := Op.load 37 (Operand.tmp 11), type := 37, pos := "ast.go:88", after := #[{ on := 6, ground := Ground.data }, { on := 5, ground := Ground.guard }], guard := some (5, true) }, { dst := some 13, op := Op.binOp BinOp.eql 37 (Operand.tmp 12) (Operand.const (Value.pointer none)) 37, type := 4, pos := "ast.go:88", after := #[{ on := 7, ground := Ground.data }, { on := 5, ground := Ground.guard }], guard := some (5, true) }, { dst := some 14, op := Op.fieldAddr 42 (Operand.tmp 3) 1, type := 0, pos := "ast.go:88", after := #[{ on := 5, ground := Ground.guard }], guard := some (5, true) }, { dst := some 15, op := Op.load 37 (Operand.tmp 14), type := 37, pos := "ast.go:88", after := #[{ on := 9, ground := Ground.data }, { on := 5, ground := Ground.guard }], guard := some (5, true) }, { dst := some 16, op := Op.binOp BinOp.eql 37 (Operand.tmp 15) (Operand.const (Value.pointer none)) 37, type := 4, pos := "ast.go:88", after := #[{ on := 10, ground := Ground.data }, { on := 5, ground := Ground.guard }], guard := some (5, true) }, { dst := some 17, op := Op.binOp BinOp.eql 4 (Operand.tmp 13) (Operand.tmp 16) 4, type := 4, pos := "ast.go:88", after := #[{ on := 8, ground := Ground.data }, { on := 11, ground := Ground.data }, { on := 5, ground := Ground.guard }], guard := some (5, true) }, { dst := some 18, op := Op.pick (Operand.tmp 10) (Operand.tmp 17) (Operand.const (Value.bool false)), type := 4, pos := "ast.go:88", after := #[{ on := 5, ground := Ground.data }, { on := 12, ground := Ground.data }], guard := none }, { dst := some 19, op := Op.move (Operand.tmp 18), type := 4, pos := "ast.go:88", after := #[{ on := 13, ground := Ground.data }, { on := 5, ground := Ground.chain }], guard := none }, { dst := some 20, op := Op.fieldAddr 42 (Operand.tmp 2) 1, type := 0, pos := "ast.go:88", after := #[{ on := 14, ground := Ground.guard }], guard := some (14, true) }, { dst := some 21, op := Op.load 37 (Operand.tmp 20), type := 37, pos := "ast.go:88", after := #[{ on := 15, ground := Ground.data }, { on := 14, ground := Ground.guard }], guard := some (14, true) }, { dst := some 22, op := Op.binOp BinOp.eql 37 (Operand.tmp 21) (Operand.const (Value.pointer none)) 37, type := 4, pos := "ast.go:88", after := #[{ on := 16, ground := Ground.data }, { on := 14, ground := Ground.guard }], guard := some (14, true) }, { dst := some 23, op := Op.move (Operand.tmp 22), type := 4, pos := "ast.go:88", after := #[{ on := 17, ground := Ground.data }, { on := 14, ground := Ground.chain }, { on := 14, ground := Ground.guard }], guard := some (14, true) }, { dst := some 24, op := Op.fieldAddr 42 (Operand.tmp 2) 1, type := 0, pos := "ast.go:88", after := #[{ on := 18, ground := Ground.guard }], guard := some (18, false) }, { dst := some 25, op := Op.load 37 (Operand.tmp 24), type := 37, pos := "ast.go:88", after := #[{ on := 19, ground := Ground.data }, { on := 18, ground := Ground.guard }], guard := some (18, false) }, { dst := some 26, op := Op.nilCheck (Operand.tmp 25), type := 0, pos := "ast.go:88", after := #[{ on := 20, ground := Ground.data }, { on := 18, ground := Ground.guard }], guard := some (18, false) }, { dst := some 27, op := Op.load 40 (Operand.tmp 26), type := 40, pos := "ast.go:88", after := #[{ on := 21, ground := Ground.data }, { on := 18, ground := Ground.guard }], guard := some (18, false) }, { dst := some 28, op := Op.fieldAddr 42 (Operand.tmp 3) 1, type := 0, pos := "ast.go:88", after := #[{ on := 18, ground := Ground.guard }], guard := some (18, false) }, { dst := some 29, op := Op.load 37 (Operand.tmp 28), type := 37, pos := "ast.go:88", after := #[{ on := 23, ground := Ground.data }, { on := 18, ground := Ground.guard }], guard := some (18, false) }, { dst := some 30, op := Op.nilCheck (Operand.tmp 29), type := 0, pos := "ast.go:88", after := #[{ on := 24, ground := Ground.data }, { on := 18, ground := Ground.guard }], guard := some (18, false) }, { dst := some 31, op := Op.load 40 (Operand.tmp 30), type := 40, pos := "ast.go:88", after := #[{ on := 25, ground := Ground.data }, { on := 18, ground := Ground.guard }], guard := some (18, false) }, { dst := some 32, op := Op.call { callee := Callee.value (Operand.func 81), args := #[Operand.tmp 27, Operand.tmp 31], argTypes := #[37, 40] }, type := 4, pos := "ast.go:88", after := #[{ on := 22, ground := Ground.data }, { on := 26, ground := Ground.data }, { on := 18, ground := Ground.chain }, { on := 18, ground := Ground.guard }], guard := some (18, false) }, { dst := some 33, op := Op.pick (Operand.tmp 23) (Operand.const (Value.bool true)) (Operand.tmp 32), type := 4, pos := "ast.go:88", after := #[{ on := 18, ground := Ground.data }, { on := 27, ground := Ground.data }, { on := 14, ground := Ground.guard }], guard := some (14, true) }, { dst := some 34, op := Op.pick (Operand.tmp 19) (Operand.tmp 33) (Operand.const (Value.bool false)), type := 4, pos := "ast.go:88", after := #[{ on := 14, ground := Ground.data }, { on := 28, ground := Ground.data }], guard := none }, { dst := some 4, op := Op.assign (Operand.tmp 34), type := 4, pos := "ast.go:88", after := #[{ on := 29, ground := Ground.data }, { on := 27, ground := Ground.chain }, { on := 0, ground := Ground.phase }, { on := 1, ground := Ground.phase }, { on := 2, ground := Ground.phase }, { on := 3, ground := Ground.phase }, { on := 4, ground := Ground.phase }, { on := 5, ground := Ground.phase }, { on := 6, ground := Ground.phase }, { on := 7, ground := Ground.phase }, { on := 8, ground := Ground.phase }, { on := 9, ground := Ground.phase }, { on := 10, ground := Ground.phase }, { on := 11, ground := Ground.phase }, { on := 12, ground := Ground.phase }, { on := 13, ground := Ground.phase }, { on := 14, ground := Ground.phase }, { on := 15, ground := Ground.phase }, { on := 16, ground := Ground.phase }, { on := 17, ground := Ground.phase }, { on := 18, ground := Ground.phase }, { on := 19, ground := Ground.phase }, { on := 20, ground := Ground.phase }, { on := 21, ground := Ground.phase }, { on := 22, ground := Ground.phase }, { on := 23, ground := Ground.phase }, { on := 24, ground := Ground.phase }, { on := 25, ground := Ground.phase }, { on := 26, ground := Ground.phase }, { on := 27, ground := Ground.phase }, { on := 28, ground := Ground.phase }, { on := 29, ground := Ground.phase }], guard := none }] true).wp Tryd.prog Q a0 W := by
  refine start_ (n := 31) (S := fun w' => True) (ds := []) #[false, false, false, false, false, false, false, false, false, false, false, false, false, false, false, false, false, false, false, false, false, false, false, false, false, false, false, false, false, false, false] (by kernel_rfl) rfl rfl trivial (fun hHeld => ?_)
  refine with_tabW as80bn.tab as80bn.bits (fun HT_ HW_ => ?_)
  refine inv_at [0, 1, 2, 3, 4, 5, 6, 7, 8, 9, 10, 11, 12, 13, 14, 15, 16, 17, 18, 19, 20, 21, 22, 23, 24, 25, 26, 27, 28, 29, 30] (fun a0_ b a w' => a = putSel a0_ b [(0, 5, .pointer (some ⟨w0.heap.size, 0, none⟩)), (1, 6, .string t1), (2, 7, .pointer (some ⟨w0.heap.size + 1, 0, none⟩)), (3, 8, .string t2), (4, 9, .bool true), (5, 10, .bool true), (6, 11, .pointer (some ⟨w0.heap.size, 1, none⟩)), (7, 12, .pointer none), (8, 13, .bool true), (9, 14, .pointer (some ⟨w0.heap.size + 1, 1, none⟩)), (10, 15, .pointer (some ⟨b2, o2, none⟩)), (11, 16, .bool false), (12, 17, .bool false), (13, 18, .bool false), (14, 19, .bool false), (15, 20, undef), (16, 21, undef), (17, 22, undef), (18, 23, undef), (19, 24, undef), (20, 25, undef), (21, 26, undef), (22, 27, undef), (23, 28, undef), (24, 29, undef), (25, 30, undef), (26, 31, undef), (27, 32, undef), (28, 33, undef), (29, 34, .bool false), (30, 4, .bool false)] ∧ (ElI w0 t1 none t2 (some ⟨b2, o2, none⟩) w')) HT_.out HW_.out (by kernel_rfl) (by kernel_rfl) ?_ ?_ ?_
  · exact ⟨(by simp only [putSel, Bool.false_eq_true, if_false]), hI⟩
  · clear hI hend hHeld
    refine steps_cons ?_ ?_
    · rintro b a w' ⟨ha, hI⟩ hb_ hon hoff
      refine ⟨_, rfl, fun K hK => ?_⟩
      have e2 : a.tmps[2]? = some (.pointer (some ⟨w0.heap.size, 0, none⟩)) := by rw [ha]; exact (putSel_off rfl).trans s2
      replace ha := Aside0.mk ha
      refine value_ (w1 := w') (v := .pointer (some ⟨w0.heap.size, 0, none⟩)) (by rfl) rfl ?_ ?_
      · go_simp; try rfl
        all_goals (try (simp only [IntKind.wrap_i64]; omega))
      exact hK.out _ _ ⟨(by rw [ha.out]; exact putSel_upk 0 hb_ rfl rfl rfl), hI⟩
    refine steps_cons ?_ ?_
    · rintro b a w' ⟨ha, hI⟩ hb_ hon hoff
      refine ⟨_, rfl, fun K hK => ?_⟩
      have e5 : a.tmps[5]? = some (.pointer (some ⟨w0.heap.size, 0, none⟩)) := by rw [ha]; exact putSel_on (e := (0, 5, .pointer (some ⟨w0.heap.size, 0, none⟩))) 0 rfl rfl (hon 0 (by kernel_rfl)) (by rw [hsz]; rfl)
      replace ha := Aside0.mk ha
      have m0 := Own.c hI 1 0 rfl rfl
      refine value_ (w1 := w') (v := .string t1) (by rfl) rfl ?_ ?_
      · go_simp; try rfl
        all_goals (try (simp only [IntKind.wrap_i64]; omega))
      exact hK.out _ _ ⟨(by rw [ha.out]; exact putSel_upk 1 hb_ rfl rfl rfl), hI⟩
    refine steps_cons ?_ ?_
    · rintro b a w' ⟨ha, hI⟩ hb_ hon hoff
      refine ⟨_, rfl, fun K hK => ?_⟩
      have e3 : a.tmps[3]? = some (.pointer (some ⟨w0.heap.size + 1, 0, none⟩)) := by rw [ha]; exact (putSel_off rfl).trans s3
      replace ha := Aside0.mk ha
      refine value_ (w1 := w') (v := .pointer (some ⟨w0.heap.size + 1, 0, none⟩)) (by rfl) rfl ?_ ?_
      · go_simp; try rfl
        all_goals (try (simp only [IntKind.wrap_i64]; omega))
      exact hK.out _ _ ⟨(by rw [ha.out]; exact putSel_upk 2 hb_ rfl rfl rfl), hI⟩
    refine steps_cons ?_ ?_
    · rintro b a w' ⟨ha, hI⟩ hb_ hon hoff
      refine ⟨_, rfl, fun K hK => ?_⟩
      have e7 : a.tmps[7]? = some (.pointer (some ⟨w0.heap.size + 1, 0, none⟩)) := by rw [ha]; exact putSel_on (e := (2, 7, .pointer (some ⟨w0.heap.size + 1, 0, none⟩))) 2 rfl rfl (hon 2 (by kernel_rfl)) (by rw [hsz]; rfl)
      replace ha := Aside0.mk ha
      have m0 := Own.c hI 0 0 rfl rfl
      refine value_ (w1 := w') (v := .string t2) (by rfl) rfl ?_ ?_
      · go_simp; try rfl
        all_goals (try (simp only [IntKind.wrap_i64]; omega))
      exact hK.out _ _ ⟨(by rw [ha.out]; exact putSel_upk 3 hb_ rfl rfl rfl), hI⟩
    refine steps_cons ?_ ?_
    · rintro b a w' ⟨ha, hI⟩ hb_ hon hoff
      refine ⟨_, rfl, fun K hK => ?_⟩
      have e6 : a.tmps[6]? = some (.string t1) := by rw [ha]; exact putSel_on (e := (1, 6, .string t1)) 1 rfl rfl (hon 1 (by kernel_rfl)) (by rw [hsz]; rfl)
      have e8 : a.tmps[8]? = some (.string t2) := by rw [ha]; exact putSel_on (e := (3, 8, .string t2)) 3 rfl rfl (hon 3 (by kernel_rfl)) (by rw [hsz]; rfl)
      replace ha := Aside0.mk ha
      refine value_ (w1 := w') (v := .bool true) (by rfl) rfl ?_ ?_
      · go_simp; try rfl
        all_goals (try (simp only [IntKind.wrap_i64]; omega))
      exact hK.out _ _ ⟨(by rw [ha.out]; exact putSel_upk 4 hb_ rfl rfl rfl), hI⟩
    refine steps_cons ?_ ?_
    · rintro b a w' ⟨ha, hI⟩ hb_ hon hoff
      refine ⟨_, rfl, fun K hK => ?_⟩
      have e9 : a.tmps[9]? = some (.bool true) := by rw [ha]; exact putSel_on (e := (4, 9, .bool true)) 4 rfl rfl (hon 4 (by kernel_rfl)) (by rw [hsz]; rfl)
      replace ha := Aside0.mk ha
      refine value_ (w1 := w') (v := .bool true) (by rfl) rfl ?_ ?_
      · go_simp; try rfl
        all_goals (try (simp only [IntKind.wrap_i64]; omega))
      exact hK.out _ _ ⟨(by rw [ha.out]; exact putSel_upk 5 hb_ rfl rfl rfl), hI⟩
    refine steps_cons ?_ ?_
    · rintro b a w' ⟨ha, hI⟩ hb_ hon hoff
      refine ⟨_, rfl, fun K hK => ?_⟩
      have e2 : a.tmps[2]? = some (.pointer (some ⟨w0.heap.size, 0, none⟩)) := by rw [ha]; exact (putSel_off rfl).trans s2
      have e10 : a.tmps[10]? = some (.bool true) := by rw [ha]; exact putSel_on (e := (5, 10, .bool true)) 5 rfl rfl (hon 5 (by kernel_rfl)) (by rw [hsz]; rfl)
      replace ha := Aside0.mk ha
      refine value_ (w1 := w') (v := .pointer (some ⟨w0.heap.size, 1, none⟩)) (wanted_on rfl rfl rfl e10) rfl ?_ ?_
      · go_simp; try rfl
        all_goals (try (simp only [IntKind.wrap_i64]; omega))
      exact hK.out _ _ ⟨(by rw [ha.out]; exact putSel_upk 6 hb_ rfl rfl rfl), hI⟩
    refine steps_cons ?_ ?_
    · rintro b a w' ⟨ha, hI⟩ hb_ hon hoff
      refine ⟨_, rfl, fun K hK => ?_⟩
      have e11 : a.tmps[11]? = some (.pointer (some ⟨w0.heap.size, 1, none⟩)) := by rw [ha]; exact putSel_on (e := (6, 11, .pointer (some ⟨w0.heap.size, 1, none⟩))) 6 rfl rfl (hon 6 (by kernel_rfl)) (by rw [hsz]; rfl)
      have e10 : a.tmps[10]? = some (.bool true) := by rw [ha]; exact putSel_on (e := (5, 10, .bool true)) 5 rfl rfl (hon 5 (by kernel_rfl)) (by rw [hsz]; rfl)
      replace ha := Aside0.mk ha
      have m0 := Own.c hI 1 1 rfl rfl
      refine value_ (w1 := w') (v := .pointer none) (wanted_on rfl rfl rfl e10) rfl ?_ ?_
      · go_simp; try rfl
        all_goals (try (simp only [IntKind.wrap_i64]; omega))
      exact hK.out _ _ ⟨(by rw [ha.out]; exact putSel_upk 7 hb_ rfl rfl rfl), hI⟩
    refine steps_cons ?_ ?_
    · rintro b a w' ⟨ha, hI⟩ hb_ hon hoff
      refine ⟨_, rfl, fun K hK => ?_⟩
      have e12 : a.tmps[12]? = some (.pointer none) := by rw [ha]; exact putSel_on (e := (7, 12, .pointer none)) 7 rfl rfl (hon 7 (by kernel_rfl)) (by rw [hsz]; rfl)
      have e10 : a.tmps[10]? = some (.bool true) := by rw [ha]; exact putSel_on (e := (5, 10, .bool true)) 5 rfl rfl (hon 5 (by kernel_rfl)) (by rw [hsz]; rfl)
      replace ha := Aside0.mk ha
      refine value_ (w1 := w') (v := .bool true) (wanted_on rfl rfl rfl e10) rfl ?_ ?_
      · go_simp; try rfl
        all_goals (try (simp only [IntKind.wrap_i64]; omega))
      exact hK.out _ _ ⟨(by rw [ha.out]; exact putSel_upk 8 hb_ rfl rfl rfl), hI⟩
    refine steps_cons ?_ ?_
    · rintro b a w' ⟨ha, hI⟩ hb_ hon hoff
      refine ⟨_, rfl, fun K hK => ?_⟩
      have e3 : a.tmps[3]? = some (.pointer (some ⟨w0.heap.size + 1, 0, none⟩)) := by rw [ha]; exact (putSel_off rfl).trans s3
      have e10 : a.tmps[10]? = some (.bool true) := by rw [ha]; exact putSel_on (e := (5, 10, .bool true)) 5 rfl rfl (hon 5 (by kernel_rfl)) (by rw [hsz]; rfl)
      replace ha := Aside0.mk ha
      refine value_ (w1 := w') (v := .pointer (some ⟨w0.heap.size + 1, 1, none⟩)) (wanted_on rfl rfl rfl e10) rfl ?_ ?_
      · go_simp; try rfl
        all_goals (try (simp only [IntKind.wrap_i64]; omega))
      exact hK.out _ _ ⟨(by rw [ha.out]; exact putSel_upk 9 hb_ rfl rfl rfl), hI⟩
    refine steps_cons ?_ ?_
    · rintro b a w' ⟨ha, hI⟩ hb_ hon hoff
      refine ⟨_, rfl, fun K hK => ?_⟩
      have e14 : a.tmps[14]? = some (.pointer (some ⟨w0.heap.size + 1, 1, none⟩)) := by rw [ha]; exact putSel_on (e := (9, 14, .pointer (some ⟨w0.heap.size + 1, 1, none⟩))) 9 rfl rfl (hon 9 (by kernel_rfl)) (by rw [hsz]; rfl)
      have e10 : a.tmps[10]? = some (.bool true) := by rw [ha]; exact putSel_on (e := (5, 10, .bool true)) 5 rfl rfl (hon 5 (by kernel_rfl)) (by rw [hsz]; rfl)
      replace ha := Aside0.mk ha
      have m0 := Own.c hI 0 1 rfl rfl
      refine value_ (w1 := w') (v := .pointer (some ⟨b2, o2, none⟩)) (wanted_on rfl rfl rfl e10) rfl ?_ ?_
      · go_simp; try rfl
        all_goals (try (simp only [IntKind.wrap_i64]; omega))
      exact hK.out _ _ ⟨(by rw [ha.out]; exact putSel_upk 10 hb_ rfl rfl rfl), hI⟩
    refine steps_cons ?_ ?_
    · rintro b a w' ⟨ha, hI⟩ hb_ hon hoff
      refine ⟨_, rfl, fun K hK => ?_⟩
      have e15 : a.tmps[15]? = some (.pointer (some ⟨b2, o2, none⟩)) := by rw [ha]; exact putSel_on (e := (10, 15, .pointer (some ⟨b2, o2, none⟩))) 10 rfl rfl (hon 10 (by kernel_rfl)) (by rw [hsz]; rfl)
      have e10 : a.tmps[10]? = some (.bool true) := by rw [ha]; exact putSel_on (e := (5, 10, .bool true)) 5 rfl rfl (hon 5 (by kernel_rfl)) (by rw [hsz]; rfl)
      replace ha := Aside0.mk ha
      refine value_ (w1 := w') (v := .bool false) (wanted_on rfl rfl rfl e10) rfl ?_ ?_
      · go_simp; try rfl
        all_goals (try (simp only [IntKind.wrap_i64]; omega))
      exact hK.out _ _ ⟨(by rw [ha.out]; exact putSel_upk 11 hb_ rfl rfl rfl), hI⟩
    refine steps_cons ?_ ?_
    · rintro b a w' ⟨ha, hI⟩ hb_ hon hoff
      refine ⟨_, rfl, fun K hK => ?_⟩
      have e13 : a.tmps[13]? = some (.bool true) := by rw [ha]; exact putSel_on (e := (8, 13, .bool true)) 8 rfl rfl (hon 8 (by kernel_rfl)) (by rw [hsz]; rfl)
      have e16 : a.tmps[16]? = some (.bool false) := by rw [ha]; exact putSel_on (e := (11, 16, .bool false)) 11 rfl rfl (hon 11 (by kernel_rfl)) (by rw [hsz]; rfl)
      have e10 : a.tmps[10]? = some (.bool true) := by rw [ha]; exact putSel_on (e := (5, 10, .bool true)) 5 rfl rfl (hon 5 (by kernel_rfl)) (by rw [hsz]; rfl)
      replace ha := Aside0.mk ha
      refine value_ (w1 := w') (v := .bool false) (wanted_on rfl rfl rfl e10) rfl ?_ ?_
      · go_simp; try rfl
        all_goals (try (simp only [IntKind.wrap_i64]; omega))
      exact hK.out _ _ ⟨(by rw [ha.out]; exact putSel_upk 12 hb_ rfl rfl rfl), hI⟩
    refine steps_cons ?_ ?_
    · rintro b a w' ⟨ha, hI⟩ hb_ hon hoff
      refine ⟨_, rfl, fun K hK => ?_⟩
      have e10 : a.tmps[10]? = some (.bool true) := by rw [ha]; exact putSel_on (e := (5, 10, .bool true)) 5 rfl rfl (hon 5 (by kernel_rfl)) (by rw [hsz]; rfl)
      have e17 : a.tmps[17]? = some (.bool false) := by rw [ha]; exact putSel_on (e := (12, 17, .bool false)) 12 rfl rfl (hon 12 (by kernel_rfl)) (by rw [hsz]; rfl)
      replace ha := Aside0.mk ha
      refine value_ (w1 := w') (v := .bool false) (by rfl) rfl ?_ ?_
      · go_simp; try rfl
        all_goals (try (simp only [IntKind.wrap_i64]; omega))
      exact hK.out _ _ ⟨(by rw [ha.out]; exact putSel_upk 13 hb_ rfl rfl rfl), hI⟩
    refine steps_cons ?_ ?_
    · rintro b a w' ⟨ha, hI⟩ hb_ hon hoff
      refine ⟨_, rfl, fun K hK => ?_⟩
      have e18 : a.tmps[18]? = some (.bool false) := by rw [ha]; exact putSel_on (e := (13, 18, .bool false)) 13 rfl rfl (hon 13 (by kernel_rfl)) (by rw [hsz]; rfl)
      replace ha := Aside0.mk ha
      refine value_ (w1 := w') (v := .bool false) (by rfl) rfl ?_ ?_
      · go_simp; try rfl
        all_goals (try (simp only [IntKind.wrap_i64]; omega))
      exact hK.out _ _ ⟨(by rw [ha.out]; exact putSel_upk 14 hb_ rfl rfl rfl), hI⟩
    refine steps_cons ?_ ?_
    · rintro b a w' ⟨ha, hI⟩ hb_ hon hoff
      refine ⟨_, rfl, fun K hK => ?_⟩
      have e19 : a.tmps[19]? = some (.bool false) := by rw [ha]; exact putSel_on (e := (14, 19, .bool false)) 14 rfl rfl (hon 14 (by kernel_rfl)) (by rw [hsz]; rfl)
      exact off_ (wanted_off rfl rfl rfl e19) (hK.out _ _ ⟨(by rw [ha]; exact putSel_upk 15 hb_ rfl rfl rfl), hI⟩)
    refine steps_cons ?_ ?_
    · rintro b a w' ⟨ha, hI⟩ hb_ hon hoff
      refine ⟨_, rfl, fun K hK => ?_⟩
      have e19 : a.tmps[19]? = some (.bool false) := by rw [ha]; exact putSel_on (e := (14, 19, .bool false)) 14 rfl rfl (hon 14 (by kernel_rfl)) (by rw [hsz]; rfl)
      exact off_ (wanted_off rfl rfl rfl e19) (hK.out _ _ ⟨(by rw [ha]; exact putSel_upk 16 hb_ rfl rfl rfl), hI⟩)
    refine steps_cons ?_ ?_
    · rintro b a w' ⟨ha, hI⟩ hb_ hon hoff
      refine ⟨_, rfl, fun K hK => ?_⟩
      have e19 : a.tmps[19]? = some (.bool false) := by rw [ha]; exact putSel_on (e := (14, 19, .bool false)) 14 rfl rfl (hon 14 (by kernel_rfl)) (by rw [hsz]; rfl)
      exact off_ (wanted_off rfl rfl rfl e19) (hK.out _ _ ⟨(by rw [ha]; exact putSel_upk 17 hb_ rfl rfl rfl), hI⟩)
    refine steps_cons ?_ ?_
    · rintro b a w' ⟨ha, hI⟩ hb_ hon hoff
      refine ⟨_, rfl, fun K hK => ?_⟩
      have e19 : a.tmps[19]? = some (.bool false) := by rw [ha]; exact putSel_on (e := (14, 19, .bool false)) 14 rfl rfl (hon 14 (by kernel_rfl)) (by rw [hsz]; rfl)
      exact off_ (wanted_off rfl rfl rfl e19) (hK.out _ _ ⟨(by rw [ha]; exact putSel_upk 18 hb_ rfl rfl rfl), hI⟩)
    refine steps_cons ?_ ?_
    · rintro b a w' ⟨ha, hI⟩ hb_ hon hoff
      refine ⟨_, rfl, fun K hK => ?_⟩
      have e23 : a.tmps[23]? = some (undef) := by rw [ha]; exact putSel_on (e := (18, 23, undef)) 18 rfl rfl (hon 18 (by kernel_rfl)) (by rw [hsz]; rfl)
      exact off_ (wanted_und rfl rfl rfl e23) (hK.out _ _ ⟨(by rw [ha]; exact putSel_upk 19 hb_ rfl rfl rfl), hI⟩)
    refine steps_cons ?_ ?_
    · rintro b a w' ⟨ha, hI⟩ hb_ hon hoff
      refine ⟨_, rfl, fun K hK => ?_⟩
      have e23 : a.tmps[23]? = some (undef) := by rw [ha]; exact putSel_on (e := (18, 23, undef)) 18 rfl rfl (hon 18 (by kernel_rfl)) (by rw [hsz]; rfl)
      exact off_ (wanted_und rfl rfl rfl e23) (hK.out _ _ ⟨(by rw [ha]; exact putSel_upk 20 hb_ rfl rfl rfl), hI⟩)
    refine steps_cons ?_ ?_
    · rintro b a w' ⟨ha, hI⟩ hb_ hon hoff
      refine ⟨_, rfl, fun K hK => ?_⟩
      have e23 : a.tmps[23]? = some (undef) := by rw [ha]; exact putSel_on (e := (18, 23, undef)) 18 rfl rfl (hon 18 (by kernel_rfl)) (by rw [hsz]; rfl)
      exact off_ (wanted_und rfl rfl rfl e23) (hK.out _ _ ⟨(by rw [ha]; exact putSel_upk 21 hb_ rfl rfl rfl), hI⟩)
    refine steps_cons ?_ ?_
    · rintro b a w' ⟨ha, hI⟩ hb_ hon hoff
      refine ⟨_, rfl, fun K hK => ?_⟩
      have e23 : a.tmps[23]? = some (undef) := by rw [ha]; exact putSel_on (e := (18, 23, undef)) 18 rfl rfl (hon 18 (by kernel_rfl)) (by rw [hsz]; rfl)
      exact off_ (wanted_und rfl rfl rfl e23) (hK.out _ _ ⟨(by rw [ha]; exact putSel_upk 22 hb_ rfl rfl rfl), hI⟩)
    refine steps_cons ?_ ?_
    · rintro b a w' ⟨ha, hI⟩ hb_ hon hoff
      refine ⟨_, rfl, fun K hK => ?_⟩
      have e23 : a.tmps[23]? = some (undef) := by rw [ha]; exact putSel_on (e := (18, 23, undef)) 18 rfl rfl (hon 18 (by kernel_rfl)) (by rw [hsz]; rfl)
      exact off_ (wanted_und rfl rfl rfl e23) (hK.out _ _ ⟨(by rw [ha]; exact putSel_upk 23 hb_ rfl rfl rfl), hI⟩)
    refine steps_cons ?_ ?_
    · rintro b a w' ⟨ha, hI⟩ hb_ hon hoff
      refine ⟨_, rfl, fun K hK => ?_⟩
      have e23 : a.tmps[23]? = some (undef) := by rw [ha]; exact putSel_on (e := (18, 23, undef)) 18 rfl rfl (hon 18 (by kernel_rfl)) (by rw [hsz]; rfl)
      exact off_ (wanted_und rfl rfl rfl e23) (hK.out _ _ ⟨(by rw [ha]; exact putSel_upk 24 hb_ rfl rfl rfl), hI⟩)
    refine steps_cons ?_ ?_
    · rintro b a w' ⟨ha, hI⟩ hb_ hon hoff
      refine ⟨_, rfl, fun K hK => ?_⟩
      have e23 : a.tmps[23]? = some (undef) := by rw [ha]; exact putSel_on (e := (18, 23, undef)) 18 rfl rfl (hon 18 (by kernel_rfl)) (by rw [hsz]; rfl)
      exact off_ (wanted_und rfl rfl rfl e23) (hK.out _ _ ⟨(by rw [ha]; exact putSel_upk 25 hb_ rfl rfl rfl), hI⟩)
    refine steps_cons ?_ ?_
    · rintro b a w' ⟨ha, hI⟩ hb_ hon hoff
      refine ⟨_, rfl, fun K hK => ?_⟩
      have e23 : a.tmps[23]? = some (undef) := by rw [ha]; exact putSel_on (e := (18, 23, undef)) 18 rfl rfl (hon 18 (by kernel_rfl)) (by rw [hsz]; rfl)
      exact off_ (wanted_und rfl rfl rfl e23) (hK.out _ _ ⟨(by rw [ha]; exact putSel_upk 26 hb_ rfl rfl rfl), hI⟩)
    refine steps_cons ?_ ?_
    · rintro b a w' ⟨ha, hI⟩ hb_ hon hoff
      refine ⟨_, rfl, fun K hK => ?_⟩
      have e23 : a.tmps[23]? = some (undef) := by rw [ha]; exact putSel_on (e := (18, 23, undef)) 18 rfl rfl (hon 18 (by kernel_rfl)) (by rw [hsz]; rfl)
      exact off_ (wanted_und rfl rfl rfl e23) (hK.out _ _ ⟨(by rw [ha]; exact putSel_upk 27 hb_ rfl rfl rfl), hI⟩)
    refine steps_cons ?_ ?_
    · rintro b a w' ⟨ha, hI⟩ hb_ hon hoff
      refine ⟨_, rfl, fun K hK => ?_⟩
      have e19 : a.tmps[19]? = some (.bool false) := by rw [ha]; exact putSel_on (e := (14, 19, .bool false)) 14 rfl rfl (hon 14 (by kernel_rfl)) (by rw [hsz]; rfl)
      exact off_ (wanted_off rfl rfl rfl e19) (hK.out _ _ ⟨(by rw [ha]; exact putSel_upk 28 hb_ rfl rfl rfl), hI⟩)
    refine steps_cons ?_ ?_
    · rintro b a w' ⟨ha, hI⟩ hb_ hon hoff
      refine ⟨_, rfl, fun K hK => ?_⟩
      have e19 : a.tmps[19]? = some (.bool false) := by rw [ha]; exact putSel_on (e := (14, 19, .bool false)) 14 rfl rfl (hon 14 (by kernel_rfl)) (by rw [hsz]; rfl)
      have e33 : a.tmps[33]? = some (undef) := by rw [ha]; exact putSel_on (e := (28, 33, undef)) 28 rfl rfl (hon 28 (by kernel_rfl)) (by rw [hsz]; rfl)
      replace ha := Aside0.mk ha
      refine value_ (w1 := w') (v := .bool false) (by rfl) rfl ?_ ?_
      · go_simp; try rfl
        all_goals (try (simp only [IntKind.wrap_i64]; omega))
      exact hK.out _ _ ⟨(by rw [ha.out]; exact putSel_upk 29 hb_ rfl rfl rfl), hI⟩
    refine steps_cons ?_ ?_
    · rintro b a w' ⟨ha, hI⟩ hb_ hon hoff
      refine ⟨_, rfl, fun K hK => ?_⟩
      have e34 : a.tmps[34]? = some (.bool false) := by rw [ha]; exact putSel_on (e := (29, 34, .bool false)) 29 rfl rfl (hon 29 (by kernel_rfl)) (by rw [hsz]; rfl)
      replace ha := Aside0.mk ha
      refine value_ (w1 := w') (v := .bool false) (by rfl) rfl ?_ ?_
      · go_simp; try rfl
        all_goals (try (simp only [IntKind.wrap_i64]; omega))
      exact hK.out _ _ ⟨(by rw [ha.out]; exact putSel_upk 30 hb_ rfl rfl rfl), hI⟩
    exact steps_nil
  rintro b a w1 hall ⟨ha, hI1⟩
  exact hend a w1 hI1 (by rw [ha]; simp only [putSel, if_true, hall 0 (by kernel_rfl), hall 1 (by kernel_rfl), hall 2 (by kernel_rfl), hall 3 (by kernel_rfl), hall 4 (by kernel_rfl), hall 5 (by kernel_rfl), hall 6 (by kernel_rfl), hall 7 (by kernel_rfl), hall 8 (by kernel_rfl), hall 9 (by kernel_rfl), hall 10 (by kernel_rfl), hall 11 (by kernel_rfl), hall 12 (by kernel_rfl), hall 13 (by kernel_rfl), hall 14 (by kernel_rfl), hall 15 (by kernel_rfl), hall 16 (by kernel_rfl), hall 17 (by kernel_rfl), hall 18 (by kernel_rfl), hall 19 (by kernel_rfl), hall 20 (by kernel_rfl), hall 21 (by kernel_rfl), hall 22 (by kernel_rfl), hall 23 (by kernel_rfl), hall 24 (by kernel_rfl), hall 25 (by kernel_rfl), hall 26 (by kernel_rfl), hall 27 (by kernel_rfl), hall 28 (by kernel_rfl), hall 29 (by kernel_rfl), hall 30 (by kernel_rfl)]) (by rw [ha]; exact (putSel_size b _ a0).2) (by rw [ha]; exact putSel_on (e := (30, 4, .bool false)) 30 rfl rfl (hall 30 (by kernel_rfl)) (by rw [hsz]; rfl))
end Go.Proofs.YtipmphgkdomebaaDoor
namespace Go.Proofs.YtipmphgkdomebaaDoor
open Go.RowKit Go.Proofs.YtipmphgkdomebaaDoorW.PrintWords Go.Proofs.YtipmphgkdomebaaDoorW.PrintLast
set_option linter.unusedVariables false
set_option linter.unusedSimpArgs false
def as80bs.T : Bool × List (List Nat × List Nat) := (true, [([], []), ([0], [0]), ([], []), ([2], [2]), ([1, 3], [1, 3]), ([4], [4]), ([5], [5]), ([6, 5], [5, 6]), ([7, 5], [5, 7]), ([5], [5]), ([9, 5], [5, 9]), ([10, 5], [5, 10]), ([8, 11, 5], [5, 8, 11]), ([5, 12], [5, 12]), ([13, 5], [13]), ([14], [14]), ([15, 14], [14, 15]), ([16, 14], [14, 16]), ([17, 14, 14], [14, 17]), ([18], [18]), ([19, 18], [18, 19]), ([20, 18], [18, 20]), ([21, 18], [18, 21]), ([18], [18]), ([23, 18], [18, 23]), ([24, 18], [18, 24]), ([25, 18], [18, 25]), ([22, 26, 18, 18], [18, 22, 26]), ([18, 27, 14], [14, 18, 27]), ([14, 28], [14, 28]), ([29, 27, 0, 1, 2, 3, 4, 5, 6, 7, 8, 9, 10, 11, 12, 13, 14, 15, 16, 17, 18, 19, 20, 21, 22, 23, 24, 25, 26, 27, 28, 29], [29])])
def as80bs.B : List Nat := [0, 1, 0, 4, 15, 31, 63, 127, 255, 63, 575, 1599, 4095, 8191, 16383, 32767, 65535, 131071, 262143, 524287, 1048575, 2097151, 4194303, 524287, 8912895, 25690111, 59244543, 134217727, 268435455, 536870911, 1073741823]
theorem as80bs.tab : rtab .any (opsOf Tryd.f80 1) = as80bs.T := by kernel_rfl
theorem as80bs.bits : waitsOk as80bs.T.2 as80bs.B = true := by kernel_rfl
set_option maxRecDepth 100000 in
set_option maxHeartbeats 4000000 in
theorem as80bs (w0 : World) (t1 t2 : ByteArray) (hq : (t1.toList == t2.toList) = true) (b1 o1 : Nat) (a0 : Act) (s2 : a0.tmps[2]? = some (.pointer (some ⟨w0.heap.size, 0, none⟩))) (s3 : a0.tmps[3]? = some (.pointer (some ⟨w0.heap.size + 1, 0, none⟩))) (hsz : a0.tmps.size = Tryd.f80.ntmps) (W : World) (hI : ElI w0 t1 (some ⟨b1, o1, none⟩) t2 none W.drew) (Q : Exit → Act → World → Prop) (hend : ∀ (a9 : Act) w', ElI w0 t1 (some ⟨b1, o1, none⟩) t2 none w' → a9 = putSel a0 (fun _ => true) [(0, 5, .pointer (some ⟨w0.heap.size, 0, none⟩)), (1, 6, .string t1), (2, 7, .pointer (some ⟨w0.heap.size + 1, 0, none⟩)), (3, 8, .string t2), (4, 9, .bool true), (5, 10, .bool true), (6, 11, .pointer (some ⟨w0.heap.size, 1, none⟩)), (7, 12, .pointer (some ⟨b1, o1, none⟩)), (8, 13, .bool false), (9, 14, .pointer (some ⟨w0.heap.size + 1, 1, none⟩)), (10, 15, .pointer none), (11, 16, .bool true), (12, 17, .bool false), (13, 18, .bool false), (14, 19, .bool false), (15, 20, undef), (16, 21, undef), (17, 22, undef), (18, 23, undef), (19, 24, undef), (20, 25, undef), (21, 26, undef), (22, 27, undef), (23, 28, undef), (24, 29, undef), (25, 30, undef), (26, 31, undef), (27, 32, undef), (28, 33, undef), (29, 34, .bool false), (30, 4, .bool false)] → a9.defers = a0.defers → a9.tmps[4]? = some (.bool false) → Q .normal a9 w') :
    (Code.region 1 #[{ dst := some 5, op := Op.fieldAddr 42 (Operand.tmp 2) 0, type := 0, pos := "ast.go:88", after := #[], guard := none }, { dst := some 6, op := Op.load 9 (Operand.tmp 5), type := 9, pos := "ast.go:88", after := #[{ on := 0, ground := Ground.data }], guard := none }, { dst := some 7, op := Op.fieldAddr 42 (Operand.tmp 3) 0, type := 0, pos := "ast.go:88", after := #[], guard := none }, { dst := some 8, op := Op.load 9 (Operand.tmp 7), type := 9, pos := "ast.go:88", after := #[{ on := 2, ground := Ground.data }], guard := none }, { dst := some 9, op := Op.binOp BinOp.eql 9 (Operand.tmp 6) (Operand.tmp 8) 9, type := 4, pos := "ast.go:88", after := #[{ on := 1, ground := Ground.data }, { on := 3, ground := Ground.data }], guard := none }, { dst := some 10, op := Op.move (Operand.tmp 9), type := 4, pos := "ast.go:88", after := #[{ on := 4, ground := Ground.data }], guard := none }, { dst := some 11, op := Op.fieldAddr 42 (Operand.tmp 2) 1, type := 0, pos := "ast.go:88", after := #[{ on := 5, ground := Ground.guard }], guard := some (5, true) }, { dst := some 12, op := Op.load 37 (Operand.tmp 11), type := 37, pos := "ast.go:88", after := #[{ on := 6, ground := Ground.data }, { on := 5, ground := Ground.guard }], guard := some (5, true) }, { dst := some 13, op := Op.binOp BinOp.eql 37 (Operand.tmp 12) (Operand.const (Value.pointer none)) 37, type := 4, pos := "ast.go:88", after := #[{ on := 7, ground := Ground.data }, { on := 5, ground := Ground.guard }], guard := some (5, true) }, { dst := some 14, op := Op.fieldAddr 42 (Operand.tmp 3) 1, type := 0, pos := "ast.go:88", after := #[{ on := 5, ground := Ground.guard }], guard := some (5, true) }, { dst := some 15, op := Op.load 37 (Operand.tmp 14), type := 37, pos := "ast.go:88", after := #[{ on := 9, ground := Ground.data }, { on := 5, ground := Ground.guard }], guard := some (5, true) }, { dst := some 16, op := Op.binOp BinOp.eql 37 (Operand.tmp 15) (Operand.const (Value.pointer none)) 37, type := 4, pos := "ast.go:88", after := #[{ on := 10, ground := Ground.data }, { on := 5, ground := Ground.guard }], guard := some (5, true) }, { dst := some 17, op := Op.binOp BinOp.eql 4 (Operand.tmp 13) (Operand.tmp 16) 4, type := 4, pos := "ast.go:88", after := #[{ on := 8, ground := Ground.data }, { on := 11, ground := Ground.data }, { on := 5, ground := Ground.guard }], guard := some (5, true) }, { dst := some 18, op := Op.pick (Operand.tmp 10) (Operand.tmp 17) (Operand.const (Value.bool false)), type := 4, pos := "ast.go:88", after := #[{ on := 5, ground := Ground.data }, { on := 12, ground := Ground.data }], guard := none }, { dst := some 19, op := Op.move (Operand.tmp 18), type := 4, pos := "ast.go:88", after := #[{ on := 13, ground := Ground.data }, { on := 5, ground := Ground.chain }], guard := none }, { dst := some 20, op := Op.fieldAddr 42 (Operand.tmp 2) 1, type := 0, pos := "ast.go:88", after := #[{ on := 14, ground := Ground.guard }], guard := some (14, true) }, { dst := some 21, op := Op.load 37 (Operand.tmp 20), type := 37, pos := "ast.go:88", after := #[{ on := 15, ground := Ground.data }, { on := 14, ground := Ground.guard }], guard := some (14, true) }, { dst := some 22, op := Op.binOp BinOp.eql 37 (Operand.tmp 21) (Operand.const (Value.pointer none)) 37, type := 4, pos := "ast.go:88", after := #[{ on := 16, ground := Ground.data }, { on := 14, ground := Ground.guard }], guard := some (14, true) }, { dst := some 23, op := Op.move (Operand.tmp 22), type := 4, pos := "ast.go:88", after := #[{ on := 17, ground := Ground.data }, { on := 14, ground := Ground.chain }, { on := 14, ground := Ground.guard }], guard := some (14, true) }, { dst := some 24, op := Op.fieldAddr 42 (Operand.tmp 2) 1, type := 0, pos := "ast.go:88", after := #[{ on := 18, ground := Ground.guard }], guard := some (18, false) }, { dst := some 25, op := Op.load 37 (Operand.tmp 24), type := 37, pos := "ast.go:88", after := #[{ on := 19, ground := Ground.data }, { on := 18, ground := Ground.guard }], guard := some (18, false) }, { dst := some 26, op := Op.nilCheck (Operand.tmp 25), type := 0, pos := "ast.go:88", after := #[{ on := 20, ground := Ground.data }, { on := 18, ground := Ground.guard }], guard := some (18, false) }, { dst := some 27, op := Op.load 40 (Operand.tmp 26), type := 40, pos := "ast.go:88", after := #[{ on := 21, ground := Ground.data }, { on := 18, ground := Ground.guard }], guard := some (18, false) }, { dst := some 28, op := Op.fieldAddr 42 (Operand.tmp 3) 1, type := 0, pos := "ast.go:88", after := #[{ on := 18, ground := Ground.guard }], guard := some (18, false) }, { dst := some 29, op := Op.load 37 (Operand.tmp 28), type := 37, pos := "ast.go:88", after := #[{ on := 23, ground := Ground.data }, { on := 18, ground := Ground.guard }], guard := some (18, false) }, { dst := some 30, op := Op.nilCheck (Operand.tmp 29), type := 0, pos := "ast.go:88", after := #[{ on := 24, ground := Ground.data }, { on := 18, ground := Ground.guard }], guard := some (18, false) }, { dst := some 31, op := Op.load 40 (Operand.tmp 30), type := 40, pos := "ast.go:88", after := #[{ on := 25, ground := Ground.data }, { on := 18, ground := Ground.guard }], guard := some (18, false) }, { dst := some 32, op := Op.call { callee := Callee.value (Operand.func 81), args := #[Operand.tmp 27, Operand.tmp 31], argTypes := #[37, 40] }, type := 4, pos := "ast.go:88", after := #[{ on := 22, ground := Ground.data }, { on := 26, ground := Ground.data }, { on := 18, ground := Ground.chain }, { on := 18, ground := Ground.guard }], guard := some (18, false) }, { dst := some 33, op := Op.pick (Operand.tmp 23) (Operand.const (Value.bool true)) (Operand.tmp 32), type := 4, pos := "ast.go:88", after := #[{ on := 18, ground := Ground.data }, { on := 27, ground := Ground.data }, { on := 14, ground := Ground.guard }], guard := some (14, true) }, { dst := some 34, op := Op.pick (Operand.tmp 19) (Operand.tmp 33) (Operand.const (Value.bool false)), type := 4, pos := "ast.go:88", after := #[{ on := 14, ground := Ground.data }, { on := 28, ground := Ground.data }], guard := none }, { dst := some 4, op := Op.assign (Operand.tmp 34), type := 4, pos := "ast.go:88", after := #[{ on := 29, ground := Ground.data }, { on := 27, ground := Ground.chain }, { on := 0, ground := Ground.phase }, { on := 1, ground := Ground.phase }, { on := 2, ground := Ground.phase }, { on := 3, ground := Ground.phase }, { on := 4, ground := Ground.phase }, { on := 5, ground := Ground.phase }, { on := 6, ground := Ground.phase }, { on := 7, ground := Ground.phase }, { on := 8, ground := Ground.phase }, { on := 9, ground := Ground.phase }, { on := 10, ground := Ground.phase }, { on := 11, ground := Ground.phase }, { on := 12, ground := Ground.phase }, { on := 13, ground := Ground.phase }, { on := 14, ground := Ground.phase }, { on := 15, ground := Ground.phase }, { on := 16, ground := Ground.phase }, { on := 17, ground := Ground.phase }, { on := 18, ground := Ground.phase }, { on := 19, ground := Ground.phase }, { on := 20, ground := Ground.phase }, { on := 21, ground := Ground.phase }, { on := 22, ground := Ground.phase }, { on := 23, ground := Ground.phase }, { on := 24, ground := Ground.phase }, { on := 25, ground := Ground.phase }, { on := 26, ground := Ground.phase }, { on := 27, ground := Ground.phase }, { on := 28, ground := Ground.phase }, { on := 29, ground := Ground.phase }], guard := none }] true).wp Tryd.prog Q a0 W := by
  refine start_ (n := 31) (S := fun w' => True) (ds := []) #[false, false, false, false, false, false, false, false, false, false, false, false, false, false, false, false, false, false, false, false, false, false, false, false, false, false, false, false, false, false, false] (by kernel_rfl) rfl rfl trivial (fun hHeld => ?_)
  refine with_tabW as80bs.tab as80bs.bits (fun HT_ HW_ => ?_)
  refine inv_at [0, 1, 2, 3, 4, 5, 6, 7, 8, 9, 10, 11, 12, 13, 14, 15, 16, 17, 18, 19, 20, 21, 22, 23, 24, 25, 26, 27, 28, 29, 30] (fun a0_ b a w' => a = putSel a0_ b [(0, 5, .pointer (some ⟨w0.heap.size, 0, none⟩)), (1, 6, .string t1), (2, 7, .pointer (some ⟨w0.heap.size + 1, 0, none⟩)), (3, 8, .string t2), (4, 9, .bool true), (5, 10, .bool true), (6, 11, .pointer (some ⟨w0.heap.size, 1, none⟩)), (7, 12, .pointer (some ⟨b1, o1, none⟩)), (8, 13, .bool false), (9, 14, .pointer (some ⟨w0.heap.size + 1, 1, none⟩)), (10, 15, .pointer none), (11, 16, .bool true), (12, 17, .bool false), (13, 18, .bool false), (14, 19, .bool false), (15, 20, undef), (16, 21, undef), (17, 22, undef), (18, 23, undef), (19, 24, undef), (20, 25, undef), (21, 26, undef), (22, 27, undef), (23, 28, undef), (24, 29, undef), (25, 30, undef), (26, 31, undef), (27, 32, undef), (28, 33, undef), (29, 34, .bool false), (30, 4, .bool false)] ∧ (ElI w0 t1 (some ⟨b1, o1, none⟩) t2 none w')) HT_.out HW_.out (by kernel_rfl) (by kernel_rfl) ?_ ?_ ?_
  · exact ⟨(by simp only [putSel, Bool.false_eq_true, if_false]), hI⟩
  · clear hI hend hHeld
    refine steps_cons ?_ ?_
    · rintro b a w' ⟨ha, hI⟩ hb_ hon hoff
      refine ⟨_, rfl, fun K hK => ?_⟩
      have e2 : a.tmps[2]? = some (.pointer (some ⟨w0.heap.size, 0, none⟩)) := by rw [ha]; exact (putSel_off rfl).trans s2
      replace ha := Aside0.mk ha
      refine value_ (w1 := w') (v := .pointer (some ⟨w0.heap.size, 0, none⟩)) (by rfl) rfl ?_ ?_
      · go_simp; try rfl
        all_goals (try (simp only [IntKind.wrap_i64]; omega))
      exact hK.out _ _ ⟨(by rw [ha.out]; exact putSel_upk 0 hb_ rfl rfl rfl), hI⟩
    refine steps_cons ?_ ?_
    · rintro b a w' ⟨ha, hI⟩ hb_ hon hoff
      refine ⟨_, rfl, fun K hK => ?_⟩
      have e5 : a.tmps[5]? = some (.pointer (some ⟨w0.heap.size, 0, none⟩)) := by rw [ha]; exact putSel_on (e := (0, 5, .pointer (some ⟨w0.heap.size, 0, none⟩))) 0 rfl rfl (hon 0 (by kernel_rfl)) (by rw [hsz]; rfl)
      replace ha := Aside0.mk ha
      have m0 := Own.c hI 1 0 rfl rfl
      refine value_ (w1 := w') (v := .string t1) (by rfl) rfl ?_ ?_
      · go_simp; try rfl
        all_goals (try (simp only [IntKind.wrap_i64]; omega))
      exact hK.out _ _ ⟨(by rw [ha.out]; exact putSel_upk 1 hb_ rfl rfl rfl), hI⟩
    refine steps_cons ?_ ?_
    · rintro b a w' ⟨ha, hI⟩ hb_ hon hoff
      refine ⟨_, rfl, fun K hK => ?_⟩
      have e3 : a.tmps[3]? = some (.pointer (some ⟨w0.heap.size + 1, 0, none⟩)) := by rw [ha]; exact (putSel_off rfl).trans s3
      replace ha := Aside0.mk ha
      refine value_ (w1 := w') (v := .pointer (some ⟨w0.heap.size + 1, 0, none⟩)) (by rfl) rfl ?_ ?_
      · go_simp; try rfl
        all_goals (try (simp only [IntKind.wrap_i64]; omega))
      exact hK.out _ _ ⟨(by rw [ha.out]; exact putSel_upk 2 hb_ rfl rfl rfl), hI⟩
    refine steps_cons ?_ ?_
    · rintro b a w' ⟨ha, hI⟩ hb_ hon hoff
      refine ⟨_, rfl, fun K hK => ?_⟩
      have e7 : a.tmps[7]? = some (.pointer (some ⟨w0.heap.size + 1, 0, none⟩)) := by rw [ha]; exact putSel_on (e := (2, 7, .pointer (some ⟨w0.heap.size + 1, 0, none⟩))) 2 rfl rfl (hon 2 (by kernel_rfl)) (by rw [hsz]; rfl)
      replace ha := Aside0.mk ha
      have m0 := Own.c hI 0 0 rfl rfl
      refine value_ (w1 := w') (v := .string t2) (by rfl) rfl ?_ ?_
      · go_simp; try rfl
        all_goals (try (simp only [IntKind.wrap_i64]; omega))
      exact hK.out _ _ ⟨(by rw [ha.out]; exact putSel_upk 3 hb_ rfl rfl rfl), hI⟩
    refine steps_cons ?_ ?_
    · rintro b a w' ⟨ha, hI⟩ hb_ hon hoff
      refine ⟨_, rfl, fun K hK => ?_⟩
      have e6 : a.tmps[6]? = some (.string t1) := by rw [ha]; exact putSel_on (e := (1, 6, .string t1)) 1 rfl rfl (hon 1 (by kernel_rfl)) (by rw [hsz]; rfl)
      have e8 : a.tmps[8]? = some (.string t2) := by rw [ha]; exact putSel_on (e := (3, 8, .string t2)) 3 rfl rfl (hon 3 (by kernel_rfl)) (by rw [hsz]; rfl)
      replace ha := Aside0.mk ha
      refine value_ (w1 := w') (v := .bool true) (by rfl) rfl ?_ ?_
      · go_simp; try rfl
        all_goals (try (simp only [IntKind.wrap_i64]; omega))
      exact hK.out _ _ ⟨(by rw [ha.out]; exact putSel_upk 4 hb_ rfl rfl rfl), hI⟩
    refine steps_cons ?_ ?_
    · rintro b a w' ⟨ha, hI⟩ hb_ hon hoff
      refine ⟨_, rfl, fun K hK => ?_⟩
      have e9 : a.tmps[9]? = some (.bool true) := by rw [ha]; exact putSel_on (e := (4, 9, .bool true)) 4 rfl rfl (hon 4 (by kernel_rfl)) (by rw [hsz]; rfl)
      replace ha := Aside0.mk ha
      refine value_ (w1 := w') (v := .bool true) (by rfl) rfl ?_ ?_
      · go_simp; try rfl
        all_goals (try (simp only [IntKind.wrap_i64]; omega))
      exact hK.out _ _ ⟨(by rw [ha.out]; exact putSel_upk 5 hb_ rfl rfl rfl), hI⟩
    refine steps_cons ?_ ?_
    · rintro b a w' ⟨ha, hI⟩ hb_ hon hoff
      refine ⟨_, rfl, fun K hK => ?_⟩
      have e2 : a.tmps[2]? = some (.pointer (some ⟨w0.heap.size, 0, none⟩)) := by rw [ha]; exact (putSel_off rfl).trans s2
      have e10 : a.tmps[10]? = some (.bool true) := by rw [ha]; exact putSel_on (e := (5, 10, .bool true)) 5 rfl rfl (hon 5 (by kernel_rfl)) (by rw [hsz]; rfl)
      replace ha := Aside0.mk ha
      refine value_ (w1 := w') (v := .pointer (some ⟨w0.heap.size, 1, none⟩)) (wanted_on rfl rfl rfl e10) rfl ?_ ?_
      · go_simp; try rfl
        all_goals (try (simp only [IntKind.wrap_i64]; omega))
      exact hK.out _ _ ⟨(by rw [ha.out]; exact putSel_upk 6 hb_ rfl rfl rfl), hI⟩
    refine steps_cons ?_ ?_
    · rintro b a w' ⟨ha, hI⟩ hb_ hon hoff
      refine ⟨_, rfl, fun K hK => ?_⟩
      have e11 : a.tmps[11]? = some (.pointer (some ⟨w0.heap.size, 1, none⟩)) := by rw [ha]; exact putSel_on (e := (6, 11, .pointer (some ⟨w0.heap.size, 1, none⟩))) 6 rfl rfl (hon 6 (by kernel_rfl)) (by rw [hsz]; rfl)
      have e10 : a.tmps[10]? = some (.bool true) := by rw [ha]; exact putSel_on (e := (5, 10, .bool true)) 5 rfl rfl (hon 5 (by kernel_rfl)) (by rw [hsz]; rfl)
      replace ha := Aside0.mk ha
      have m0 := Own.c hI 1 1 rfl rfl
      refine value_ (w1 := w') (v := .pointer (some ⟨b1, o1, none⟩)) (wanted_on rfl rfl rfl e10) rfl ?_ ?_
      · go_simp; try rfl
        all_goals (try (simp only [IntKind.wrap_i64]; omega))
      exact hK.out _ _ ⟨(by rw [ha.out]; exact putSel_upk 7 hb_ rfl rfl rfl), hI⟩
    refine steps_cons ?_ ?_
    · rintro b a w' ⟨ha, hI⟩ hb_ hon hoff
      refine ⟨_, rfl, fun K hK => ?_⟩
      have e12 : a.tmps[12]? = some (.pointer (some ⟨b1, o1, none⟩)) := by rw [ha]; exact putSel_on (e := (7, 12, .pointer (some ⟨b1, o1, none⟩))) 7 rfl rfl (hon 7 (by kernel_rfl)) (by rw [hsz]; rfl)
      have e10 : a.tmps[10]? = some (.bool true) := by rw [ha]; exact putSel_on (e := (5, 10, .bool true)) 5 rfl rfl (hon 5 (by kernel_rfl)) (by rw [hsz]; rfl)
      replace ha := Aside0.mk ha
      refine value_ (w1 := w') (v := .bool false) (wanted_on rfl rfl rfl e10) rfl ?_ ?_
      · go_simp; try rfl
        all_goals (try (simp only [IntKind.wrap_i64]; omega))
      exact hK.out _ _ ⟨(by rw [ha.out]; exact putSel_upk 8 hb_ rfl rfl rfl), hI⟩
    refine steps_cons ?_ ?_
    · rintro b a w' ⟨ha, hI⟩ hb_ hon hoff
      refine ⟨_, rfl, fun K hK => ?_⟩
      have e3 : a.tmps[3]? = some (.pointer (some ⟨w0.heap.size + 1, 0, none⟩)) := by rw [ha]; exact (putSel_off rfl).trans s3
      have e10 : a.tmps[10]? = some (.bool true) := by rw [ha]; exact putSel_on (e := (5, 10, .bool true)) 5 rfl rfl (hon 5 (by kernel_rfl)) (by rw [hsz]; rfl)
      replace ha := Aside0.mk ha
      refine value_ (w1 := w') (v := .pointer (some ⟨w0.heap.size + 1, 1, none⟩)) (wanted_on rfl rfl rfl e10) rfl ?_ ?_
      · go_simp; try rfl
        all_goals (try (simp only [IntKind.wrap_i64]; omega))
      exact hK.out _ _ ⟨(by rw [ha.out]; exact putSel_upk 9 hb_ rfl rfl rfl), hI⟩
    refine steps_cons ?_ ?_
    · rintro b a w' ⟨ha, hI⟩ hb_ hon hoff
      refine ⟨_, rfl, fun K hK => ?_⟩
      have e14 : a.tmps[14]? = some (.pointer (some ⟨w0.heap.size + 1, 1, none⟩)) := by rw [ha]; exact putSel_on (e := (9, 14, .pointer (some ⟨w0.heap.size + 1, 1, none⟩))) 9 rfl rfl (hon 9 (by kernel_rfl)) (by rw [hsz]; rfl)
      have e10 : a.tmps[10]? = some (.bool true) := by rw [ha]; exact putSel_on (e := (5, 10, .bool true)) 5 rfl rfl (hon 5 (by kernel_rfl)) (by rw [hsz]; rfl)
      replace ha := Aside0.mk ha
      have m0 := Own.c hI 0 1 rfl rfl
      refine value_ (w1 := w') (v := .pointer none) (wanted_on rfl rfl rfl e10) rfl ?_ ?_
      · go_simp; try rfl
        all_goals (try (simp only [IntKind.wrap_i64]; omega))
      exact hK.out _ _ ⟨(by rw [ha.out]; exact putSel_upk 10 hb_ rfl rfl rfl), hI⟩
    refine steps_cons ?_ ?_
    · rintro b a w' ⟨ha, hI⟩ hb_ hon hoff
      refine ⟨_, rfl, fun K hK => ?_⟩
      have e15 : a.tmps[15]? = some (.pointer none) := by rw [ha]; exact putSel_on (e := (10, 15, .pointer none)) 10 rfl rfl (hon 10 (by kernel_rfl)) (by rw [hsz]; rfl)
      have e10 : a.tmps[10]? = some (.bool true) := by rw [ha]; exact putSel_on (e := (5, 10, .bool true)) 5 rfl rfl (hon 5 (by kernel_rfl)) (by rw [hsz]; rfl)
      replace ha := Aside0.mk ha
      refine value_ (w1 := w') (v := .bool true) (wanted_on rfl rfl rfl e10) rfl ?_ ?_
      · go_simp; try rfl
        all_goals (try (simp only [IntKind.wrap_i64]; omega))
      exact hK.out _ _ ⟨(by rw [ha.out]; exact putSel_upk 11 hb_ rfl rfl rfl), hI⟩
    refine steps_cons ?_ ?_
    · rintro b a w' ⟨ha, hI⟩ hb_ hon hoff
      refine ⟨_, rfl, fun K hK => ?_⟩
      have e13 : a.tmps[13]? = some (.bool false) := by rw [ha]; exact putSel_on (e := (8, 13, .bool false)) 8 rfl rfl (hon 8 (by kernel_rfl)) (by rw [hsz]; rfl)
      have e16 : a.tmps[16]? = some (.bool true) := by rw [ha]; exact putSel_on (e := (11, 16, .bool true)) 11 rfl rfl (hon 11 (by kernel_rfl)) (by rw [hsz]; rfl)
      have e10 : a.tmps[10]? = some (.bool true) := by rw [ha]; exact putSel_on (e := (5, 10, .bool true)) 5 rfl rfl (hon 5 (by kernel_rfl)) (by rw [hsz]; rfl)
      replace ha := Aside0.mk ha
      refine value_ (w1 := w') (v := .bool false) (wanted_on rfl rfl rfl e10) rfl ?_ ?_
      · go_simp; try rfl
        all_goals (try (simp only [IntKind.wrap_i64]; omega))
      exact hK.out _ _ ⟨(by rw [ha.out]; exact putSel_upk 12 hb_ rfl rfl rfl), hI⟩
    refine steps_cons ?_ ?_
    · rintro b a w' ⟨ha, hI⟩ hb_ hon hoff
      refine ⟨_, rfl, fun K hK => ?_⟩
      have e10 : a.tmps[10]? = some (.bool true) := by rw [ha]; exact putSel_on (e := (5, 10, .bool true)) 5 rfl rfl (hon 5 (by kernel_rfl)) (by rw [hsz]; rfl)
      have e17 : a.tmps[17]? = some (.bool false) := by rw [ha]; exact putSel_on (e := (12, 17, .bool false)) 12 rfl rfl (hon 12 (by kernel_rfl)) (by rw [hsz]; rfl)
      replace ha := Aside0.mk ha
      refine value_ (w1 := w') (v := .bool false) (by rfl) rfl ?_ ?_
      · go_simp; try rfl
        all_goals (try (simp only [IntKind.wrap_i64]; omega))
      exact hK.out _ _ ⟨(by rw [ha.out]; exact putSel_upk 13 hb_ rfl rfl rfl), hI⟩
    refine steps_cons ?_ ?_
    · rintro b a w' ⟨ha, hI⟩ hb_ hon hoff
      refine ⟨_, rfl, fun K hK => ?_⟩
      have e18 : a.tmps[18]? = some (.bool false) := by rw [ha]; exact putSel_on (e := (13, 18, .bool false)) 13 rfl rfl (hon 13 (by kernel_rfl)) (by rw [hsz]; rfl)
      replace ha := Aside0.mk ha
      refine value_ (w1 := w') (v := .bool false) (by rfl) rfl ?_ ?_
      · go_simp; try rfl
        all_goals (try (simp only [IntKind.wrap_i64]; omega))
      exact hK.out _ _ ⟨(by rw [ha.out]; exact putSel_upk 14 hb_ rfl rfl rfl), hI⟩
    refine steps_cons ?_ ?_
    · rintro b a w' ⟨ha, hI⟩ hb_ hon hoff
      refine ⟨_, rfl, fun K hK => ?_⟩
      have e19 : a.tmps[19]? = some (.bool false) := by rw [ha]; exact putSel_on (e := (14, 19, .bool false)) 14 rfl rfl (hon 14 (by kernel_rfl)) (by rw [hsz]; rfl)
      exact off_ (wanted_off rfl rfl rfl e19) (hK.out _ _ ⟨(by rw [ha]; exact putSel_upk 15 hb_ rfl rfl rfl), hI⟩)
    refine steps_cons ?_ ?_
    · rintro b a w' ⟨ha, hI⟩ hb_ hon hoff
      refine ⟨_, rfl, fun K hK => ?_⟩
      have e19 : a.tmps[19]? = some (.bool false) := by rw [ha]; exact putSel_on (e := (14, 19, .bool false)) 14 rfl rfl (hon 14 (by kernel_rfl)) (by rw [hsz]; rfl)
      exact off_ (wanted_off rfl rfl rfl e19) (hK.out _ _ ⟨(by rw [ha]; exact putSel_upk 16 hb_ rfl rfl rfl), hI⟩)
    refine steps_cons ?_ ?_
    · rintro b a w' ⟨ha, hI⟩ hb_ hon hoff
      refine ⟨_, rfl, fun K hK => ?_⟩
      have e19 : a.tmps[19]? = some (.bool false) := by rw [ha]; exact putSel_on (e := (14, 19, .bool false)) 14 rfl rfl (hon 14 (by kernel_rfl)) (by rw [hsz]; rfl)
      exact off_ (wanted_off rfl rfl rfl e19) (hK.out _ _ ⟨(by rw [ha]; exact putSel_upk 17 hb_ rfl rfl rfl), hI⟩)
    refine steps_cons ?_ ?_
    · rintro b a w' ⟨ha, hI⟩ hb_ hon hoff
      refine ⟨_, rfl, fun K hK => ?_⟩
      have e19 : a.tmps[19]? = some (.bool false) := by rw [ha]; exact putSel_on (e := (14, 19, .bool false)) 14 rfl rfl (hon 14 (by kernel_rfl)) (by rw [hsz]; rfl)
      exact off_ (wanted_off rfl rfl rfl e19) (hK.out _ _ ⟨(by rw [ha]; exact putSel_upk 18 hb_ rfl rfl rfl), hI⟩)
    refine steps_cons ?_ ?_
    · rintro b a w' ⟨ha, hI⟩ hb_ hon hoff
      refine ⟨_, rfl, fun K hK => ?_⟩
      have e23 : a.tmps[23]? = some (undef) := by rw [ha]; exact putSel_on (e := (18, 23, undef)) 18 rfl rfl (hon 18 (by kernel_rfl)) (by rw [hsz]; rfl)
      exact off_ (wanted_und rfl rfl rfl e23) (hK.out _ _ ⟨(by rw [ha]; exact putSel_upk 19 hb_ rfl rfl rfl), hI⟩)
    refine steps_cons ?_ ?_
    · rintro b a w' ⟨ha, hI⟩ hb_ hon hoff
      refine ⟨_, rfl, fun K hK => ?_⟩
      have e23 : a.tmps[23]? = some (undef) := by rw [ha]; exact putSel_on (e := (18, 23, undef)) 18 rfl rfl (hon 18 (by kernel_rfl)) (by rw [hsz]; rfl)
      exact off_ (wanted_und rfl rfl rfl e23) (hK.out _ _ ⟨(by rw [ha]; exact putSel_upk 20 hb_ rfl rfl rfl), hI⟩)
    refine steps_cons ?_ ?_
    · rintro b a w' ⟨ha, hI⟩ hb_ hon hoff
      refine ⟨_, rfl, fun K hK => ?_⟩
      have e23 : a.tmps[23]? = some (undef) := by rw [ha]; exact putSel_on (e := (18, 23, undef)) 18 rfl rfl (hon 18 (by kernel_rfl)) (by rw [hsz]; rfl)
      exact off_ (wanted_und rfl rfl rfl e23) (hK.out _ _ ⟨(by rw [ha]; exact putSel_upk 21 hb_ rfl rfl rfl), hI⟩)
    refine steps_cons ?_ ?_
    · rintro b a w' ⟨ha, hI⟩ hb_ hon hoff
      refine ⟨_, rfl, fun K hK => ?_⟩
      have e23 : a.tmps[23]? = some (undef) := by rw [ha]; exact putSel_on (e := (18, 23, undef)) 18 rfl rfl (hon 18 (by kernel_rfl)) (by rw [hsz]; rfl)
      exact off_ (wanted_und rfl rfl rfl e23) (hK.out _ _ ⟨(by rw [ha]; exact putSel_upk 22 hb_ rfl rfl rfl), hI⟩)
    refine steps_cons ?_ ?_
    · rintro b a w' ⟨ha, hI⟩ hb_ hon hoff
      refine ⟨_, rfl, fun K hK => ?_⟩
      have e23 : a.tmps[23]? = some (undef) := by rw [ha]; exact putSel_on (e := (18, 23, undef)) 18 rfl rfl (hon 18 (by kernel_rfl)) (by rw [hsz]; rfl)
      exact off_ (wanted_und rfl rfl rfl e23) (hK.out _ _ ⟨(by rw [ha]; exact putSel_upk 23 hb_ rfl rfl rfl), hI⟩)
    refine steps_cons ?_ ?_
    · rintro b a w' ⟨ha, hI⟩ hb_ hon hoff
      refine ⟨_, rfl, fun K hK => ?_⟩
      have e23 : a.tmps[23]? = some (undef) := by rw [ha]; exact putSel_on (e := (18, 23, undef)) 18 rfl rfl (hon 18 (by kernel_rfl)) (by rw [hsz]; rfl)
      exact off_ (wanted_und rfl rfl rfl e23) (hK.out _ _ ⟨(by rw [ha]; exact putSel_upk 24 hb_ rfl rfl rfl), hI⟩)
    refine steps_cons ?_ ?_
    · rintro b a w' ⟨ha, hI⟩ hb_ hon hoff
      refine ⟨_, rfl, fun K hK => ?_⟩
      have e23 : a.tmps[23]? = some (undef) := by rw [ha]; exact putSel_on (e := (18, 23, undef)) 18 rfl rfl (hon 18 (by kernel_rfl)) (by rw [hsz]; rfl)
      exact off_ (wanted_und rfl rfl rfl e23) (hK.out _ _ ⟨(by rw [ha]; exact putSel_upk 25 hb_ rfl rfl rfl), hI⟩)
    refine steps_cons ?_ ?_
    · rintro b a w' ⟨ha, hI⟩ hb_ hon hoff
      refine ⟨_, rfl, fun K hK => ?_⟩
      have e23 : a.tmps[23]? = some (undef) := by rw [ha]; exact putSel_on (e := (18, 23, undef)) 18 rfl rfl (hon 18 (by kernel_rfl)) (by rw [hsz]; rfl)
      exact off_ (wanted_und rfl rfl rfl e23) (hK.out _ _ ⟨(by rw [ha]; exact putSel_upk 26 hb_ rfl rfl rfl), hI⟩)
    refine steps_cons ?_ ?_
    · rintro b a w' ⟨ha, hI⟩ hb_ hon hoff
      refine ⟨_, rfl, fun K hK => ?_⟩
      have e23 : a.tmps[23]? = some (undef) := by rw [ha]; exact putSel_on (e := (18, 23, undef)) 18 rfl rfl (hon 18 (by kernel_rfl)) (by rw [hsz]; rfl)
      exact off_ (wanted_und rfl rfl rfl e23) (hK.out _ _ ⟨(by rw [ha]; exact putSel_upk 27 hb_ rfl rfl rfl), hI⟩)
    refine steps_cons ?_ ?_
    · rintro b a w' ⟨ha, hI⟩ hb_ hon hoff
      refine ⟨_, rfl, fun K hK => ?_⟩
      have e19 : a.tmps[19]? = some (.bool false) := by rw [ha]; exact putSel_on (e := (14, 19, .bool false)) 14 rfl rfl (hon 14 (by kernel_rfl)) (by rw [hsz]; rfl)
      exact off_ (wanted_off rfl rfl rfl e19) (hK.out _ _ ⟨(by rw [ha]; exact putSel_upk 28 hb_ rfl rfl rfl), hI⟩)
    refine steps_cons ?_ ?_
    · rintro b a w' ⟨ha, hI⟩ hb_ hon hoff
      refine ⟨_, rfl, fun K hK => ?_⟩
      have e19 : a.tmps[19]? = some (.bool false) := by rw [ha]; exact putSel_on (e := (14, 19, .bool false)) 14 rfl rfl (hon 14 (by kernel_rfl)) (by rw [hsz]; rfl)
      have e33 : a.tmps[33]? = some (undef) := by rw [ha]; exact putSel_on (e := (28, 33, undef)) 28 rfl rfl (hon 28 (by kernel_rfl)) (by rw [hsz]; rfl)
      replace ha := Aside0.mk ha
      refine value_ (w1 := w') (v := .bool false) (by rfl) rfl ?_ ?_
      · go_simp; try rfl
        all_goals (try (simp only [IntKind.wrap_i64]; omega))
      exact hK.out _ _ ⟨(by rw [ha.out]; exact putSel_upk 29 hb_ rfl rfl rfl), hI⟩
    refine steps_cons ?_ ?_
    · rintro b a w' ⟨ha, hI⟩ hb_ hon hoff
      refine ⟨_, rfl, fun K hK => ?_⟩
      have e34 : a.tmps[34]? = some (.bool false) := by rw [ha]; exact putSel_on (e := (29, 34, .bool false)) 29 rfl rfl (hon 29 (by kernel_rfl)) (by rw [hsz]; rfl)
      replace ha := Aside0.mk ha
      refine value_ (w1 := w') (v := .bool false) (by rfl) rfl ?_ ?_
      · go_simp; try rfl
        all_goals (try (simp only [IntKind.wrap_i64]; omega))
      exact hK.out _ _ ⟨(by rw [ha.out]; exact putSel_upk 30 hb_ rfl rfl rfl), hI⟩
    exact steps_nil
  rintro b a w1 hall ⟨ha, hI1⟩
  exact hend a w1 hI1 (by rw [ha]; simp only [putSel, if_true, hall 0 (by kernel_rfl), hall 1 (by kernel_rfl), hall 2 (by kernel_rfl), hall 3 (by kernel_rfl), hall 4 (by kernel_rfl), hall 5 (by kernel_rfl), hall 6 (by kernel_rfl), hall 7 (by kernel_rfl), hall 8 (by kernel_rfl), hall 9 (by kernel_rfl), hall 10 (by kernel_rfl), hall 11 (by kernel_rfl), hall 12 (by kernel_rfl), hall 13 (by kernel_rfl), hall 14 (by kernel_rfl), hall 15 (by kernel_rfl), hall 16 (by kernel_rfl), hall 17 (by kernel_rfl), hall 18 (by kernel_rfl), hall 19 (by kernel_rfl), hall 20 (by kernel_rfl), hall 21 (by kernel_rfl), hall 22 (by kernel_rfl), hall 23 (by kernel_rfl), hall 24 (by kernel_rfl), hall 25 (by kernel_rfl), hall 26 (by kernel_rfl), hall 27 (by kernel_rfl), hall 28 (by kernel_rfl), hall 29 (by kernel_rfl), hall 30 (by kernel_rfl)]) (by rw [ha]; exact (putSel_size b _ a0).2) (by rw [ha]; exact putSel_on (e := (30, 4, .bool false)) 30 rfl rfl (hall 30 (by kernel_rfl)) (by rw [hsz]; rfl))
end Go.Proofs.YtipmphgkdomebaaDoor
namespace Go.Proofs.YtipmphgkdomebaaDoor
open Go.RowKit Go.Proofs.YtipmphgkdomebaaDoorW.PrintWords Go.Proofs.YtipmphgkdomebaaDoorW.PrintLast
set_option linter.unusedVariables false
set_option linter.unusedSimpArgs false
def as80c.T : Bool × List (List Nat × List Nat) := (true, [([], []), ([0], [0]), ([], []), ([2], [2]), ([1, 3], [1, 3]), ([4], [4]), ([5], [5]), ([6, 5], [5, 6]), ([7, 5], [5, 7]), ([5], [5]), ([9, 5], [5, 9]), ([10, 5], [5, 10]), ([8, 11, 5], [5, 8, 11]), ([5, 12], [5, 12]), ([13, 5], [13]), ([14], [14]), ([15, 14], [14, 15]), ([16, 14], [14, 16]), ([17, 14, 14], [14, 17]), ([18], [18]), ([19, 18], [18, 19]), ([20, 18], [18, 20]), ([21, 18], [18, 21]), ([18], [18]), ([23, 18], [18, 23]), ([24, 18], [18, 24]), ([25, 18], [18, 25]), ([22, 26, 18, 18], [18, 22, 26]), ([18, 27, 14], [14, 18, 27]), ([14, 28], [14, 28]), ([29, 27, 0, 1, 2, 3, 4, 5, 6, 7, 8, 9, 10, 11, 12, 13, 14, 15, 16, 17, 18, 19, 20, 21, 22, 23, 24, 25, 26, 27, 28, 29], [29])])
def as80c.B : List Nat := [0, 1, 0, 4, 15, 31, 63, 127, 255, 63, 575, 1599, 4095, 8191, 16383, 32767, 65535, 131071, 262143, 524287, 1048575, 2097151, 4194303, 524287, 8912895, 25690111, 59244543, 134217727, 268435455, 536870911, 1073741823]
theorem as80c.tab : rtab .any (opsOf Tryd.f80 1) = as80c.T := by kernel_rfl
theorem as80c.bits : waitsOk as80c.T.2 as80c.B = true := by kernel_rfl
set_option maxRecDepth 100000 in
set_option maxHeartbeats 4000000 in
theorem as80c (w0 : World) (t1 t2 : ByteArray) (hq : (t1.toList == t2.toList) = true) (a0 : Act) (s2 : a0.tmps[2]? = some (.pointer (some ⟨w0.heap.size, 0, none⟩))) (s3 : a0.tmps[3]? = some (.pointer (some ⟨w0.heap.size + 1, 0, none⟩))) (hsz : a0.tmps.size = Tryd.f80.ntmps) (W : World) (hI : ElI w0 t1 none t2 none W.drew) (Q : Exit → Act → World → Prop) (hend : ∀ (a9 : Act) w', ElI w0 t1 none t2 none w' → a9 = putSel a0 (fun _ => true) [(0, 5, .pointer (some ⟨w0.heap.size, 0, none⟩)), (1, 6, .string t1), (2, 7, .pointer (some ⟨w0.heap.size + 1, 0, none⟩)), (3, 8, .string t2), (4, 9, .bool true), (5, 10, .bool true), (6, 11, .pointer (some ⟨w0.heap.size, 1, none⟩)), (7, 12, .pointer none), (8, 13, .bool true), (9, 14, .pointer (some ⟨w0.heap.size + 1, 1, none⟩)), (10, 15, .pointer none), (11, 16, .bool true), (12, 17, .bool true), (13, 18, .bool true), (14, 19, .bool true), (15, 20, .pointer (some ⟨w0.heap.size, 1, none⟩)), (16, 21, .pointer none), (17, 22, .bool true), (18, 23, .bool true), (19, 24, undef), (20, 25, undef), (21, 26, undef), (22, 27, undef), (23, 28, undef), (24, 29, undef), (25, 30, undef), (26, 31, undef), (27, 32, undef), (28, 33, .bool true), (29, 34, .bool true), (30, 4, .bool true)] → a9.defers = a0.defers → a9.tmps[4]? = some (.bool true) → Q .normal a9 w') :
    (Code.region 1 #[{ dst := some 5, op := Op.fieldAddr 42 (Operand.tmp 2) 0, type := 0, pos := "ast.go:88", after := #[], guard := none }, { dst := some 6, op := Op.load 9 (Operand.tmp 5), type := 9, pos := "ast.go:88", after := #[{ on := 0, ground := Ground.data }], guard := none }, { dst := some 7, op := Op.fieldAddr 42 (Operand.tmp 3) 0, type := 0, pos := "ast.go:88", after := #[], guard := none }, { dst := some 8, op := Op.load 9 (Operand.tmp 7), type := 9, pos := "ast.go:88", after := #[{ on := 2, ground := Ground.data }], guard := none }, { dst := some 9, op := Op.binOp BinOp.eql 9 (Operand.tmp 6) (Operand.tmp 8) 9, type := 4, pos := "ast.go:88", after := #[{ on := 1, ground := Ground.data }, { on := 3, ground := Ground.data }], guard := none }, { dst := some 10, op := Op.move (Operand.tmp 9), type := 4, pos := "ast.go:88", after := #[{ on := 4, ground := Ground.data }], guard := none }, { dst := some 11, op := Op.fieldAddr 42 (Operand.tmp 2) 1, type := 0, pos := "ast.go:88", after := #[{ on := 5, ground := Ground.guard }], guard := some (5, true) }, { dst := some 12, op := Op.load 37 (Operand.tmp 11), type := 37, pos := "ast.go:88", after := #[{ on := 6, ground := Ground.data }, { on := 5, ground := Ground.guard }], guard := some (5, true) }, { dst := some 13, op := Op.binOp BinOp.eql 37 (Operand.tmp 12) (Operand.const (Value.pointer none)) 37, type := 4, pos := "ast.go:88", after := #[{ on := 7, ground := Ground.data }, { on := 5, ground := Ground.guard }], guard := some (5, true) }, { dst := some 14, op := Op.fieldAddr 42 (Operand.tmp 3) 1, type := 0, pos := "ast.go:88", after := #[{ on := 5, ground := Ground.guard }], guard := some (5, true) }, { dst := some 15, op := Op.load 37 (Operand.tmp 14), type := 37, pos := "ast.go:88", after := #[{ on := 9, ground := Ground.data }, { on := 5, ground := Ground.guard }], guard := some (5, true) }, { dst := some 16, op := Op.binOp BinOp.eql 37 (Operand.tmp 15) (Operand.const (Value.pointer none)) 37, type := 4, pos := "ast.go:88", after := #[{ on := 10, ground := Ground.data }, { on := 5, ground := Ground.guard }], guard := some (5, true) }, { dst := some 17, op := Op.binOp BinOp.eql 4 (Operand.tmp 13) (Operand.tmp 16) 4, type := 4, pos := "ast.go:88", after := #[{ on := 8, ground := Ground.data }, { on := 11, ground := Ground.data }, { on := 5, ground := Ground.guard }], guard := some (5, true) }, { dst := some 18, op := Op.pick (Operand.tmp 10) (Operand.tmp 17) (Operand.const (Value.bool false)), type := 4, pos := "ast.go:88", after := #[{ on := 5, ground := Ground.data }, { on := 12, ground := Ground.data }], guard := none }, { dst := some 19, op := Op.move (Operand.tmp 18), type := 4, pos := "ast.go:88", after := #[{ on := 13, ground := Ground.data }, { on := 5, ground := Ground.chain }], guard := none }, { dst := some 20, op := Op.fieldAddr 42 (Operand.tmp 2) 1, type := 0, pos := "ast.go:88", after := #[{ on := 14, ground := Ground.guard }], guard := some (14, true) }, { dst := some 21, op := Op.load 37 (Operand.tmp 20), type := 37, pos := "ast.go:88", after := #[{ on := 15, ground := Ground.data }, { on := 14, ground := Ground.guard }], guard := some (14, true) }, { dst := some 22, op := Op.binOp BinOp.eql 37 (Operand.tmp 21) (Operand.const (Value.pointer none)) 37, type := 4, pos := "ast.go:88", after := #[{ on := 16, ground := Ground.data }, { on := 14, ground := Ground.guard }], guard := some (14, true) }, { dst := some 23, op := Op.move (Operand.tmp 22), type := 4, pos := "ast.go:88", after := #[{ on := 17, ground := Ground.data }, { on := 14, ground := Ground.chain }, { on := 14, ground := Ground.guard }], guard := some (14, true) }, { dst := some 24, op := Op.fieldAddr 42 (Operand.tmp 2) 1, type := 0, pos := "ast.go:88", after := #[{ on := 18, ground := Ground.guard }], guard := some (18, false) }, { dst := some 25, op := Op.load 37 (Operand.tmp 24), type := 37, pos := "ast.go:88", after := #[{ on := 19, ground := Ground.data }, { on := 18, ground := Ground.guard }], guard := some (18, false) }, { dst := some 26, op := Op.nilCheck (Operand.tmp 25), type := 0, pos := "ast.go:88", after := #[{ on := 20, ground := Ground.data }, { on := 18, ground := Ground.guard }], guard := some (18, false) }, { dst := some 27, op := Op.load 40 (Operand.tmp 26), type := 40, pos := "ast.go:88", after := #[{ on := 21, ground := Ground.data }, { on := 18, ground := Ground.guard }], guard := some (18, false) }, { dst := some 28, op := Op.fieldAddr 42 (Operand.tmp 3) 1, type := 0, pos := "ast.go:88", after := #[{ on := 18, ground := Ground.guard }], guard := some (18, false) }, { dst := some 29, op := Op.load 37 (Operand.tmp 28), type := 37, pos := "ast.go:88", after := #[{ on := 23, ground := Ground.data }, { on := 18, ground := Ground.guard }], guard := some (18, false) }, { dst := some 30, op := Op.nilCheck (Operand.tmp 29), type := 0, pos := "ast.go:88", after := #[{ on := 24, ground := Ground.data }, { on := 18, ground := Ground.guard }], guard := some (18, false) }, { dst := some 31, op := Op.load 40 (Operand.tmp 30), type := 40, pos := "ast.go:88", after := #[{ on := 25, ground := Ground.data }, { on := 18, ground := Ground.guard }], guard := some (18, false) }, { dst := some 32, op := Op.call { callee := Callee.value (Operand.func 81), args := #[Operand.tmp 27, Operand.tmp 31], argTypes := #[37, 40] }, type := 4, pos := "ast.go:88", after := #[{ on := 22, ground := Ground.data }, { on := 26, ground := Ground.data }, { on := 18, ground := Ground.chain }, { on := 18, ground := Ground.guard }], guard := some (18, false) }, { dst := some 33, op := Op.pick (Operand.tmp 23) (Operand.const (Value.bool true)) (Operand.tmp 32), type := 4, pos := "ast.go:88", after := #[{ on := 18, ground := Ground.data }, { on := 27, ground := Ground.data }, { on := 14, ground := Ground.guard }], guard := some (14, true) }, { dst := some 34, op := Op.pick (Operand.tmp 19) (Operand.tmp 33) (Operand.const (Value.bool false)), type := 4, pos := "ast.go:88", after := #[{ on := 14, ground := Ground.data }, { on := 28, ground := Ground.data }], guard := none }, { dst := some 4, op := Op.assign (Operand.tmp 34), type := 4, pos := "ast.go:88", after := #[{ on := 29, ground := Ground.data }, { on := 27, ground := Ground.chain }, { on := 0, ground := Ground.phase }, { on := 1, ground := Ground.phase }, { on := 2, ground := Ground.phase }, { on := 3, ground := Ground.phase }, { on := 4, ground := Ground.phase }, { on := 5, ground := Ground.phase }, { on := 6, ground := Ground.phase }, { on := 7, ground := Ground.phase }, { on := 8, ground := Ground.phase }, { on := 9, ground := Ground.phase }, { on := 10, ground := Ground.phase }, { on := 11, ground := Ground.phase }, { on := 12, ground := Ground.phase }, { on := 13, ground := Ground.phase }, { on := 14, ground := Ground.phase }, { on := 15, ground := Ground.phase }, { on := 16, ground := Ground.phase }, { on := 17, ground := Ground.phase }, { on := 18, ground := Ground.phase }, { on := 19, ground := Ground.phase }, { on := 20, ground := Ground.phase }, { on := 21, ground := Ground.phase }, { on := 22, ground := Ground.phase }, { on := 23, ground := Ground.phase }, { on := 24, ground := Ground.phase }, { on := 25, ground := Ground.phase }, { on := 26, ground := Ground.phase }, { on := 27, ground := Ground.phase }, { on := 28, ground := Ground.phase }, { on := 29, ground := Ground.phase }], guard := none }] true).wp Tryd.prog Q a0 W := by
  refine start_ (n := 31) (S := fun w' => True) (ds := []) #[false, false, false, false, false, false, false, false, false, false, false, false, false, false, false, false, false, false, false, false, false, false, false, false, false, false, false, false, false, false, false] (by kernel_rfl) rfl rfl trivial (fun hHeld => ?_)
  refine with_tabW as80c.tab as80c.bits (fun HT_ HW_ => ?_)
  refine inv_at [0, 1, 2, 3, 4, 5, 6, 7, 8, 9, 10, 11, 12, 13, 14, 15, 16, 17, 18, 19, 20, 21, 22, 23, 24, 25, 26, 27, 28, 29, 30] (fun a0_ b a w' => a = putSel a0_ b [(0, 5, .pointer (some ⟨w0.heap.size, 0, none⟩)), (1, 6, .string t1), (2, 7, .pointer (some ⟨w0.heap.size + 1, 0, none⟩)), (3, 8, .string t2), (4, 9, .bool true), (5, 10, .bool true), (6, 11, .pointer (some ⟨w0.heap.size, 1, none⟩)), (7, 12, .pointer none), (8, 13, .bool true), (9, 14, .pointer (some ⟨w0.heap.size + 1, 1, none⟩)), (10, 15, .pointer none), (11, 16, .bool true), (12, 17, .bool true), (13, 18, .bool true), (14, 19, .bool true), (15, 20, .pointer (some ⟨w0.heap.size, 1, none⟩)), (16, 21, .pointer none), (17, 22, .bool true), (18, 23, .bool true), (19, 24, undef), (20, 25, undef), (21, 26, undef), (22, 27, undef), (23, 28, undef), (24, 29, undef), (25, 30, undef), (26, 31, undef), (27, 32, undef), (28, 33, .bool true), (29, 34, .bool true), (30, 4, .bool true)] ∧ (ElI w0 t1 none t2 none w')) HT_.out HW_.out (by kernel_rfl) (by kernel_rfl) ?_ ?_ ?_
  · exact ⟨(by simp only [putSel, Bool.false_eq_true, if_false]), hI⟩
  · clear hI hend hHeld
    refine steps_cons ?_ ?_
    · rintro b a w' ⟨ha, hI⟩ hb_ hon hoff
      refine ⟨_, rfl, fun K hK => ?_⟩
      have e2 : a.tmps[2]? = some (.pointer (some ⟨w0.heap.size, 0, none⟩)) := by rw [ha]; exact (putSel_off rfl).trans s2
      replace ha := Aside0.mk ha
      refine value_ (w1 := w') (v := .pointer (some ⟨w0.heap.size, 0, none⟩)) (by rfl) rfl ?_ ?_
      · go_simp; try rfl
        all_goals (try (simp only [IntKind.wrap_i64]; omega))
      exact hK.out _ _ ⟨(by rw [ha.out]; exact putSel_upk 0 hb_ rfl rfl rfl), hI⟩
    refine steps_cons ?_ ?_
    · rintro b a w' ⟨ha, hI⟩ hb_ hon hoff
      refine ⟨_, rfl, fun K hK => ?_⟩
      have e5 : a.tmps[5]? = some (.pointer (some ⟨w0.heap.size, 0, none⟩)) := by rw [ha]; exact putSel_on (e := (0, 5, .pointer (some ⟨w0.heap.size, 0, none⟩))) 0 rfl rfl (hon 0 (by kernel_rfl)) (by rw [hsz]; rfl)
      replace ha := Aside0.mk ha
      have m0 := Own.c hI 1 0 rfl rfl
      refine value_ (w1 := w') (v := .string t1) (by rfl) rfl ?_ ?_
      · go_simp; try rfl
        all_goals (try (simp only [IntKind.wrap_i64]; omega))
      exact hK.out _ _ ⟨(by rw [ha.out]; exact putSel_upk 1 hb_ rfl rfl rfl), hI⟩
    refine steps_cons ?_ ?_
    · rintro b a w' ⟨ha, hI⟩ hb_ hon hoff
      refine ⟨_, rfl, fun K hK => ?_⟩
      have e3 : a.tmps[3]? = some (.pointer (some ⟨w0.heap.size + 1, 0, none⟩)) := by rw [ha]; exact (putSel_off rfl).trans s3
      replace ha := Aside0.mk ha
      refine value_ (w1 := w') (v := .pointer (some ⟨w0.heap.size + 1, 0, none⟩)) (by rfl) rfl ?_ ?_
      · go_simp; try rfl
        all_goals (try (simp only [IntKind.wrap_i64]; omega))
      exact hK.out _ _ ⟨(by rw [ha.out]; exact putSel_upk 2 hb_ rfl rfl rfl), hI⟩
    refine steps_cons ?_ ?_
    · rintro b a w' ⟨ha, hI⟩ hb_ hon hoff
      refine ⟨_, rfl, fun K hK => ?_⟩
      have e7 : a.tmps[7]? = some (.pointer (some ⟨w0.heap.size + 1, 0, none⟩)) := by rw [ha]; exact putSel_on (e := (2, 7, .pointer (some ⟨w0.heap.size + 1, 0, none⟩))) 2 rfl rfl (hon 2 (by kernel_rfl)) (by rw [hsz]; rfl)
      replace ha := Aside0.mk ha
      have m0 := Own.c hI 0 0 rfl rfl
      refine value_ (w1 := w') (v := .string t2) (by rfl) rfl ?_ ?_
      · go_simp; try rfl
        all_goals (try (simp only [IntKind.wrap_i64]; omega))
      exact hK.out _ _ ⟨(by rw [ha.out]; exact putSel_upk 3 hb_ rfl rfl rfl), hI⟩
    refine steps_cons ?_ ?_
    · rintro b a w' ⟨ha, hI⟩ hb_ hon hoff
      refine ⟨_, rfl, fun K hK => ?_⟩
      have e6 : a.tmps[6]? = some (.string t1) := by rw [ha]; exact putSel_on (e := (1, 6, .string t1)) 1 rfl rfl (hon 1 (by kernel_rfl)) (by rw [hsz]; rfl)
      have e8 : a.tmps[8]? = some (.string t2) := by rw [ha]; exact putSel_on (e := (3, 8, .string t2)) 3 rfl rfl (hon 3 (by kernel_rfl)) (by rw [hsz]; rfl)
      replace ha := Aside0.mk ha
      refine value_ (w1 := w') (v := .bool true) (by rfl) rfl ?_ ?_
      · go_simp; try rfl
        all_goals (try (simp only [IntKind.wrap_i64]; omega))
      exact hK.out _ _ ⟨(by rw [ha.out]; exact putSel_upk 4 hb_ rfl rfl rfl), hI⟩
    refine steps_cons ?_ ?_
    · rintro b a w' ⟨ha, hI⟩ hb_ hon hoff
      refine ⟨_, rfl, fun K hK => ?_⟩
      have e9 : a.tmps[9]? = some (.bool true) := by rw [ha]; exact putSel_on (e := (4, 9, .bool true)) 4 rfl rfl (hon 4 (by kernel_rfl)) (by rw [hsz]; rfl)
      replace ha := Aside0.mk ha
      refine value_ (w1 := w') (v := .bool true) (by rfl) rfl ?_ ?_
      · go_simp; try rfl
        all_goals (try (simp only [IntKind.wrap_i64]; omega))
      exact hK.out _ _ ⟨(by rw [ha.out]; exact putSel_upk 5 hb_ rfl rfl rfl), hI⟩
    refine steps_cons ?_ ?_
    · rintro b a w' ⟨ha, hI⟩ hb_ hon hoff
      refine ⟨_, rfl, fun K hK => ?_⟩
      have e2 : a.tmps[2]? = some (.pointer (some ⟨w0.heap.size, 0, none⟩)) := by rw [ha]; exact (putSel_off rfl).trans s2
      have e10 : a.tmps[10]? = some (.bool true) := by rw [ha]; exact putSel_on (e := (5, 10, .bool true)) 5 rfl rfl (hon 5 (by kernel_rfl)) (by rw [hsz]; rfl)
      replace ha := Aside0.mk ha
      refine value_ (w1 := w') (v := .pointer (some ⟨w0.heap.size, 1, none⟩)) (wanted_on rfl rfl rfl e10) rfl ?_ ?_
      · go_simp; try rfl
        all_goals (try (simp only [IntKind.wrap_i64]; omega))
      exact hK.out _ _ ⟨(by rw [ha.out]; exact putSel_upk 6 hb_ rfl rfl rfl), hI⟩
    refine steps_cons ?_ ?_
    · rintro b a w' ⟨ha, hI⟩ hb_ hon hoff
      refine ⟨_, rfl, fun K hK => ?_⟩
      have e11 : a.tmps[11]? = some (.pointer (some ⟨w0.heap.size, 1, none⟩)) := by rw [ha]; exact putSel_on (e := (6, 11, .pointer (some ⟨w0.heap.size, 1, none⟩))) 6 rfl rfl (hon 6 (by kernel_rfl)) (by rw [hsz]; rfl)
      have e10 : a.tmps[10]? = some (.bool true) := by rw [ha]; exact putSel_on (e := (5, 10, .bool true)) 5 rfl rfl (hon 5 (by kernel_rfl)) (by rw [hsz]; rfl)
      replace ha := Aside0.mk ha
      have m0 := Own.c hI 1 1 rfl rfl
      refine value_ (w1 := w') (v := .pointer none) (wanted_on rfl rfl rfl e10) rfl ?_ ?_
      · go_simp; try rfl
        all_goals (try (simp only [IntKind.wrap_i64]; omega))
      exact hK.out _ _ ⟨(by rw [ha.out]; exact putSel_upk 7 hb_ rfl rfl rfl), hI⟩
    refine steps_cons ?_ ?_
    · rintro b a w' ⟨ha, hI⟩ hb_ hon hoff
      refine ⟨_, rfl, fun K hK => ?_⟩
      have e12 : a.tmps[12]? = some (.pointer none) := by rw [ha]; exact putSel_on (e := (7, 12, .pointer none)) 7 rfl rfl (hon 7 (by kernel_rfl)) (by rw [hsz]; rfl)
      have e10 : a.tmps[10]? = some (.bool true) := by rw [ha]; exact putSel_on (e := (5, 10, .bool true)) 5 rfl rfl (hon 5 (by kernel_rfl)) (by rw [hsz]; rfl)
      replace ha := Aside0.mk ha
      refine value_ (w1 := w') (v := .bool true) (wanted_on rfl rfl rfl e10) rfl ?_ ?_
      · go_simp; try rfl
        all_goals (try (simp only [IntKind.wrap_i64]; omega))
      exact hK.out _ _ ⟨(by rw [ha.out]; exact putSel_upk 8 hb_ rfl rfl rfl), hI⟩
    refine steps_cons ?_ ?_
    · rintro b a w' ⟨ha, hI⟩ hb_ hon hoff
      refine ⟨_, rfl, fun K hK => ?_⟩
      have e3 : a.tmps[3]? = some (.pointer (some ⟨w0.heap.size + 1, 0, none⟩)) := by rw [ha]; exact (putSel_off rfl).trans s3
      have e10 : a.tmps[10]? = some (.bool true) := by rw [ha]; exact putSel_on (e := (5, 10, .bool true)) 5 rfl rfl (hon 5 (by kernel_rfl)) (by rw [hsz]; rfl)
      replace ha := Aside0.mk ha
      refine value_ (w1 := w') (v := .pointer (some ⟨w0.heap.size + 1, 1, none⟩)) (wanted_on rfl rfl rfl e10) rfl ?_ ?_
      · go_simp; try rfl
        all_goals (try (simp only [IntKind.wrap_i64]; omega))
      exact hK.out _ _ ⟨(by rw [ha.out]; exact putSel_upk 9 hb_ rfl rfl rfl), hI⟩
    refine steps_cons ?_ ?_
    · rintro b a w' ⟨ha, hI⟩ hb_ hon hoff
      refine ⟨_, rfl, fun K hK => ?_⟩
      have e14 : a.tmps[14]? = some (.pointer (some ⟨w0.heap.size + 1, 1, none⟩)) := by rw [ha]; exact putSel_on (e := (9, 14, .pointer (some ⟨w0.heap.size + 1, 1, none⟩))) 9 rfl rfl (hon 9 (by kernel_rfl)) (by rw [hsz]; rfl)
      have e10 : a.tmps[10]? = some (.bool true) := by rw [ha]; exact putSel_on (e := (5, 10, .bool true)) 5 rfl rfl (hon 5 (by kernel_rfl)) (by rw [hsz]; rfl)
      replace ha := Aside0.mk ha
      have m0 := Own.c hI 0 1 rfl rfl
      refine value_ (w1 := w') (v := .pointer none) (wanted_on rfl rfl rfl e10) rfl ?_ ?_
      · go_simp; try rfl
        all_goals (try (simp only [IntKind.wrap_i64]; omega))
      exact hK.out _ _ ⟨(by rw [ha.out]; exact putSel_upk 10 hb_ rfl rfl rfl), hI⟩
    refine steps_cons ?_ ?_
    · rintro b a w' ⟨ha, hI⟩ hb_ hon hoff
      refine ⟨_, rfl, fun K hK => ?_⟩
      have e15 : a.tmps[15]? = some (.pointer none) := by rw [ha]; exact putSel_on (e := (10, 15, .pointer none)) 10 rfl rfl (hon 10 (by kernel_rfl)) (by rw [hsz]; rfl)
      have e10 : a.tmps[10]? = some (.bool true) := by rw [ha]; exact putSel_on (e := (5, 10, .bool true)) 5 rfl rfl (hon 5 (by kernel_rfl)) (by rw [hsz]; rfl)
      replace ha := Aside0.mk ha
      refine value_ (w1 := w') (v := .bool true) (wanted_on rfl rfl rfl e10) rfl ?_ ?_
      · go_simp; try rfl
        all_goals (try (simp only [IntKind.wrap_i64]; omega))
      exact hK.out _ _ ⟨(by rw [ha.out]; exact putSel_upk 11 hb_ rfl rfl rfl), hI⟩
    refine steps_cons ?_ ?_
    · rintro b a w' ⟨ha, hI⟩ hb_ hon hoff
      refine ⟨_, rfl, fun K hK => ?_⟩
      have e13 : a.tmps[13]? = some (.bool true) := by rw [ha]; exact putSel_on (e := (8, 13, .bool true)) 8 rfl rfl (hon 8 (by kernel_rfl)) (by rw [hsz]; rfl)
      have e16 : a.tmps[16]? = some (.bool true) := by rw [ha]; exact putSel_on (e := (11, 16, .bool true)) 11 rfl rfl (hon 11 (by kernel_rfl)) (by rw [hsz]; rfl)
      have e10 : a.tmps[10]? = some (.bool true) := by rw [ha]; exact putSel_on (e := (5, 10, .bool true)) 5 rfl rfl (hon 5 (by kernel_rfl)) (by rw [hsz]; rfl)
      replace ha := Aside0.mk ha
      refine value_ (w1 := w') (v := .bool true) (wanted_on rfl rfl rfl e10) rfl ?_ ?_
      · go_simp; try rfl
        all_goals (try (simp only [IntKind.wrap_i64]; omega))
      exact hK.out _ _ ⟨(by rw [ha.out]; exact putSel_upk 12 hb_ rfl rfl rfl), hI⟩
    refine steps_cons ?_ ?_
    · rintro b a w' ⟨ha, hI⟩ hb_ hon hoff
      refine ⟨_, rfl, fun K hK => ?_⟩
      have e10 : a.tmps[10]? = some (.bool true) := by rw [ha]; exact putSel_on (e := (5, 10, .bool true)) 5 rfl rfl (hon 5 (by kernel_rfl)) (by rw [hsz]; rfl)
      have e17 : a.tmps[17]? = some (.bool true) := by rw [ha]; exact putSel_on (e := (12, 17, .bool true)) 12 rfl rfl (hon 12 (by kernel_rfl)) (by rw [hsz]; rfl)
      replace ha := Aside0.mk ha
      refine value_ (w1 := w') (v := .bool true) (by rfl) rfl ?_ ?_
      · go_simp; try rfl
        all_goals (try (simp only [IntKind.wrap_i64]; omega))
      exact hK.out _ _ ⟨(by rw [ha.out]; exact putSel_upk 13 hb_ rfl rfl rfl), hI⟩
    refine steps_cons ?_ ?_
    · rintro b a w' ⟨ha, hI⟩ hb_ hon hoff
      refine ⟨_, rfl, fun K hK => ?_⟩
      have e18 : a.tmps[18]? = some (.bool true) := by rw [ha]; exact putSel_on (e := (13, 18, .bool true)) 13 rfl rfl (hon 13 (by kernel_rfl)) (by rw [hsz]; rfl)
      replace ha := Aside0.mk ha
      refine value_ (w1 := w') (v := .bool true) (by rfl) rfl ?_ ?_
      · go_simp; try rfl
        all_goals (try (simp only [IntKind.wrap_i64]; omega))
      exact hK.out _ _ ⟨(by rw [ha.out]; exact putSel_upk 14 hb_ rfl rfl rfl), hI⟩
    refine steps_cons ?_ ?_
    · rintro b a w' ⟨ha, hI⟩ hb_ hon hoff
      refine ⟨_, rfl, fun K hK => ?_⟩
      have e2 : a.tmps[2]? = some (.pointer (some ⟨w0.heap.size, 0, none⟩)) := by rw [ha]; exact (putSel_off rfl).trans s2
      have e19 : a.tmps[19]? = some (.bool true) := by rw [ha]; exact putSel_on (e := (14, 19, .bool true)) 14 rfl rfl (hon 14 (by kernel_rfl)) (by rw [hsz]; rfl)
      replace ha := Aside0.mk ha
      refine value_ (w1 := w') (v := .pointer (some ⟨w0.heap.size, 1, none⟩)) (wanted_on rfl rfl rfl e19) rfl ?_ ?_
      · go_simp; try rfl
        all_goals (try (simp only [IntKind.wrap_i64]; omega))
      exact hK.out _ _ ⟨(by rw [ha.out]; exact putSel_upk 15 hb_ rfl rfl rfl), hI⟩
    refine steps_cons ?_ ?_
    · rintro b a w' ⟨ha, hI⟩ hb_ hon hoff
      refine ⟨_, rfl, fun K hK => ?_⟩
      have e20 : a.tmps[20]? = some (.pointer (some ⟨w0.heap.size, 1, none⟩)) := by rw [ha]; exact putSel_on (e := (15, 20, .pointer (some ⟨w0.heap.size, 1, none⟩))) 15 rfl rfl (hon 15 (by kernel_rfl)) (by rw [hsz]; rfl)
      have e19 : a.tmps[19]? = some (.bool true) := by rw [ha]; exact putSel_on (e := (14, 19, .bool true)) 14 rfl rfl (hon 14 (by kernel_rfl)) (by rw [hsz]; rfl)
      replace ha := Aside0.mk ha
      have m0 := Own.c hI 1 1 rfl rfl
      refine value_ (w1 := w') (v := .pointer none) (wanted_on rfl rfl rfl e19) rfl ?_ ?_
      · go_simp; try rfl
        all_goals (try (simp only [IntKind.wrap_i64]; omega))
      exact hK.out _ _ ⟨(by rw [ha.out]; exact putSel_upk 16 hb_ rfl rfl rfl), hI⟩
    refine steps_cons ?_ ?_
    · rintro b a w' ⟨ha, hI⟩ hb_ hon hoff
      refine ⟨_, rfl, fun K hK => ?_⟩
      have e21 : a.tmps[21]? = some (.pointer none) := by rw [ha]; exact putSel_on (e := (16, 21, .pointer none)) 16 rfl rfl (hon 16 (by kernel_rfl)) (by rw [hsz]; rfl)
      have e19 : a.tmps[19]? = some (.bool true) := by rw [ha]; exact putSel_on (e := (14, 19, .bool true)) 14 rfl rfl (hon 14 (by kernel_rfl)) (by rw [hsz]; rfl)
      replace ha := Aside0.mk ha
      refine value_ (w1 := w') (v := .bool true) (wanted_on rfl rfl rfl e19) rfl ?_ ?_
      · go_simp; try rfl
        all_goals (try (simp only [IntKind.wrap_i64]; omega))
      exact hK.out _ _ ⟨(by rw [ha.out]; exact putSel_upk 17 hb_ rfl rfl rfl), hI⟩
    refine steps_cons ?_ ?_
    · rintro b a w' ⟨ha, hI⟩ hb_ hon hoff
      refine ⟨_, rfl, fun K hK => ?_⟩
      have e22 : a.tmps[22]? = some (.bool true) := by rw [ha]; exact putSel_on (e := (17, 22, .bool true)) 17 rfl rfl (hon 17 (by kernel_rfl)) (by rw [hsz]; rfl)
      have e19 : a.tmps[19]? = some (.bool true) := by rw [ha]; exact putSel_on (e := (14, 19, .bool true)) 14 rfl rfl (hon 14 (by kernel_rfl)) (by rw [hsz]; rfl)
      replace ha := Aside0.mk ha
      refine value_ (w1 := w') (v := .bool true) (wanted_on rfl rfl rfl e19) rfl ?_ ?_
      · go_simp; try rfl
        all_goals (try (simp only [IntKind.wrap_i64]; omega))
      exact hK.out _ _ ⟨(by rw [ha.out]; exact putSel_upk 18 hb_ rfl rfl rfl), hI⟩
    refine steps_cons ?_ ?_
    · rintro b a w' ⟨ha, hI⟩ hb_ hon hoff
      refine ⟨_, rfl, fun K hK => ?_⟩
      have e23 : a.tmps[23]? = some (.bool true) := by rw [ha]; exact putSel_on (e := (18, 23, .bool true)) 18 rfl rfl (hon 18 (by kernel_rfl)) (by rw [hsz]; rfl)
      exact off_ (wanted_off rfl rfl rfl e23) (hK.out _ _ ⟨(by rw [ha]; exact putSel_upk 19 hb_ rfl rfl rfl), hI⟩)
    refine steps_cons ?_ ?_
    · rintro b a w' ⟨ha, hI⟩ hb_ hon hoff
      refine ⟨_, rfl, fun K hK => ?_⟩
      have e23 : a.tmps[23]? = some (.bool true) := by rw [ha]; exact putSel_on (e := (18, 23, .bool true)) 18 rfl rfl (hon 18 (by kernel_rfl)) (by rw [hsz]; rfl)
      exact off_ (wanted_off rfl rfl rfl e23) (hK.out _ _ ⟨(by rw [ha]; exact putSel_upk 20 hb_ rfl rfl rfl), hI⟩)
    refine steps_cons ?_ ?_
    · rintro b a w' ⟨ha, hI⟩ hb_ hon hoff
      refine ⟨_, rfl, fun K hK => ?_⟩
      have e23 : a.tmps[23]? = some (.bool true) := by rw [ha]; exact putSel_on (e := (18, 23, .bool true)) 18 rfl rfl (hon 18 (by kernel_rfl)) (by rw [hsz]; rfl)
      exact off_ (wanted_off rfl rfl rfl e23) (hK.out _ _ ⟨(by rw [ha]; exact putSel_upk 21 hb_ rfl rfl rfl), hI⟩)
    refine steps_cons ?_ ?_
    · rintro b a w' ⟨ha, hI⟩ hb_ hon hoff
      refine ⟨_, rfl, fun K hK => ?_⟩
      have e23 : a.tmps[23]? = some (.bool true) := by rw [ha]; exact putSel_on (e := (18, 23, .bool true)) 18 rfl rfl (hon 18 (by kernel_rfl)) (by rw [hsz]; rfl)
      exact off_ (wanted_off rfl rfl rfl e23) (hK.out _ _ ⟨(by rw [ha]; exact putSel_upk 22 hb_ rfl rfl rfl), hI⟩)
    refine steps_cons ?_ ?_
    · rintro b a w' ⟨ha, hI⟩ hb_ hon hoff
      refine ⟨_, rfl, fun K hK => ?_⟩
      have e23 : a.tmps[23]? = some (.bool true) := by rw [ha]; exact putSel_on (e := (18, 23, .bool true)) 18 rfl rfl (hon 18 (by kernel_rfl)) (by rw [hsz]; rfl)
      exact off_ (wanted_off rfl rfl rfl e23) (hK.out _ _ ⟨(by rw [ha]; exact putSel_upk 23 hb_ rfl rfl rfl), hI⟩)
    refine steps_cons ?_ ?_
    · rintro b a w' ⟨ha, hI⟩ hb_ hon hoff
      refine ⟨_, rfl, fun K hK => ?_⟩
      have e23 : a.tmps[23]? = some (.bool true) := by rw [ha]; exact putSel_on (e := (18, 23, .bool true)) 18 rfl rfl (hon 18 (by kernel_rfl)) (by rw [hsz]; rfl)
      exact off_ (wanted_off rfl rfl rfl e23) (hK.out _ _ ⟨(by rw [ha]; exact putSel_upk 24 hb_ rfl rfl rfl), hI⟩)
    refine steps_cons ?_ ?_
    · rintro b a w' ⟨ha, hI⟩ hb_ hon hoff
      refine ⟨_, rfl, fun K hK => ?_⟩
      have e23 : a.tmps[23]? = some (.bool true) := by rw [ha]; exact putSel_on (e := (18, 23, .bool true)) 18 rfl rfl (hon 18 (by kernel_rfl)) (by rw [hsz]; rfl)
      exact off_ (wanted_off rfl rfl rfl e23) (hK.out _ _ ⟨(by rw [ha]; exact putSel_upk 25 hb_ rfl rfl rfl), hI⟩)
    refine steps_cons ?_ ?_
    · rintro b a w' ⟨ha, hI⟩ hb_ hon hoff
      refine ⟨_, rfl, fun K hK => ?_⟩
      have e23 : a.tmps[23]? = some (.bool true) := by rw [ha]; exact putSel_on (e := (18, 23, .bool true)) 18 rfl rfl (hon 18 (by kernel_rfl)) (by rw [hsz]; rfl)
      exact off_ (wanted_off rfl rfl rfl e23) (hK.out _ _ ⟨(by rw [ha]; exact putSel_upk 26 hb_ rfl rfl rfl), hI⟩)
    refine steps_cons ?_ ?_
    · rintro b a w' ⟨ha, hI⟩ hb_ hon hoff
      refine ⟨_, rfl, fun K hK => ?_⟩
      have e23 : a.tmps[23]? = some (.bool true) := by rw [ha]; exact putSel_on (e := (18, 23, .bool true)) 18 rfl rfl (hon 18 (by kernel_rfl)) (by rw [hsz]; rfl)
      exact off_ (wanted_off rfl rfl rfl e23) (hK.out _ _ ⟨(by rw [ha]; exact putSel_upk 27 hb_ rfl rfl rfl), hI⟩)
    refine steps_cons ?_ ?_
    · rintro b a w' ⟨ha, hI⟩ hb_ hon hoff
      refine ⟨_, rfl, fun K hK => ?_⟩
      have e23 : a.tmps[23]? = some (.bool true) := by rw [ha]; exact putSel_on (e := (18, 23, .bool true)) 18 rfl rfl (hon 18 (by kernel_rfl)) (by rw [hsz]; rfl)
      have e32 : a.tmps[32]? = some (undef) := by rw [ha]; exact putSel_on (e := (27, 32, undef)) 27 rfl rfl (hon 27 (by kernel_rfl)) (by rw [hsz]; rfl)
      have e19 : a.tmps[19]? = some (.bool true) := by rw [ha]; exact putSel_on (e := (14, 19, .bool true)) 14 rfl rfl (hon 14 (by kernel_rfl)) (by rw [hsz]; rfl)
      replace ha := Aside0.mk ha
      refine value_ (w1 := w') (v := .bool true) (wanted_on rfl rfl rfl e19) rfl ?_ ?_
      · go_simp; try rfl
        all_goals (try (simp only [IntKind.wrap_i64]; omega))
      exact hK.out _ _ ⟨(by rw [ha.out]; exact putSel_upk 28 hb_ rfl rfl rfl), hI⟩
    refine steps_cons ?_ ?_
    · rintro b a w' ⟨ha, hI⟩ hb_ hon hoff
      refine ⟨_, rfl, fun K hK => ?_⟩
      have e19 : a.tmps[19]? = some (.bool true) := by rw [ha]; exact putSel_on (e := (14, 19, .bool true)) 14 rfl rfl (hon 14 (by kernel_rfl)) (by rw [hsz]; rfl)
      have e33 : a.tmps[33]? = some (.bool true) := by rw [ha]; exact putSel_on (e := (28, 33, .bool true)) 28 rfl rfl (hon 28 (by kernel_rfl)) (by rw [hsz]; rfl)
      replace ha := Aside0.mk ha
      refine value_ (w1 := w') (v := .bool true) (by rfl) rfl ?_ ?_
      · go_simp; try rfl
        all_goals (try (simp only [IntKind.wrap_i64]; omega))
      exact hK.out _ _ ⟨(by rw [ha.out]; exact putSel_upk 29 hb_ rfl rfl rfl), hI⟩
    refine steps_cons ?_ ?_
    · rintro b a w' ⟨ha, hI⟩ hb_ hon hoff
      refine ⟨_, rfl, fun K hK => ?_⟩
      have e34 : a.tmps[34]? = some (.bool true) := by rw [ha]; exact putSel_on (e := (29, 34, .bool true)) 29 rfl rfl (hon 29 (by kernel_rfl)) (by rw [hsz]; rfl)
      replace ha := Aside0.mk ha
      refine value_ (w1 := w') (v := .bool true) (by rfl) rfl ?_ ?_
      · go_simp; try rfl
        all_goals (try (simp only [IntKind.wrap_i64]; omega))
      exact hK.out _ _ ⟨(by rw [ha.out]; exact putSel_upk 30 hb_ rfl rfl rfl), hI⟩
    exact steps_nil
  rintro b a w1 hall ⟨ha, hI1⟩
  exact hend a w1 hI1 (by rw [ha]; simp only [putSel, if_true, hall 0 (by kernel_rfl), hall 1 (by kernel_rfl), hall 2 (by kernel_rfl), hall 3 (by kernel_rfl), hall 4 (by kernel_rfl), hall 5 (by kernel_rfl), hall 6 (by kernel_rfl), hall 7 (by kernel_rfl), hall 8 (by kernel_rfl), hall 9 (by kernel_rfl), hall 10 (by kernel_rfl), hall 11 (by kernel_rfl), hall 12 (by kernel_rfl), hall 13 (by kernel_rfl), hall 14 (by kernel_rfl), hall 15 (by kernel_rfl), hall 16 (by kernel_rfl), hall 17 (by kernel_rfl), hall 18 (by kernel_rfl), hall 19 (by kernel_rfl), hall 20 (by kernel_rfl), hall 21 (by kernel_rfl), hall 22 (by kernel_rfl), hall 23 (by kernel_rfl), hall 24 (by kernel_rfl), hall 25 (by kernel_rfl), hall 26 (by kernel_rfl), hall 27 (by kernel_rfl), hall 28 (by kernel_rfl), hall 29 (by kernel_rfl), hall 30 (by kernel_rfl)]) (by rw [ha]; exact (putSel_size b _ a0).2) (by rw [ha]; exact putSel_on (e := (30, 4, .bool true)) 30 rfl rfl (hall 30 (by kernel_rfl)) (by rw [hsz]; rfl))
end Go.Proofs.YtipmphgkdomebaaDoor
namespace Go.Proofs.YtipmphgkdomebaaDoor
open Go.RowKit Go.Proofs.YtipmphgkdomebaaDoorW.PrintWords Go.Proofs.YtipmphgkdomebaaDoorW.PrintLast
set_option linter.unusedVariables false
set_option linter.unusedSimpArgs false
def as80d.T : Bool × List (List Nat × List Nat) := (true, [([], []), ([0], [0]), ([], []), ([2], [2]), ([1, 3], [1, 3]), ([4], [4]), ([5], [5]), ([6, 5], [5, 6]), ([7, 5], [5, 7]), ([5], [5]), ([9, 5], [5, 9]), ([10, 5], [5, 10]), ([8, 11, 5], [5, 8, 11]), ([5, 12], [5, 12]), ([13, 5], [13]), ([14], [14]), ([15, 14], [14, 15]), ([16, 14], [14, 16]), ([17, 14, 14], [14, 17]), ([18], [18]), ([19, 18], [18, 19]), ([20, 18], [18, 20]), ([21, 18], [18, 21]), ([18], [18]), ([23, 18], [18, 23]), ([24, 18], [18, 24]), ([25, 18], [18, 25]), ([22, 26, 18, 18], [18, 22, 26]), ([18, 27, 14], [14, 18, 27]), ([14, 28], [14, 28]), ([29, 27, 0, 1, 2, 3, 4, 5, 6, 7, 8, 9, 10, 11, 12, 13, 14, 15, 16, 17, 18, 19, 20, 21, 22, 23, 24, 25, 26, 27, 28, 29], [29])])
def as80d.B : List Nat := [0, 1, 0, 4, 15, 31, 63, 127, 255, 63, 575, 1599, 4095, 8191, 16383, 32767, 65535, 131071, 262143, 524287, 1048575, 2097151, 4194303, 524287, 8912895, 25690111, 59244543, 134217727, 268435455, 536870911, 1073741823]
theorem as80d.tab : rtab .any (opsOf Tryd.f80 1) = as80d.T := by kernel_rfl
theorem as80d.bits : waitsOk as80d.T.2 as80d.B = true := by kernel_rfl
set_option maxRecDepth 100000 in
set_option maxHeartbeats 4000000 in
theorem as80d (w0 : World) (t1 t2 : ByteArray) (hq : (t1.toList == t2.toList) = true) (b1 o1 b2 o2 : Nat) (x1 x2 : EX) (r1 r2 : Tri) (E1 : ExAt w0 ⟨b1, o1, none⟩ x1 r1) (E2 : ExAt w0 ⟨b2, o2, none⟩ x2 r2) (s : Bool) (cS : ∀ W, Below w0.heap.size w0 W → Calls Tryd.prog 81 #[.agg #[.int .i64 x1.kind, .string x1.text, .string x1.name, .string x1.attr, .slice r1.A x1.na r1.ca, .pointer r1.P, .slice r1.V x1.nv r1.cv], .agg #[.int .i64 x2.kind, .string x2.text, .string x2.name, .string x2.attr, .slice r2.A x2.na r2.ca, .pointer r2.P, .slice r2.V x2.nv r2.cv]] W fun e w' => e = .returned (.bool s) ∧ Below W.heap.size W w') (a0 : Act) (s2 : a0.tmps[2]? = some (.pointer (some ⟨w0.heap.size, 0, none⟩))) (s3 : a0.tmps[3]? = some (.pointer (some ⟨w0.heap.size + 1, 0, none⟩))) (hsz : a0.tmps.size = Tryd.f80.ntmps) (W : World) (hI : ElI w0 t1 (some ⟨b1, o1, none⟩) t2 (some ⟨b2, o2, none⟩) W.drew) (Q : Exit → Act → World → Prop) (hend : ∀ (a9 : Act) w', ElI w0 t1 (some ⟨b1, o1, none⟩) t2 (some ⟨b2, o2, none⟩) w' → a9 = putSel a0 (fun _ => true) [(0, 5, .pointer (some ⟨w0.heap.size, 0, none⟩)), (1, 6, .string t1), (2, 7, .pointer (some ⟨w0.heap.size + 1, 0, none⟩)), (3, 8, .string t2), (4, 9, .bool true), (5, 10, .bool true), (6, 11, .pointer (some ⟨w0.heap.size, 1, none⟩)), (7, 12, .pointer (some ⟨b1, o1, none⟩)), (8, 13, .bool false), (9, 14, .pointer (some ⟨w0.heap.size + 1, 1, none⟩)), (10, 15, .pointer (some ⟨b2, o2, none⟩)), (11, 16, .bool false), (12, 17, .bool true), (13, 18, .bool true), (14, 19, .bool true), (15, 20, .pointer (some ⟨w0.heap.size, 1, none⟩)), (16, 21, .pointer (some ⟨b1, o1, none⟩)), (17, 22, .bool false), (18, 23, .bool false), (19, 24, .pointer (some ⟨w0.heap.size, 1, none⟩)), (20, 25, .pointer (some ⟨b1, o1, none⟩)), (21, 26, .pointer (some ⟨b1, o1, none⟩)), (22, 27, .agg #[.int .i64 x1.kind, .string x1.text, .string x1.name, .string x1.attr, .slice r1.A x1.na r1.ca, .pointer r1.P, .slice r1.V x1.nv r1.cv]), (23, 28, .pointer (some ⟨w0.heap.size + 1, 1, none⟩)), (24, 29, .pointer (some ⟨b2, o2, none⟩)), (25, 30, .pointer (some ⟨b2, o2, none⟩)), (26, 31, .agg #[.int .i64 x2.kind, .string x2.text, .string x2.name, .string x2.attr, .slice r2.A x2.na r2.ca, .pointer r2.P, .slice r2.V x2.nv r2.cv]), (27, 32, .bool s), (28, 33, .bool s), (29, 34, .bool s), (30, 4, .bool s)] → a9.defers = a0.defers → a9.tmps[4]? = some (.bool s) → Q .normal a9 w') :
    (Code.region 1 #[{ dst := some 5, op := Op.fieldAddr 42 (Operand.tmp 2) 0, type := 0, pos := "ast.go:88", after := #[], guard := none }, { dst := some 6, op := Op.load 9 (Operand.tmp 5), type := 9, pos := "ast.go:88", after := #[{ on := 0, ground := Ground.data }], guard := none }, { dst := some 7, op := Op.fieldAddr 42 (Operand.tmp 3) 0, type := 0, pos := "ast.go:88", after := #[], guard := none }, { dst := some 8, op := Op.load 9 (Operand.tmp 7), type := 9, pos := "ast.go:88", after := #[{ on := 2, ground := Ground.data }], guard := none }, { dst := some 9, op := Op.binOp BinOp.eql 9 (Operand.tmp 6) (Operand.tmp 8) 9, type := 4, pos := "ast.go:88", after := #[{ on := 1, ground := Ground.data }, { on := 3, ground := Ground.data }], guard := none }, { dst := some 10, op := Op.move (Operand.tmp 9), type := 4, pos := "ast.go:88", after := #[{ on := 4, ground := Ground.data }], guard := none }, { dst := some 11, op := Op.fieldAddr 42 (Operand.tmp 2) 1, type := 0, pos := "ast.go:88", after := #[{ on := 5, ground := Ground.guard }], guard := some (5, true) }, { dst := some 12, op := Op.load 37 (Operand.tmp 11), type := 37, pos := "ast.go:88", after := #[{ on := 6, ground := Ground.data }, { on := 5, ground := Ground.guard }], guard := some (5, true) }, { dst := some 13, op := Op.binOp BinOp.eql 37 (Operand.tmp 12) (Operand.const (Value.pointer none)) 37, type := 4, pos := "ast.go:88", after := #[{ on := 7, ground := Ground.data }, { on := 5, ground := Ground.guard }], guard := some (5, true) }, { dst := some 14, op := Op.fieldAddr 42 (Operand.tmp 3) 1, type := 0, pos := "ast.go:88", after := #[{ on := 5, ground := Ground.guard }], guard := some (5, true) }, { dst := some 15, op := Op.load 37 (Operand.tmp 14), type := 37, pos := "ast.go:88", after := #[{ on := 9, ground := Ground.data }, { on := 5, ground := Ground.guard }], guard := some (5, true) }, { dst := some 16, op := Op.binOp BinOp.eql 37 (Operand.tmp 15) (Operand.const (Value.pointer none)) 37, type := 4, pos := "ast.go:88", after := #[{ on := 10, ground := Ground.data }, { on := 5, ground := Ground.guard }], guard := some (5, true) }, { dst := some 17, op := Op.binOp BinOp.eql 4 (Operand.tmp 13) (Operand.tmp 16) 4, type := 4, pos := "ast.go:88", after := #[{ on := 8, ground := Ground.data }, { on := 11, ground := Ground.data }, { on := 5, ground := Ground.guard }], guard := some (5, true) }, { dst := some 18, op := Op.pick (Operand.tmp 10) (Operand.tmp 17) (Operand.const (Value.bool false)), type := 4, pos := "ast.go:88", after := #[{ on := 5, ground := Ground.data }, { on := 12, ground := Ground.data }], guard := none }, { dst := some 19, op := Op.move (Operand.tmp 18), type := 4, pos := "ast.go:88", after := #[{ on := 13, ground := Ground.data }, { on := 5, ground := Ground.chain }], guard := none }, { dst := some 20, op := Op.fieldAddr 42 (Operand.tmp 2) 1, type := 0, pos := "ast.go:88", after := #[{ on := 14, ground := Ground.guard }], guard := some (14, true) }, { dst := some 21, op := Op.load 37 (Operand.tmp 20), type := 37, pos := "ast.go:88", after := #[{ on := 15, ground := Ground.data }, { on := 14, ground := Ground.guard }], guard := some (14, true) }, { dst := some 22, op := Op.binOp BinOp.eql 37 (Operand.tmp 21) (Operand.const (Value.pointer none)) 37, type := 4, pos := "ast.go:88", after := #[{ on := 16, ground := Ground.data }, { on := 14, ground := Ground.guard }], guard := some (14, true) }, { dst := some 23, op := Op.move (Operand.tmp 22), type := 4, pos := "ast.go:88", after := #[{ on := 17, ground := Ground.data }, { on := 14, ground := Ground.chain }, { on := 14, ground := Ground.guard }], guard := some (14, true) }, { dst := some 24, op := Op.fieldAddr 42 (Operand.tmp 2) 1, type := 0, pos := "ast.go:88", after := #[{ on := 18, ground := Ground.guard }], guard := some (18, false) }, { dst := some 25, op := Op.load 37 (Operand.tmp 24), type := 37, pos := "ast.go:88", after := #[{ on := 19, ground := Ground.data }, { on := 18, ground := Ground.guard }], guard := some (18, false) }, { dst := some 26, op := Op.nilCheck (Operand.tmp 25), type := 0, pos := "ast.go:88", after := #[{ on := 20, ground := Ground.data }, { on := 18, ground := Ground.guard }], guard := some (18, false) }, { dst := some 27, op := Op.load 40 (Operand.tmp 26), type := 40, pos := "ast.go:88", after := #[{ on := 21, ground := Ground.data }, { on := 18, ground := Ground.guard }], guard := some (18, false) }, { dst := some 28, op := Op.fieldAddr 42 (Operand.tmp 3) 1, type := 0, pos := "ast.go:88", after := #[{ on := 18, ground := Ground.guard }], guard := some (18, false) }, { dst := some 29, op := Op.load 37 (Operand.tmp 28), type := 37, pos := "ast.go:88", after := #[{ on := 23, ground := Ground.data }, { on := 18, ground := Ground.guard }], guard := some (18, false) }, { dst := some 30, op := Op.nilCheck (Operand.tmp 29), type := 0, pos := "ast.go:88", after := #[{ on := 24, ground := Ground.data }, { on := 18, ground := Ground.guard }], guard := some (18, false) }, { dst := some 31, op := Op.load 40 (Operand.tmp 30), type := 40, pos := "ast.go:88", after := #[{ on := 25, ground := Ground.data }, { on := 18, ground := Ground.guard }], guard := some (18, false) }, { dst := some 32, op := Op.call { callee := Callee.value (Operand.func 81), args := #[Operand.tmp 27, Operand.tmp 31], argTypes := #[37, 40] }, type := 4, pos := "ast.go:88", after := #[{ on := 22, ground := Ground.data }, { on := 26, ground := Ground.data }, { on := 18, ground := Ground.chain }, { on := 18, ground := Ground.guard }], guard := some (18, false) }, { dst := some 33, op := Op.pick (Operand.tmp 23) (Operand.const (Value.bool true)) (Operand.tmp 32), type := 4, pos := "ast.go:88", after := #[{ on := 18, ground := Ground.data }, { on := 27, ground := Ground.data }, { on := 14, ground := Ground.guard }], guard := some (14, true) }, { dst := some 34, op := Op.pick (Operand.tmp 19) (Operand.tmp 33) (Operand.const (Value.bool false)), type := 4, pos := "ast.go:88", after := #[{ on := 14, ground := Ground.data }, { on := 28, ground := Ground.data }], guard := none }, { dst := some 4, op := Op.assign (Operand.tmp 34), type := 4, pos := "ast.go:88", after := #[{ on := 29, ground := Ground.data }, { on := 27, ground := Ground.chain }, { on := 0, ground := Ground.phase }, { on := 1, ground := Ground.phase }, { on := 2, ground := Ground.phase }, { on := 3, ground := Ground.phase }, { on := 4, ground := Ground.phase }, { on := 5, ground := Ground.phase }, { on := 6, ground := Ground.phase }, { on := 7, ground := Ground.phase }, { on := 8, ground := Ground.phase }, { on := 9, ground := Ground.phase }, { on := 10, ground := Ground.phase }, { on := 11, ground := Ground.phase }, { on := 12, ground := Ground.phase }, { on := 13, ground := Ground.phase }, { on := 14, ground := Ground.phase }, { on := 15, ground := Ground.phase }, { on := 16, ground := Ground.phase }, { on := 17, ground := Ground.phase }, { on := 18, ground := Ground.phase }, { on := 19, ground := Ground.phase }, { on := 20, ground := Ground.phase }, { on := 21, ground := Ground.phase }, { on := 22, ground := Ground.phase }, { on := 23, ground := Ground.phase }, { on := 24, ground := Ground.phase }, { on := 25, ground := Ground.phase }, { on := 26, ground := Ground.phase }, { on := 27, ground := Ground.phase }, { on := 28, ground := Ground.phase }, { on := 29, ground := Ground.phase }], guard := none }] true).wp Tryd.prog Q a0 W := by
  refine start_ (n := 31) (S := fun w' => True) (ds := []) #[false, false, false, false, false, false, false, false, false, false, false, false, false, false, false, false, false, false, false, false, false, false, false, false, false, false, false, false, false, false, false] (by kernel_rfl) rfl rfl trivial (fun hHeld => ?_)
  refine with_tabW as80d.tab as80d.bits (fun HT_ HW_ => ?_)
  refine inv_at [0, 1, 2, 3, 4, 5, 6, 7, 8, 9, 10, 11, 12, 13, 14, 15, 16, 17, 18, 19, 20, 21, 22, 23, 24, 25, 26, 27, 28, 29, 30] (fun a0_ b a w' => a = putSel a0_ b [(0, 5, .pointer (some ⟨w0.heap.size, 0, none⟩)), (1, 6, .string t1), (2, 7, .pointer (some ⟨w0.heap.size + 1, 0, none⟩)), (3, 8, .string t2), (4, 9, .bool true), (5, 10, .bool true), (6, 11, .pointer (some ⟨w0.heap.size, 1, none⟩)), (7, 12, .pointer (some ⟨b1, o1, none⟩)), (8, 13, .bool false), (9, 14, .pointer (some ⟨w0.heap.size + 1, 1, none⟩)), (10, 15, .pointer (some ⟨b2, o2, none⟩)), (11, 16, .bool false), (12, 17, .bool true), (13, 18, .bool true), (14, 19, .bool true), (15, 20, .pointer (some ⟨w0.heap.size, 1, none⟩)), (16, 21, .pointer (some ⟨b1, o1, none⟩)), (17, 22, .bool false), (18, 23, .bool false), (19, 24, .pointer (some ⟨w0.heap.size, 1, none⟩)), (20, 25, .pointer (some ⟨b1, o1, none⟩)), (21, 26, .pointer (some ⟨b1, o1, none⟩)), (22, 27, .agg #[.int .i64 x1.kind, .string x1.text, .string x1.name, .string x1.attr, .slice r1.A x1.na r1.ca, .pointer r1.P, .slice r1.V x1.nv r1.cv]), (23, 28, .pointer (some ⟨w0.heap.size + 1, 1, none⟩)), (24, 29, .pointer (some ⟨b2, o2, none⟩)), (25, 30, .pointer (some ⟨b2, o2, none⟩)), (26, 31, .agg #[.int .i64 x2.kind, .string x2.text, .string x2.name, .string x2.attr, .slice r2.A x2.na r2.ca, .pointer r2.P, .slice r2.V x2.nv r2.cv]), (27, 32, .bool s), (28, 33, .bool s), (29, 34, .bool s), (30, 4, .bool s)] ∧ (ElI w0 t1 (some ⟨b1, o1, none⟩) t2 (some ⟨b2, o2, none⟩) w')) HT_.out HW_.out (by kernel_rfl) (by kernel_rfl) ?_ ?_ ?_
  · exact ⟨(by simp only [putSel, Bool.false_eq_true, if_false]), hI⟩
  · clear hI hend hHeld
    refine steps_cons ?_ ?_
    · rintro b a w' ⟨ha, hI⟩ hb_ hon hoff
      refine ⟨_, rfl, fun K hK => ?_⟩
      have e2 : a.tmps[2]? = some (.pointer (some ⟨w0.heap.size, 0, none⟩)) := by rw [ha]; exact (putSel_off rfl).trans s2
      replace ha := Aside0.mk ha
      refine value_ (w1 := w') (v := .pointer (some ⟨w0.heap.size, 0, none⟩)) (by rfl) rfl ?_ ?_
      · go_simp; try rfl
        all_goals (try (simp only [IntKind.wrap_i64]; omega))
      exact hK.out _ _ ⟨(by rw [ha.out]; exact putSel_upk 0 hb_ rfl rfl rfl), hI⟩
    refine steps_cons ?_ ?_
    · rintro b a w' ⟨ha, hI⟩ hb_ hon hoff
      refine ⟨_, rfl, fun K hK => ?_⟩
      have e5 : a.tmps[5]? = some (.pointer (some ⟨w0.heap.size, 0, none⟩)) := by rw [ha]; exact putSel_on (e := (0, 5, .pointer (some ⟨w0.heap.size, 0, none⟩))) 0 rfl rfl (hon 0 (by kernel_rfl)) (by rw [hsz]; rfl)
      replace ha := Aside0.mk ha
      have m0 := Own.c hI 1 0 rfl rfl
      refine value_ (w1 := w') (v := .string t1) (by rfl) rfl ?_ ?_
      · go_simp; try rfl
        all_goals (try (simp only [IntKind.wrap_i64]; omega))
      exact hK.out _ _ ⟨(by rw [ha.out]; exact putSel_upk 1 hb_ rfl rfl rfl), hI⟩
    refine steps_cons ?_ ?_
    · rintro b a w' ⟨ha, hI⟩ hb_ hon hoff
      refine ⟨_, rfl, fun K hK => ?_⟩
      have e3 : a.tmps[3]? = some (.pointer (some ⟨w0.heap.size + 1, 0, none⟩)) := by rw [ha]; exact (putSel_off rfl).trans s3
      replace ha := Aside0.mk ha
      refine value_ (w1 := w') (v := .pointer (some ⟨w0.heap.size + 1, 0, none⟩)) (by rfl) rfl ?_ ?_
      · go_simp; try rfl
        all_goals (try (simp only [IntKind.wrap_i64]; omega))
      exact hK.out _ _ ⟨(by rw [ha.out]; exact putSel_upk 2 hb_ rfl rfl rfl), hI⟩
    refine steps_cons ?_ ?_
    · rintro b a w' ⟨ha, hI⟩ hb_ hon hoff
      refine ⟨_, rfl, fun K hK => ?_⟩
      have e7 : a.tmps[7]? = some (.pointer (some ⟨w0.heap.size + 1, 0, none⟩)) := by rw [ha]; exact putSel_on (e := (2, 7, .pointer (some ⟨w0.heap.size + 1, 0, none⟩))) 2 rfl rfl (hon 2 (by kernel_rfl)) (by rw [hsz]; rfl)
      replace ha := Aside0.mk ha
      have m0 := Own.c hI 0 0 rfl rfl
      refine value_ (w1 := w') (v := .string t2) (by rfl) rfl ?_ ?_
      · go_simp; try rfl
        all_goals (try (simp only [IntKind.wrap_i64]; omega))
      exact hK.out _ _ ⟨(by rw [ha.out]; exact putSel_upk 3 hb_ rfl rfl rfl), hI⟩
    refine steps_cons ?_ ?_
    · rintro b a w' ⟨ha, hI⟩ hb_ hon hoff
      refine ⟨_, rfl, fun K hK => ?_⟩
      have e6 : a.tmps[6]? = some (.string t1) := by rw [ha]; exact putSel_on (e := (1, 6, .string t1)) 1 rfl rfl (hon 1 (by kernel_rfl)) (by rw [hsz]; rfl)
      have e8 : a.tmps[8]? = some (.string t2) := by rw [ha]; exact putSel_on (e := (3, 8, .string t2)) 3 rfl rfl (hon 3 (by kernel_rfl)) (by rw [hsz]; rfl)
      replace ha := Aside0.mk ha
      refine value_ (w1 := w') (v := .bool true) (by rfl) rfl ?_ ?_
      · go_simp; try rfl
        all_goals (try (simp only [IntKind.wrap_i64]; omega))
      exact hK.out _ _ ⟨(by rw [ha.out]; exact putSel_upk 4 hb_ rfl rfl rfl), hI⟩
    refine steps_cons ?_ ?_
    · rintro b a w' ⟨ha, hI⟩ hb_ hon hoff
      refine ⟨_, rfl, fun K hK => ?_⟩
      have e9 : a.tmps[9]? = some (.bool true) := by rw [ha]; exact putSel_on (e := (4, 9, .bool true)) 4 rfl rfl (hon 4 (by kernel_rfl)) (by rw [hsz]; rfl)
      replace ha := Aside0.mk ha
      refine value_ (w1 := w') (v := .bool true) (by rfl) rfl ?_ ?_
      · go_simp; try rfl
        all_goals (try (simp only [IntKind.wrap_i64]; omega))
      exact hK.out _ _ ⟨(by rw [ha.out]; exact putSel_upk 5 hb_ rfl rfl rfl), hI⟩
    refine steps_cons ?_ ?_
    · rintro b a w' ⟨ha, hI⟩ hb_ hon hoff
      refine ⟨_, rfl, fun K hK => ?_⟩
      have e2 : a.tmps[2]? = some (.pointer (some ⟨w0.heap.size, 0, none⟩)) := by rw [ha]; exact (putSel_off rfl).trans s2
      have e10 : a.tmps[10]? = some (.bool true) := by rw [ha]; exact putSel_on (e := (5, 10, .bool true)) 5 rfl rfl (hon 5 (by kernel_rfl)) (by rw [hsz]; rfl)
      replace ha := Aside0.mk ha
      refine value_ (w1 := w') (v := .pointer (some ⟨w0.heap.size, 1, none⟩)) (wanted_on rfl rfl rfl e10) rfl ?_ ?_
      · go_simp; try rfl
        all_goals (try (simp only [IntKind.wrap_i64]; omega))
      exact hK.out _ _ ⟨(by rw [ha.out]; exact putSel_upk 6 hb_ rfl rfl rfl), hI⟩
    refine steps_cons ?_ ?_
    · rintro b a w' ⟨ha, hI⟩ hb_ hon hoff
      refine ⟨_, rfl, fun K hK => ?_⟩
      have e11 : a.tmps[11]? = some (.pointer (some ⟨w0.heap.size, 1, none⟩)) := by rw [ha]; exact putSel_on (e := (6, 11, .pointer (some ⟨w0.heap.size, 1, none⟩))) 6 rfl rfl (hon 6 (by kernel_rfl)) (by rw [hsz]; rfl)
      have e10 : a.tmps[10]? = some (.bool true) := by rw [ha]; exact putSel_on (e := (5, 10, .bool true)) 5 rfl rfl (hon 5 (by kernel_rfl)) (by rw [hsz]; rfl)
      replace ha := Aside0.mk ha
      have m0 := Own.c hI 1 1 rfl rfl
      refine value_ (w1 := w') (v := .pointer (some ⟨b1, o1, none⟩)) (wanted_on rfl rfl rfl e10) rfl ?_ ?_
      · go_simp; try rfl
        all_goals (try (simp only [IntKind.wrap_i64]; omega))
      exact hK.out _ _ ⟨(by rw [ha.out]; exact putSel_upk 7 hb_ rfl rfl rfl), hI⟩
    refine steps_cons ?_ ?_
    · rintro b a w' ⟨ha, hI⟩ hb_ hon hoff
      refine ⟨_, rfl, fun K hK => ?_⟩
      have e12 : a.tmps[12]? = some (.pointer (some ⟨b1, o1, none⟩)) := by rw [ha]; exact putSel_on (e := (7, 12, .pointer (some ⟨b1, o1, none⟩))) 7 rfl rfl (hon 7 (by kernel_rfl)) (by rw [hsz]; rfl)
      have e10 : a.tmps[10]? = some (.bool true) := by rw [ha]; exact putSel_on (e := (5, 10, .bool true)) 5 rfl rfl (hon 5 (by kernel_rfl)) (by rw [hsz]; rfl)
      replace ha := Aside0.mk ha
      refine value_ (w1 := w') (v := .bool false) (wanted_on rfl rfl rfl e10) rfl ?_ ?_
      · go_simp; try rfl
        all_goals (try (simp only [IntKind.wrap_i64]; omega))
      exact hK.out _ _ ⟨(by rw [ha.out]; exact putSel_upk 8 hb_ rfl rfl rfl), hI⟩
    refine steps_cons ?_ ?_
    · rintro b a w' ⟨ha, hI⟩ hb_ hon hoff
      refine ⟨_, rfl, fun K hK => ?_⟩
      have e3 : a.tmps[3]? = some (.pointer (some ⟨w0.heap.size + 1, 0, none⟩)) := by rw [ha]; exact (putSel_off rfl).trans s3
      have e10 : a.tmps[10]? = some (.bool true) := by rw [ha]; exact putSel_on (e := (5, 10, .bool true)) 5 rfl rfl (hon 5 (by kernel_rfl)) (by rw [hsz]; rfl)
      replace ha := Aside0.mk ha
      refine value_ (w1 := w') (v := .pointer (some ⟨w0.heap.size + 1, 1, none⟩)) (wanted_on rfl rfl rfl e10) rfl ?_ ?_
      · go_simp; try rfl
        all_goals (try (simp only [IntKind.wrap_i64]; omega))
      exact hK.out _ _ ⟨(by rw [ha.out]; exact putSel_upk 9 hb_ rfl rfl rfl), hI⟩
    refine steps_cons ?_ ?_
    · rintro b a w' ⟨ha, hI⟩ hb_ hon hoff
      refine ⟨_, rfl, fun K hK => ?_⟩
      have e14 : a.tmps[14]? = some (.pointer (some ⟨w0.heap.size + 1, 1, none⟩)) := by rw [ha]; exact putSel_on (e := (9, 14, .pointer (some ⟨w0.heap.size + 1, 1, none⟩))) 9 rfl rfl (hon 9 (by kernel_rfl)) (by rw [hsz]; rfl)
      have e10 : a.tmps[10]? = some (.bool true) := by rw [ha]; exact putSel_on (e := (5, 10, .bool true)) 5 rfl rfl (hon 5 (by kernel_rfl)) (by rw [hsz]; rfl)
      replace ha := Aside0.mk ha
      have m0 := Own.c hI 0 1 rfl rfl
      refine value_ (w1 := w') (v := .pointer (some ⟨b2, o2, none⟩)) (wanted_on rfl rfl rfl e10) rfl ?_ ?_
      · go_simp; try rfl
        all_goals (try (simp only [IntKind.wrap_i64]; omega))
      exact hK.out _ _ ⟨(by rw [ha.out]; exact putSel_upk 10 hb_ rfl rfl rfl), hI⟩
    refine steps_cons ?_ ?_
    · rintro b a w' ⟨ha, hI⟩ hb_ hon hoff
      refine ⟨_, rfl, fun K hK => ?_⟩
      have e15 : a.tmps[15]? = some (.pointer (some ⟨b2, o2, none⟩)) := by rw [ha]; exact putSel_on (e := (10, 15, .pointer (some ⟨b2, o2, none⟩))) 10 rfl rfl (hon 10 (by kernel_rfl)) (by rw [hsz]; rfl)
      have e10 : a.tmps[10]? = some (.bool true) := by rw [ha]; exact putSel_on (e := (5, 10, .bool true)) 5 rfl rfl (hon 5 (by kernel_rfl)) (by rw [hsz]; rfl)
      replace ha := Aside0.mk ha
      refine value_ (w1 := w') (v := .bool false) (wanted_on rfl rfl rfl e10) rfl ?_ ?_
      · go_simp; try rfl
        all_goals (try (simp only [IntKind.wrap_i64]; omega))
      exact hK.out _ _ ⟨(by rw [ha.out]; exact putSel_upk 11 hb_ rfl rfl rfl), hI⟩
    refine steps_cons ?_ ?_
    · rintro b a w' ⟨ha, hI⟩ hb_ hon hoff
      refine ⟨_, rfl, fun K hK => ?_⟩
      have e13 : a.tmps[13]? = some (.bool false) := by rw [ha]; exact putSel_on (e := (8, 13, .bool false)) 8 rfl rfl (hon 8 (by kernel_rfl)) (by rw [hsz]; rfl)
      have e16 : a.tmps[16]? = some (.bool false) := by rw [ha]; exact putSel_on (e := (11, 16, .bool false)) 11 rfl rfl (hon 11 (by kernel_rfl)) (by rw [hsz]; rfl)
      have e10 : a.tmps[10]? = some (.bool true) := by rw [ha]; exact putSel_on (e := (5, 10, .bool true)) 5 rfl rfl (hon 5 (by kernel_rfl)) (by rw [hsz]; rfl)
      replace ha := Aside0.mk ha
      refine value_ (w1 := w') (v := .bool true) (wanted_on rfl rfl rfl e10) rfl ?_ ?_
      · go_simp; try rfl
        all_goals (try (simp only [IntKind.wrap_i64]; omega))
      exact hK.out _ _ ⟨(by rw [ha.out]; exact putSel_upk 12 hb_ rfl rfl rfl), hI⟩
    refine steps_cons ?_ ?_
    · rintro b a w' ⟨ha, hI⟩ hb_ hon hoff
      refine ⟨_, rfl, fun K hK => ?_⟩
      have e10 : a.tmps[10]? = some (.bool true) := by rw [ha]; exact putSel_on (e := (5, 10, .bool true)) 5 rfl rfl (hon 5 (by kernel_rfl)) (by rw [hsz]; rfl)
      have e17 : a.tmps[17]? = some (.bool true) := by rw [ha]; exact putSel_on (e := (12, 17, .bool true)) 12 rfl rfl (hon 12 (by kernel_rfl)) (by rw [hsz]; rfl)
      replace ha := Aside0.mk ha
      refine value_ (w1 := w') (v := .bool true) (by rfl) rfl ?_ ?_
      · go_simp; try rfl
        all_goals (try (simp only [IntKind.wrap_i64]; omega))
      exact hK.out _ _ ⟨(by rw [ha.out]; exact putSel_upk 13 hb_ rfl rfl rfl), hI⟩
    refine steps_cons ?_ ?_
    · rintro b a w' ⟨ha, hI⟩ hb_ hon hoff
      refine ⟨_, rfl, fun K hK => ?_⟩
      have e18 : a.tmps[18]? = some (.bool true) := by rw [ha]; exact putSel_on (e := (13, 18, .bool true)) 13 rfl rfl (hon 13 (by kernel_rfl)) (by rw [hsz]; rfl)
      replace ha := Aside0.mk ha
      refine value_ (w1 := w') (v := .bool true) (by rfl) rfl ?_ ?_
      · go_simp; try rfl
        all_goals (try (simp only [IntKind.wrap_i64]; omega))
      exact hK.out _ _ ⟨(by rw [ha.out]; exact putSel_upk 14 hb_ rfl rfl rfl), hI⟩
    refine steps_cons ?_ ?_
    · rintro b a w' ⟨ha, hI⟩ hb_ hon hoff
      refine ⟨_, rfl, fun K hK => ?_⟩
      have e2 : a.tmps[2]? = some (.pointer (some ⟨w0.heap.size, 0, none⟩)) := by rw [ha]; exact (putSel_off rfl).trans s2
      have e19 : a.tmps[19]? = some (.bool true) := by rw [ha]; exact putSel_on (e := (14, 19, .bool true)) 14 rfl rfl (hon 14 (by kernel_rfl)) (by rw [hsz]; rfl)
      replace ha := Aside0.mk ha
      refine value_ (w1 := w') (v := .pointer (some ⟨w0.heap.size, 1, none⟩)) (wanted_on rfl rfl rfl e19) rfl ?_ ?_
      · go_simp; try rfl
        all_goals (try (simp only [IntKind.wrap_i64]; omega))
      exact hK.out _ _ ⟨(by rw [ha.out]; exact putSel_upk 15 hb_ rfl rfl rfl), hI⟩
    refine steps_cons ?_ ?_
    · rintro b a w' ⟨ha, hI⟩ hb_ hon hoff
      refine ⟨_, rfl, fun K hK => ?_⟩
      have e20 : a.tmps[20]? = some (.pointer (some ⟨w0.heap.size, 1, none⟩)) := by rw [ha]; exact putSel_on (e := (15, 20, .pointer (some ⟨w0.heap.size, 1, none⟩))) 15 rfl rfl (hon 15 (by kernel_rfl)) (by rw [hsz]; rfl)
      have e19 : a.tmps[19]? = some (.bool true) := by rw [ha]; exact putSel_on (e := (14, 19, .bool true)) 14 rfl rfl (hon 14 (by kernel_rfl)) (by rw [hsz]; rfl)
      replace ha := Aside0.mk ha
      have m0 := Own.c hI 1 1 rfl rfl
      refine value_ (w1 := w') (v := .pointer (some ⟨b1, o1, none⟩)) (wanted_on rfl rfl rfl e19) rfl ?_ ?_
      · go_simp; try rfl
        all_goals (try (simp only [IntKind.wrap_i64]; omega))
      exact hK.out _ _ ⟨(by rw [ha.out]; exact putSel_upk 16 hb_ rfl rfl rfl), hI⟩
    refine steps_cons ?_ ?_
    · rintro b a w' ⟨ha, hI⟩ hb_ hon hoff
      refine ⟨_, rfl, fun K hK => ?_⟩
      have e21 : a.tmps[21]? = some (.pointer (some ⟨b1, o1, none⟩)) := by rw [ha]; exact putSel_on (e := (16, 21, .pointer (some ⟨b1, o1, none⟩))) 16 rfl rfl (hon 16 (by kernel_rfl)) (by rw [hsz]; rfl)
      have e19 : a.tmps[19]? = some (.bool true) := by rw [ha]; exact putSel_on (e := (14, 19, .bool true)) 14 rfl rfl (hon 14 (by kernel_rfl)) (by rw [hsz]; rfl)
      replace ha := Aside0.mk ha
      refine value_ (w1 := w') (v := .bool false) (wanted_on rfl rfl rfl e19) rfl ?_ ?_
      · go_simp; try rfl
        all_goals (try (simp only [IntKind.wrap_i64]; omega))
      exact hK.out _ _ ⟨(by rw [ha.out]; exact putSel_upk 17 hb_ rfl rfl rfl), hI⟩
    refine steps_cons ?_ ?_
    · rintro b a w' ⟨ha, hI⟩ hb_ hon hoff
      refine ⟨_, rfl, fun K hK => ?_⟩
      have e22 : a.tmps[22]? = some (.bool false) := by rw [ha]; exact putSel_on (e := (17, 22, .bool false)) 17 rfl rfl (hon 17 (by kernel_rfl)) (by rw [hsz]; rfl)
      have e19 : a.tmps[19]? = some (.bool true) := by rw [ha]; exact putSel_on (e := (14, 19, .bool true)) 14 rfl rfl (hon 14 (by kernel_rfl)) (by rw [hsz]; rfl)
      replace ha := Aside0.mk ha
      refine value_ (w1 := w') (v := .bool false) (wanted_on rfl rfl rfl e19) rfl ?_ ?_
      · go_simp; try rfl
        all_goals (try (simp only [IntKind.wrap_i64]; omega))
      exact hK.out _ _ ⟨(by rw [ha.out]; exact putSel_upk 18 hb_ rfl rfl rfl), hI⟩
    refine steps_cons ?_ ?_
    · rintro b a w' ⟨ha, hI⟩ hb_ hon hoff
      refine ⟨_, rfl, fun K hK => ?_⟩
      have e2 : a.tmps[2]? = some (.pointer (some ⟨w0.heap.size, 0, none⟩)) := by rw [ha]; exact (putSel_off rfl).trans s2
      have e23 : a.tmps[23]? = some (.bool false) := by rw [ha]; exact putSel_on (e := (18, 23, .bool false)) 18 rfl rfl (hon 18 (by kernel_rfl)) (by rw [hsz]; rfl)
      replace ha := Aside0.mk ha
      refine value_ (w1 := w') (v := .pointer (some ⟨w0.heap.size, 1, none⟩)) (wanted_on rfl rfl rfl e23) rfl ?_ ?_
      · go_simp; try rfl
        all_goals (try (simp only [IntKind.wrap_i64]; omega))
      exact hK.out _ _ ⟨(by rw [ha.out]; exact putSel_upk 19 hb_ rfl rfl rfl), hI⟩
    refine steps_cons ?_ ?_
    · rintro b a w' ⟨ha, hI⟩ hb_ hon hoff
      refine ⟨_, rfl, fun K hK => ?_⟩
      have e24 : a.tmps[24]? = some (.pointer (some ⟨w0.heap.size, 1, none⟩)) := by rw [ha]; exact putSel_on (e := (19, 24, .pointer (some ⟨w0.heap.size, 1, none⟩))) 19 rfl rfl (hon 19 (by kernel_rfl)) (by rw [hsz]; rfl)
      have e23 : a.tmps[23]? = some (.bool false) := by rw [ha]; exact putSel_on (e := (18, 23, .bool false)) 18 rfl rfl (hon 18 (by kernel_rfl)) (by rw [hsz]; rfl)
      replace ha := Aside0.mk ha
      have m0 := Own.c hI 1 1 rfl rfl
      refine value_ (w1 := w') (v := .pointer (some ⟨b1, o1, none⟩)) (wanted_on rfl rfl rfl e23) rfl ?_ ?_
      · go_simp; try rfl
        all_goals (try (simp only [IntKind.wrap_i64]; omega))
      exact hK.out _ _ ⟨(by rw [ha.out]; exact putSel_upk 20 hb_ rfl rfl rfl), hI⟩
    refine steps_cons ?_ ?_
    · rintro b a w' ⟨ha, hI⟩ hb_ hon hoff
      refine ⟨_, rfl, fun K hK => ?_⟩
      have e25 : a.tmps[25]? = some (.pointer (some ⟨b1, o1, none⟩)) := by rw [ha]; exact putSel_on (e := (20, 25, .pointer (some ⟨b1, o1, none⟩))) 20 rfl rfl (hon 20 (by kernel_rfl)) (by rw [hsz]; rfl)
      have e23 : a.tmps[23]? = some (.bool false) := by rw [ha]; exact putSel_on (e := (18, 23, .bool false)) 18 rfl rfl (hon 18 (by kernel_rfl)) (by rw [hsz]; rfl)
      replace ha := Aside0.mk ha
      refine value_ (w1 := w') (v := .pointer (some ⟨b1, o1, none⟩)) (wanted_on rfl rfl rfl e23) rfl ?_ ?_
      · go_simp; try rfl
        all_goals (try (simp only [IntKind.wrap_i64]; omega))
      exact hK.out _ _ ⟨(by rw [ha.out]; exact putSel_upk 21 hb_ rfl rfl rfl), hI⟩
    refine steps_cons ?_ ?_
    · rintro b a w' ⟨ha, hI⟩ hb_ hon hoff
      refine ⟨_, rfl, fun K hK => ?_⟩
      have e26 : a.tmps[26]? = some (.pointer (some ⟨b1, o1, none⟩)) := by rw [ha]; exact putSel_on (e := (21, 26, .pointer (some ⟨b1, o1, none⟩))) 21 rfl rfl (hon 21 (by kernel_rfl)) (by rw [hsz]; rfl)
      have e23 : a.tmps[23]? = some (.bool false) := by rw [ha]; exact putSel_on (e := (18, 23, .bool false)) 18 rfl rfl (hon 18 (by kernel_rfl)) (by rw [hsz]; rfl)
      replace ha := Aside0.mk ha
      have m0 := Kept.of (Own.bel hI) _ _ _ E1.c0
      have m1 := Kept.of (Own.bel hI) _ _ _ E1.c1
      have m2 := Kept.of (Own.bel hI) _ _ _ E1.c2
      have m3 := Kept.of (Own.bel hI) _ _ _ E1.c3
      have m4 := Kept.of (Own.bel hI) _ _ _ E1.c4
      have m5 := Kept.of (Own.bel hI) _ _ _ E1.c5
      have m6 := Kept.of (Own.bel hI) _ _ _ E1.c6
      refine value_ (w1 := w') (v := .agg #[.int .i64 x1.kind, .string x1.text, .string x1.name, .string x1.attr, .slice r1.A x1.na r1.ca, .pointer r1.P, .slice r1.V x1.nv r1.cv]) (wanted_on rfl rfl rfl e23) rfl ?_ ?_
      · go_simp; try rfl
        all_goals (try (simp only [IntKind.wrap_i64]; omega))
      exact hK.out _ _ ⟨(by rw [ha.out]; exact putSel_upk 22 hb_ rfl rfl rfl), hI⟩
    refine steps_cons ?_ ?_
    · rintro b a w' ⟨ha, hI⟩ hb_ hon hoff
      refine ⟨_, rfl, fun K hK => ?_⟩
      have e3 : a.tmps[3]? = some (.pointer (some ⟨w0.heap.size + 1, 0, none⟩)) := by rw [ha]; exact (putSel_off rfl).trans s3
      have e23 : a.tmps[23]? = some (.bool false) := by rw [ha]; exact putSel_on (e := (18, 23, .bool false)) 18 rfl rfl (hon 18 (by kernel_rfl)) (by rw [hsz]; rfl)
      replace ha := Aside0.mk ha
      refine value_ (w1 := w') (v := .pointer (some ⟨w0.heap.size + 1, 1, none⟩)) (wanted_on rfl rfl rfl e23) rfl ?_ ?_
      · go_simp; try rfl
        all_goals (try (simp only [IntKind.wrap_i64]; omega))
      exact hK.out _ _ ⟨(by rw [ha.out]; exact putSel_upk 23 hb_ rfl rfl rfl), hI⟩
    refine steps_cons ?_ ?_
    · rintro b a w' ⟨ha, hI⟩ hb_ hon hoff
      refine ⟨_, rfl, fun K hK => ?_⟩
      have e28 : a.tmps[28]? = some (.pointer (some ⟨w0.heap.size + 1, 1, none⟩)) := by rw [ha]; exact putSel_on (e := (23, 28, .pointer (some ⟨w0.heap.size + 1, 1, none⟩))) 23 rfl rfl (hon 23 (by kernel_rfl)) (by rw [hsz]; rfl)
      have e23 : a.tmps[23]? = some (.bool false) := by rw [ha]; exact putSel_on (e := (18, 23, .bool false)) 18 rfl rfl (hon 18 (by kernel_rfl)) (by rw [hsz]; rfl)
      replace ha := Aside0.mk ha
      have m0 := Own.c hI 0 1 rfl rfl
      refine value_ (w1 := w') (v := .pointer (some ⟨b2, o2, none⟩)) (wanted_on rfl rfl rfl e23) rfl ?_ ?_
      · go_simp; try rfl
        all_goals (try (simp only [IntKind.wrap_i64]; omega))
      exact hK.out _ _ ⟨(by rw [ha.out]; exact putSel_upk 24 hb_ rfl rfl rfl), hI⟩
    refine steps_cons ?_ ?_
    · rintro b a w' ⟨ha, hI⟩ hb_ hon hoff
      refine ⟨_, rfl, fun K hK => ?_⟩
      have e29 : a.tmps[29]? = some (.pointer (some ⟨b2, o2, none⟩)) := by rw [ha]; exact putSel_on (e := (24, 29, .pointer (some ⟨b2, o2, none⟩))) 24 rfl rfl (hon 24 (by kernel_rfl)) (by rw [hsz]; rfl)
      have e23 : a.tmps[23]? = some (.bool false) := by rw [ha]; exact putSel_on (e := (18, 23, .bool false)) 18 rfl rfl (hon 18 (by kernel_rfl)) (by rw [hsz]; rfl)
      replace ha := Aside0.mk ha
      refine value_ (w1 := w') (v := .pointer (some ⟨b2, o2, none⟩)) (wanted_on rfl rfl rfl e23) rfl ?_ ?_
      · go_simp; try rfl
        all_goals (try (simp only [IntKind.wrap_i64]; omega))
      exact hK.out _ _ ⟨(by rw [ha.out]; exact putSel_upk 25 hb_ rfl rfl rfl), hI⟩
    refine steps_cons ?_ ?_
    · rintro b a w' ⟨ha, hI⟩ hb_ hon hoff
      refine ⟨_, rfl, fun K hK => ?_⟩
      have e30 : a.tmps[30]? = some (.pointer (some ⟨b2, o2, none⟩)) := by rw [ha]; exact putSel_on (e := (25, 30, .pointer (some ⟨b2, o2, none⟩))) 25 rfl rfl (hon 25 (by kernel_rfl)) (by rw [hsz]; rfl)
      have e23 : a.tmps[23]? = some (.bool false) := by rw [ha]; exact putSel_on (e := (18, 23, .bool false)) 18 rfl rfl (hon 18 (by kernel_rfl)) (by rw [hsz]; rfl)
      replace ha := Aside0.mk ha
      have m0 := Kept.of (Own.bel hI) _ _ _ E2.c0
      have m1 := Kept.of (Own.bel hI) _ _ _ E2.c1
      have m2 := Kept.of (Own.bel hI) _ _ _ E2.c2
      have m3 := Kept.of (Own.bel hI) _ _ _ E2.c3
      have m4 := Kept.of (Own.bel hI) _ _ _ E2.c4
      have m5 := Kept.of (Own.bel hI) _ _ _ E2.c5
      have m6 := Kept.of (Own.bel hI) _ _ _ E2.c6
      refine value_ (w1 := w') (v := .agg #[.int .i64 x2.kind, .string x2.text, .string x2.name, .string x2.attr, .slice r2.A x2.na r2.ca, .pointer r2.P, .slice r2.V x2.nv r2.cv]) (wanted_on rfl rfl rfl e23) rfl ?_ ?_
      · go_simp; try rfl
        all_goals (try (simp only [IntKind.wrap_i64]; omega))
      exact hK.out _ _ ⟨(by rw [ha.out]; exact putSel_upk 26 hb_ rfl rfl rfl), hI⟩
    refine steps_cons ?_ ?_
    · rintro b a w' ⟨ha, hI⟩ hb_ hon hoff
      refine ⟨_, rfl, fun K hK => ?_⟩
      have e27 : a.tmps[27]? = some (.agg #[.int .i64 x1.kind, .string x1.text, .string x1.name, .string x1.attr, .slice r1.A x1.na r1.ca, .pointer r1.P, .slice r1.V x1.nv r1.cv]) := by rw [ha]; exact putSel_on (e := (22, 27, .agg #[.int .i64 x1.kind, .string x1.text, .string x1.name, .string x1.attr, .slice r1.A x1.na r1.ca, .pointer r1.P, .slice r1.V x1.nv r1.cv])) 22 rfl rfl (hon 22 (by kernel_rfl)) (by rw [hsz]; rfl)
      have e31 : a.tmps[31]? = some (.agg #[.int .i64 x2.kind, .string x2.text, .string x2.name, .string x2.attr, .slice r2.A x2.na r2.ca, .pointer r2.P, .slice r2.V x2.nv r2.cv]) := by rw [ha]; exact putSel_on (e := (26, 31, .agg #[.int .i64 x2.kind, .string x2.text, .string x2.name, .string x2.attr, .slice r2.A x2.na r2.ca, .pointer r2.P, .slice r2.V x2.nv r2.cv])) 26 rfl rfl (hon 26 (by kernel_rfl)) (by rw [hsz]; rfl)
      have e23 : a.tmps[23]? = some (.bool false) := by rw [ha]; exact putSel_on (e := (18, 23, .bool false)) 18 rfl rfl (hon 18 (by kernel_rfl)) (by rw [hsz]; rfl)
      replace ha := Aside0.mk ha
      refine goes_ Tryd.func81 (by kernel_rfl) rfl #[.agg #[.int .i64 x1.kind, .string x1.text, .string x1.name, .string x1.attr, .slice r1.A x1.na r1.ca, .pointer r1.P, .slice r1.V x1.nv r1.cv], .agg #[.int .i64 x2.kind, .string x2.text, .string x2.name, .string x2.attr, .slice r2.A x2.na r2.ca, .pointer r2.P, .slice r2.V x2.nv r2.cv]] (wanted_on rfl rfl rfl e23) rfl rfl (by first | (simp only [List.map_toArray, List.map_cons, List.map_nil, Act.eval, Array.getD_eq_getD_getElem?, Option.getD_some, e27, e31]; done) | (simp only [List.map_toArray, List.map_cons, List.map_nil, Act.eval, Array.getD_eq_getD_getElem?, Option.getD_some, e27, e31]; rfl)) ?_
      refine (cS w' (Own.bel hI)).mono ?_
      rintro e w1 ⟨rfl, b1⟩; have hI1 := ElI.step hI b1
      exact ⟨_, rfl, hK.out _ _ ⟨(by rw [ha.out]; exact putSel_upk 27 hb_ rfl rfl rfl), hI1⟩⟩
    refine steps_cons ?_ ?_
    · rintro b a w' ⟨ha, hI⟩ hb_ hon hoff
      refine ⟨_, rfl, fun K hK => ?_⟩
      have e23 : a.tmps[23]? = some (.bool false) := by rw [ha]; exact putSel_on (e := (18, 23, .bool false)) 18 rfl rfl (hon 18 (by kernel_rfl)) (by rw [hsz]; rfl)
      have e32 : a.tmps[32]? = some (.bool s) := by rw [ha]; exact putSel_on (e := (27, 32, .bool s)) 27 rfl rfl (hon 27 (by kernel_rfl)) (by rw [hsz]; rfl)
      have e19 : a.tmps[19]? = some (.bool true) := by rw [ha]; exact putSel_on (e := (14, 19, .bool true)) 14 rfl rfl (hon 14 (by kernel_rfl)) (by rw [hsz]; rfl)
      replace ha := Aside0.mk ha
      refine value_ (w1 := w') (v := .bool s) (wanted_on rfl rfl rfl e19) rfl ?_ ?_
      · go_simp; try rfl
        all_goals (try (simp only [IntKind.wrap_i64]; omega))
      exact hK.out _ _ ⟨(by rw [ha.out]; exact putSel_upk 28 hb_ rfl rfl rfl), hI⟩
    refine steps_cons ?_ ?_
    · rintro b a w' ⟨ha, hI⟩ hb_ hon hoff
      refine ⟨_, rfl, fun K hK => ?_⟩
      have e19 : a.tmps[19]? = some (.bool true) := by rw [ha]; exact putSel_on (e := (14, 19, .bool true)) 14 rfl rfl (hon 14 (by kernel_rfl)) (by rw [hsz]; rfl)
      have e33 : a.tmps[33]? = some (.bool s) := by rw [ha]; exact putSel_on (e := (28, 33, .bool s)) 28 rfl rfl (hon 28 (by kernel_rfl)) (by rw [hsz]; rfl)
      replace ha := Aside0.mk ha
      refine value_ (w1 := w') (v := .bool s) (by rfl) rfl ?_ ?_
      · go_simp; try rfl
        all_goals (try (simp only [IntKind.wrap_i64]; omega))
      exact hK.out _ _ ⟨(by rw [ha.out]; exact putSel_upk 29 hb_ rfl rfl rfl), hI⟩
    refine steps_cons ?_ ?_
    · rintro b a w' ⟨ha, hI⟩ hb_ hon hoff
      refine ⟨_, rfl, fun K hK => ?_⟩
      have e34 : a.tmps[34]? = some (.bool s) := by rw [ha]; exact putSel_on (e := (29, 34, .bool s)) 29 rfl rfl (hon 29 (by kernel_rfl)) (by rw [hsz]; rfl)
      replace ha := Aside0.mk ha
      refine value_ (w1 := w') (v := .bool s) (by rfl) rfl ?_ ?_
      · go_simp; try rfl
        all_goals (try (simp only [IntKind.wrap_i64]; omega))
      exact hK.out _ _ ⟨(by rw [ha.out]; exact putSel_upk 30 hb_ rfl rfl rfl), hI⟩
    exact steps_nil
  rintro b a w1 hall ⟨ha, hI1⟩
  exact hend a w1 hI1 (by rw [ha]; simp only [putSel, if_true, hall 0 (by kernel_rfl), hall 1 (by kernel_rfl), hall 2 (by kernel_rfl), hall 3 (by kernel_rfl), hall 4 (by kernel_rfl), hall 5 (by kernel_rfl), hall 6 (by kernel_rfl), hall 7 (by kernel_rfl), hall 8 (by kernel_rfl), hall 9 (by kernel_rfl), hall 10 (by kernel_rfl), hall 11 (by kernel_rfl), hall 12 (by kernel_rfl), hall 13 (by kernel_rfl), hall 14 (by kernel_rfl), hall 15 (by kernel_rfl), hall 16 (by kernel_rfl), hall 17 (by kernel_rfl), hall 18 (by kernel_rfl), hall 19 (by kernel_rfl), hall 20 (by kernel_rfl), hall 21 (by kernel_rfl), hall 22 (by kernel_rfl), hall 23 (by kernel_rfl), hall 24 (by kernel_rfl), hall 25 (by kernel_rfl), hall 26 (by kernel_rfl), hall 27 (by kernel_rfl), hall 28 (by kernel_rfl), hall 29 (by kernel_rfl), hall 30 (by kernel_rfl)]) (by rw [ha]; exact (putSel_size b _ a0).2) (by rw [ha]; exact putSel_on (e := (30, 4, .bool s)) 30 rfl rfl (hall 30 (by kernel_rfl)) (by rw [hsz]; rfl))
end Go.Proofs.YtipmphgkdomebaaDoor
namespace Go.Proofs.YtipmphgkdomebaaDoor
open Go.RowKit Go.Proofs.YtipmphgkdomebaaDoorW.PrintWords Go.Proofs.YtipmphgkdomebaaDoorW.PrintLast
set_option linter.unusedVariables false
set_option linter.unusedSimpArgs false
theorem ret_b {x y : Bool} (h : x = y) : (Ending.returned (.bool x)) = .returned (.bool y) := by rw [h]
theorem EX.no_of {w : World} {T : EX} {q : Tri} (h : T.R w q) : T.isNo = false := by
  cases T with
  | no => exact h.elim
  | mk => rfl
def SameOk (x1 x2 : EX) : Prop := ∀ (w : World) (r1 r2 : Tri), x1.R w r1 → x2.R w r2 → Calls Tryd.prog 81 #[.agg #[.int .i64 x1.kind, .string x1.text, .string x1.name, .string x1.attr, .slice r1.A x1.na r1.ca, .pointer r1.P, .slice r1.V x1.nv r1.cv], .agg #[.int .i64 x2.kind, .string x2.text, .string x2.name, .string x2.attr, .slice r2.A x2.na r2.ca, .pointer r2.P, .slice r2.V x2.nv r2.cv]] w fun e w' => e = .returned (.bool (x1.same x2)) ∧ Below w.heap.size w w'
set_option maxRecDepth 100000 in
set_option maxHeartbeats 4000000 in
theorem el_any (t1 t2 : ByteArray) (x1 x2 : EX) (p1 p2 : Option Addr) (w : World) (h1 : x1.Ptr w p1) (h2 : x2.Ptr w p2) (cS : SameOk x1 x2) :
    Calls Tryd.prog 80 #[.agg #[.string t1, .pointer p1], .agg #[.string t2, .pointer p2]] w fun e w' => e = .returned (.bool (elS t1 t2 x1 x2)) ∧ Below w.heap.size w w' := by
  have h0 : ElI w t1 p1 t2 p2 _ := Own.two w (.cells #[.string t1, .pointer p1] 42) (.cells #[.string t2, .pointer p2] 42)
  cases hq : (t1.toList == t2.toList) with
  | false =>
    go_enter Tryd.func80, Tryd.ntmps80
    go_upto_region 1 with (fail)
    generalize World.alloc (World.alloc w _) _ = W0 at *
    refine as80a w t1 t2 hq p1 p2 _ rfl rfl rfl _ (Own.drew h0) _ ?_
    intro a9 w9 h9 ha9 hd9 e4
    have bel := Own.bel h9
    clear ha9 h9 h0
    go_wp2
    exact bodyPost_ret (results_tmp rfl _ _ _) hd9 ⟨by rw [Array.getD_eq_getD_getElem?, e4]; exact ret_b (by unfold elS; rw [hq]; rfl), bel⟩
  | true =>
    rcases h1 with ⟨rfl, rfl⟩ | ⟨b1, o1, r1, rfl, E1, R1⟩
    · rcases h2 with ⟨rfl, rfl⟩ | ⟨b2, o2, r2, rfl, E2, R2⟩
      · go_enter Tryd.func80, Tryd.ntmps80
        go_upto_region 1 with (fail)
        generalize World.alloc (World.alloc w _) _ = W0 at *
        refine as80c w t1 t2 hq  _ rfl rfl rfl _ (Own.drew h0) _ ?_
        intro a9 w9 h9 ha9 hd9 e4
        have bel := Own.bel h9
        clear ha9 h9 h0
        go_wp2
        exact bodyPost_ret (results_tmp rfl _ _ _) hd9 ⟨by rw [Array.getD_eq_getD_getElem?, e4]; exact ret_b (by unfold elS; rw [hq]; rfl), bel⟩
      · have z2 := EX.no_of R2
        go_enter Tryd.func80, Tryd.ntmps80
        go_upto_region 1 with (fail)
        generalize World.alloc (World.alloc w _) _ = W0 at *
        refine as80bn w t1 t2 hq b2 o2 _ rfl rfl rfl _ (Own.drew h0) _ ?_
        intro a9 w9 h9 ha9 hd9 e4
        have bel := Own.bel h9
        clear ha9 h9 h0
        go_wp2
        exact bodyPost_ret (results_tmp rfl _ _ _) hd9 ⟨by rw [Array.getD_eq_getD_getElem?, e4]; exact ret_b (by unfold elS; rw [hq, z2]; rfl), bel⟩
    · have z1 := EX.no_of R1
      rcases h2 with ⟨rfl, rfl⟩ | ⟨b2, o2, r2, rfl, E2, R2⟩
      · skip
        go_enter Tryd.func80, Tryd.ntmps80
        go_upto_region 1 with (fail)
        generalize World.alloc (World.alloc w _) _ = W0 at *
        refine as80bs w t1 t2 hq b1 o1 _ rfl rfl rfl _ (Own.drew h0) _ ?_
        intro a9 w9 h9 ha9 hd9 e4
        have bel := Own.bel h9
        clear ha9 h9 h0
        go_wp2
        exact bodyPost_ret (results_tmp rfl _ _ _) hd9 ⟨by rw [Array.getD_eq_getD_getElem?, e4]; exact ret_b (by unfold elS; rw [hq, z1]; rfl), bel⟩
      · have z2 := EX.no_of R2
        have cS2 := fun W (hW : Below w.heap.size w W) => cS W r1 r2 (EX.keep (Kept.of hW) R1) (EX.keep (Kept.of hW) R2)
        go_enter Tryd.func80, Tryd.ntmps80
        go_upto_region 1 with (fail)
        generalize World.alloc (World.alloc w _) _ = W0 at *
        refine as80d w t1 t2 hq b1 o1 b2 o2 x1 x2 r1 r2 E1 E2 (x1.same x2) cS2 _ rfl rfl rfl _ (Own.drew h0) _ ?_
        intro a9 w9 h9 ha9 hd9 e4
        have bel := Own.bel h9
        clear ha9 h9 h0
        go_wp2
        exact bodyPost_ret (results_tmp rfl _ _ _) hd9 ⟨by rw [Array.getD_eq_getD_getElem?, e4]; exact ret_b (by unfold elS; rw [hq, z1, z2]; simp), bel⟩
set_option maxRecDepth 100000 in
set_option maxHeartbeats 4000000 in
theorem attr_any (m1 m2 : ByteArray) (A1 A2 : Option Addr) (n1 n2 d1 d2 : Nat) (s : Bool) (w : World) (cC : ∀ W, Below w.heap.size w W → Calls Tryd.prog 44 #[.slice A1 n1 d1, .slice A2 n2 d2] W fun e w' => e = .returned (.bool s) ∧ Below W.heap.size W w') :
    Calls Tryd.prog 46 #[.agg #[.string m1, .slice A1 n1 d1], .agg #[.string m2, .slice A2 n2 d2]] w fun e w' => e = .returned (.bool ((m1.toList == m2.toList) && s)) ∧ Below w.heap.size w w' := by
  have h0 := Own.two w (.cells #[.string m1, .slice A1 n1 d1] 44) (.cells #[.string m2, .slice A2 n2 d2] 44)
  cases q0 : (m1.toList == m2.toList) with
  | false =>
    go_enter Tryd.func46, Tryd.ntmps46
    go_upto_region 1 with (fail)
    generalize World.alloc (World.alloc w _) _ = W0 at *
    have a0 := Own.c h0 1 0 rfl rfl
    have a1 := Own.c h0 1 1 rfl rfl
    have b0 := Own.c h0 0 0 rfl rfl
    have b1 := Own.c h0 0 1 rfl rfl
    go_wp2
    go_ret
    exact ⟨by first | rfl | exact ret_b (by simp), h0.bel⟩
  | true =>
    go_enter Tryd.func46, Tryd.ntmps46
    go_upto_region 1 with (fail)
    generalize World.alloc (World.alloc w _) _ = W0 at *
    have a0 := Own.c h0 1 0 rfl rfl
    have a1 := Own.c h0 1 1 rfl rfl
    have b0 := Own.c h0 0 0 rfl rfl
    have b1 := Own.c h0 0 1 rfl rfl
    go_wp2_with (go_at_call 44; refine (cC _ h0.bel).mono ?_; rintro e W1 ⟨rfl, b1⟩; have h1 := h0.step b1)
    go_ret
    exact ⟨by first | rfl | exact ret_b (by simp), h1.bel⟩
set_option maxRecDepth 100000 in
set_option maxHeartbeats 4000000 in
theorem var_any (m1 m2 : ByteArray) (e1 e2 : Bool) (A1 A2 : Option Addr) (n1 n2 d1 d2 : Nat) (s : Bool) (w : World) (cC : ∀ W, Below w.heap.size w W → Calls Tryd.prog 44 #[.slice A1 n1 d1, .slice A2 n2 d2] W fun e w' => e = .returned (.bool s) ∧ Below W.heap.size W w') :
    Calls Tryd.prog 122 #[.agg #[.string m1, .bool e1, .slice A1 n1 d1], .agg #[.string m2, .bool e2, .slice A2 n2 d2]] w fun e w' => e = .returned (.bool ((m1.toList == m2.toList) && ((e1 == e2) && s))) ∧ Below w.heap.size w w' := by
  have h0 := Own.two w (.cells #[.string m1, .bool e1, .slice A1 n1 d1] 136) (.cells #[.string m2, .bool e2, .slice A2 n2 d2] 136)
  cases q0 : (m1.toList == m2.toList) with
  | false =>
    go_enter Tryd.func122, Tryd.ntmps122
    go_upto_region 1 with (fail)
    generalize World.alloc (World.alloc w _) _ = W0 at *
    have a0 := Own.c h0 1 0 rfl rfl
    have a1 := Own.c h0 1 1 rfl rfl
    have a2 := Own.c h0 1 2 rfl rfl
    have b0 := Own.c h0 0 0 rfl rfl
    have b1 := Own.c h0 0 1 rfl rfl
    have b2 := Own.c h0 0 2 rfl rfl
    go_wp2
    go_ret
    exact ⟨by first | rfl | exact ret_b (by simp), h0.bel⟩
  | true =>
    cases q1 : (e1 == e2) with
    | false =>
      go_enter Tryd.func122, Tryd.ntmps122
      go_upto_region 1 with (fail)
      generalize World.alloc (World.alloc w _) _ = W0 at *
      have a0 := Own.c h0 1 0 rfl rfl
      have a1 := Own.c h0 1 1 rfl rfl
      have a2 := Own.c h0 1 2 rfl rfl
      have b0 := Own.c h0 0 0 rfl rfl
      have b1 := Own.c h0 0 1 rfl rfl
      have b2 := Own.c h0 0 2 rfl rfl
      go_wp2
      go_ret
      exact ⟨by first | rfl | exact ret_b (by simp), h0.bel⟩
    | true =>
      go_enter Tryd.func122, Tryd.ntmps122
      go_upto_region 1 with (fail)
      generalize World.alloc (World.alloc w _) _ = W0 at *
      have a0 := Own.c h0 1 0 rfl rfl
      have a1 := Own.c h0 1 1 rfl rfl
      have a2 := Own.c h0 1 2 rfl rfl
      have b0 := Own.c h0 0 0 rfl rfl
      have b1 := Own.c h0 0 1 rfl rfl
      have b2 := Own.c h0 0 2 rfl rfl
      go_wp2_with (go_at_call 44; refine (cC _ h0.bel).mono ?_; rintro e W1 ⟨rfl, b1⟩; have h1 := h0.step b1)
      go_ret
      exact ⟨by first | rfl | exact ret_b (by simp), h1.bel⟩
set_option maxRecDepth 100000 in
set_option maxHeartbeats 4000000 in
theorem arg_any (m1 m2 : ByteArray) (k1 k2 : Int) (t1 t2 u1 u2 v1 v2 : ByteArray) (A1 A2 : Option Addr) (n1 n2 d1 d2 : Nat) (p1 p2 V1 V2 : Option Addr) (l1 l2 c1 c2 : Nat) (s : Bool) (w : World) (cC : ∀ W, Below w.heap.size w W → Calls Tryd.prog 81 #[.agg #[.int .i64 k1, .string t1, .string u1, .string v1, .slice A1 n1 d1, .pointer p1, .slice V1 l1 c1], .agg #[.int .i64 k2, .string t2, .string u2, .string v2, .slice A2 n2 d2, .pointer p2, .slice V2 l2 c2]] W fun e w' => e = .returned (.bool s) ∧ Below W.heap.size W w') :
    Calls Tryd.prog 120 #[.agg #[.string m1, .int .i64 k1, .string t1, .string u1, .string v1, .slice A1 n1 d1, .pointer p1, .slice V1 l1 c1], .agg #[.string m2, .int .i64 k2, .string t2, .string u2, .string v2, .slice A2 n2 d2, .pointer p2, .slice V2 l2 c2]] w fun e w' => e = .returned (.bool ((m1.toList == m2.toList) && s)) ∧ Below w.heap.size w w' := by
  have h0 := Own.two w (.cells #[.string m1, .int .i64 k1, .string t1, .string u1, .string v1, .slice A1 n1 d1, .pointer p1, .slice V1 l1 c1] 77) (.cells #[.string m2, .int .i64 k2, .string t2, .string u2, .string v2, .slice A2 n2 d2, .pointer p2, .slice V2 l2 c2] 77)
  cases q0 : (m1.toList == m2.toList) with
  | false =>
    go_enter Tryd.func120, Tryd.ntmps120
    go_upto_region 1 with (fail)
    generalize World.alloc (World.alloc w _) _ = W0 at *
    have a0 := Own.c h0 1 0 rfl rfl
    have a1 := Own.c h0 1 1 rfl rfl
    have a2 := Own.c h0 1 2 rfl rfl
    have a3 := Own.c h0 1 3 rfl rfl
    have a4 := Own.c h0 1 4 rfl rfl
    have a5 := Own.c h0 1 5 rfl rfl
    have a6 := Own.c h0 1 6 rfl rfl
    have a7 := Own.c h0 1 7 rfl rfl
    have b0 := Own.c h0 0 0 rfl rfl
    have b1 := Own.c h0 0 1 rfl rfl
    have b2 := Own.c h0 0 2 rfl rfl
    have b3 := Own.c h0 0 3 rfl rfl
    have b4 := Own.c h0 0 4 rfl rfl
    have b5 := Own.c h0 0 5 rfl rfl
    have b6 := Own.c h0 0 6 rfl rfl
    have b7 := Own.c h0 0 7 rfl rfl
    go_wp2
    go_ret
    exact ⟨by first | rfl | exact ret_b (by simp), h0.bel⟩
  | true =>
    go_enter Tryd.func120, Tryd.ntmps120
    go_upto_region 1 with (fail)
    generalize World.alloc (World.alloc w _) _ = W0 at *
    have a0 := Own.c h0 1 0 rfl rfl
    have a1 := Own.c h0 1 1 rfl rfl
    have a2 := Own.c h0 1 2 rfl rfl
    have a3 := Own.c h0 1 3 rfl rfl
    have a4 := Own.c h0 1 4 rfl rfl
    have a5 := Own.c h0 1 5 rfl rfl
    have a6 := Own.c h0 1 6 rfl rfl
    have a7 := Own.c h0 1 7 rfl rfl
    have b0 := Own.c h0 0 0 rfl rfl
    have b1 := Own.c h0 0 1 rfl rfl
    have b2 := Own.c h0 0 2 rfl rfl
    have b3 := Own.c h0 0 3 rfl rfl
    have b4 := Own.c h0 0 4 rfl rfl
    have b5 := Own.c h0 0 5 rfl rfl
    have b6 := Own.c h0 0 6 rfl rfl
    have b7 := Own.c h0 0 7 rfl rfl
    go_wp2_with (go_at_call 81; refine (cC _ h0.bel).mono ?_; rintro e W1 ⟨rfl, b1⟩; have h1 := h0.step b1)
    go_ret
    exact ⟨by first | rfl | exact ret_b (by simp), h1.bel⟩
end Go.Proofs.YtipmphgkdomebaaDoor
namespace Go.Proofs.YtipmphgkdomebaaDoor
open Go.RowKit Go.Proofs.YtipmphgkdomebaaDoorW.PrintWords Go.Proofs.YtipmphgkdomebaaDoorW.PrintLast
set_option linter.unusedVariables false
set_option linter.unusedSimpArgs false
def ExI (w0 : World) (x1 x2 : EX) (A1 : Option Addr) (ca1 : Nat) (P1 V1 : Option Addr) (cv1 : Nat) (A2 : Option Addr) (ca2 : Nat) (P2 V2 : Option Addr) (cv2 : Nat) (W : World) : Prop :=
  Own w0 [(w0.heap.size + 1, .cells #[.int .i64 x2.kind, .string x2.text, .string x2.name, .string x2.attr, .slice A2 x2.na ca2, .pointer P2, .slice V2 x2.nv cv2] 40 (0, 0)), (w0.heap.size, .cells #[.int .i64 x1.kind, .string x1.text, .string x1.name, .string x1.attr, .slice A1 x1.na ca1, .pointer P1, .slice V1 x1.nv cv1] 40 (0, 0))] W
theorem ExI.step {w0 : World} {x1 x2 : EX} {A1 : Option Addr} {ca1 : Nat} {P1 V1 : Option Addr} {cv1 : Nat} {A2 : Option Addr} {ca2 : Nat} {P2 V2 : Option Addr} {cv2 : Nat} {W W1 : World} (h : ExI w0 x1 x2 A1 ca1 P1 V1 cv1 A2 ca2 P2 V2 cv2 W) (b : Below W.heap.size W W1) : ExI w0 x1 x2 A1 ca1 P1 V1 cv1 A2 ca2 P2 V2 cv2 W1 := Own.step h b
def as81n.T : Bool × List (List Nat × List Nat) := (true, [([], []), ([0], [0]), ([1], [1]), ([2], [2]), ([3], [3]), ([4, 3], [3, 4]), ([5, 3], [3, 5]), ([6, 3], [3, 6]), ([3], [3]), ([8, 3], [3, 8]), ([9, 3], [3, 9]), ([10, 3], [3, 10]), ([7, 11, 3, 3], [3, 7, 11]), ([12, 3], [3, 12]), ([3, 13], [3, 13])])
def as81n.B : List Nat := [0, 1, 3, 7, 15, 31, 63, 127, 15, 271, 783, 1807, 4095, 8191, 16383]
theorem as81n.tab : rtab .any (opsOf Tryd.f81 3) = as81n.T := by kernel_rfl
theorem as81n.bits : waitsOk as81n.T.2 as81n.B = true := by kernel_rfl
set_option maxRecDepth 100000 in
set_option maxHeartbeats 4000000 in
theorem as81n (w0 : World) (x1 x2 : EX) (A1 : Option Addr) (ca1 : Nat) (V1 : Option Addr) (cv1 : Nat) (A2 : Option Addr) (ca2 : Nat) (V2 : Option Addr) (cv2 : Nat) (q2 : Option Addr) (a0 : Act) (s2 : a0.tmps[2]? = some (.pointer (some ⟨w0.heap.size, 0, none⟩))) (s3 : a0.tmps[3]? = some (.pointer (some ⟨w0.heap.size + 1, 0, none⟩))) (hsz : a0.tmps.size = Tryd.f81.ntmps) (W : World) (hI : ExI w0 x1 x2 A1 ca1 none V1 cv1 A2 ca2 q2 V2 cv2 W.drew) (Q : Exit → Act → World → Prop) (hend : ∀ (a9 : Act) w', ExI w0 x1 x2 A1 ca1 none V1 cv1 A2 ca2 q2 V2 cv2 w' → a9 = putSel a0 (fun _ => true) [(0, 40, .pointer (some ⟨w0.heap.size, 5, none⟩)), (1, 41, .pointer none), (2, 42, .bool false), (3, 43, .bool false), (4, 44, undef), (5, 45, undef), (6, 46, undef), (7, 47, undef), (8, 48, undef), (9, 49, undef), (10, 50, undef), (11, 51, undef), (12, 52, undef), (13, 53, undef), (14, 54, .bool false)] → a9.defers = a0.defers → a9.tmps[54]? = some (.bool false) → Q .normal a9 w') :
    (Code.region 3 #[{ dst := some 40, op := Op.fieldAddr 40 (Operand.tmp 2) 5, type := 0, pos := "ast.go:97", after := #[], guard := none }, { dst := some 41, op := Op.load 37 (Operand.tmp 40), type := 37, pos := "ast.go:97", after := #[{ on := 0, ground := Ground.data }], guard := none }, { dst := some 42, op := Op.binOp BinOp.neq 37 (Operand.tmp 41) (Operand.const (Value.pointer none)) 37, type := 4, pos := "ast.go:97", after := #[{ on := 1, ground := Ground.data }], guard := none }, { dst := some 43, op := Op.move (Operand.tmp 42), type := 4, pos := "ast.go:97", after := #[{ on := 2, ground := Ground.data }], guard := none }, { dst := some 44, op := Op.fieldAddr 40 (Operand.tmp 2) 5, type := 0, pos := "ast.go:97", after := #[{ on := 3, ground := Ground.guard }], guard := some (3, true) }, { dst := some 45, op := Op.load 37 (Operand.tmp 44), type := 37, pos := "ast.go:97", after := #[{ on := 4, ground := Ground.data }, { on := 3, ground := Ground.guard }], guard := some (3, true) }, { dst := some 46, op := Op.nilCheck (Operand.tmp 45), type := 0, pos := "ast.go:97", after := #[{ on := 5, ground := Ground.data }, { on := 3, ground := Ground.guard }], guard := some (3, true) }, { dst := some 47, op := Op.load 40 (Operand.tmp 46), type := 40, pos := "ast.go:97", after := #[{ on := 6, ground := Ground.data }, { on := 3, ground := Ground.guard }], guard := some (3, true) }, { dst := some 48, op := Op.fieldAddr 40 (Operand.tmp 3) 5, type := 0, pos := "ast.go:97", after := #[{ on := 3, ground := Ground.guard }], guard := some (3, true) }, { dst := some 49, op := Op.load 37 (Operand.tmp 48), type := 37, pos := "ast.go:97", after := #[{ on := 8, ground := Ground.data }, { on := 3, ground := Ground.guard }], guard := some (3, true) }, { dst := some 50, op := Op.nilCheck (Operand.tmp 49), type := 0, pos := "ast.go:97", after := #[{ on := 9, ground := Ground.data }, { on := 3, ground := Ground.guard }], guard := some (3, true) }, { dst := some 51, op := Op.load 40 (Operand.tmp 50), type := 40, pos := "ast.go:97", after := #[{ on := 10, ground := Ground.data }, { on := 3, ground := Ground.guard }], guard := some (3, true) }, { dst := some 52, op := Op.call { callee := Callee.value (Operand.func 81), args := #[Operand.tmp 47, Operand.tmp 51], argTypes := #[37, 40] }, type := 4, pos := "ast.go:97", after := #[{ on := 7, ground := Ground.data }, { on := 11, ground := Ground.data }, { on := 3, ground := Ground.chain }, { on := 3, ground := Ground.guard }], guard := some (3, true) }, { dst := some 53, op := Op.unOp UnOp.not 4 (Operand.tmp 52), type := 4, pos := "ast.go:97", after := #[{ on := 12, ground := Ground.data }, { on := 3, ground := Ground.guard }], guard := some (3, true) }, { dst := some 54, op := Op.pick (Operand.tmp 43) (Operand.tmp 53) (Operand.const (Value.bool false)), type := 4, pos := "ast.go:97", after := #[{ on := 3, ground := Ground.data }, { on := 13, ground := Ground.data }], guard := none }] true).wp Tryd.prog Q a0 W := by
  refine start_ (n := 15) (S := fun w' => True) (ds := []) #[false, false, false, false, false, false, false, false, false, false, false, false, false, false, false] (by kernel_rfl) rfl rfl trivial (fun hHeld => ?_)
  refine with_tabW as81n.tab as81n.bits (fun HT_ HW_ => ?_)
  refine inv_at [0, 1, 2, 3, 4, 5, 6, 7, 8, 9, 10, 11, 12, 13, 14] (fun a0_ b a w' => a = putSel a0_ b [(0, 40, .pointer (some ⟨w0.heap.size, 5, none⟩)), (1, 41, .pointer none), (2, 42, .bool false), (3, 43, .bool false), (4, 44, undef), (5, 45, undef), (6, 46, undef), (7, 47, undef), (8, 48, undef), (9, 49, undef), (10, 50, undef), (11, 51, undef), (12, 52, undef), (13, 53, undef), (14, 54, .bool false)] ∧ (ExI w0 x1 x2 A1 ca1 none V1 cv1 A2 ca2 q2 V2 cv2 w')) HT_.out HW_.out (by kernel_rfl) (by kernel_rfl) ?_ ?_ ?_
  · exact ⟨(by simp only [putSel, Bool.false_eq_true, if_false]), hI⟩
  · clear hI hend hHeld
    refine steps_cons ?_ ?_
    · rintro b a w' ⟨ha, hI⟩ hb_ hon hoff
      refine ⟨_, rfl, fun K hK => ?_⟩
      have e2 : a.tmps[2]? = some (.pointer (some ⟨w0.heap.size, 0, none⟩)) := by rw [ha]; exact (putSel_off rfl).trans s2
      replace ha := Aside0.mk ha
      refine value_ (w1 := w') (v := .pointer (some ⟨w0.heap.size, 5, none⟩)) (by rfl) rfl ?_ ?_
      · go_simp; try rfl
        all_goals (try (simp only [IntKind.wrap_i64]; omega))
      exact hK.out _ _ ⟨(by rw [ha.out]; exact putSel_upk 0 hb_ rfl rfl rfl), hI⟩
    refine steps_cons ?_ ?_
    · rintro b a w' ⟨ha, hI⟩ hb_ hon hoff
      refine ⟨_, rfl, fun K hK => ?_⟩
      have e40 : a.tmps[40]? = some (.pointer (some ⟨w0.heap.size, 5, none⟩)) := by rw [ha]; exact putSel_on (e := (0, 40, .pointer (some ⟨w0.heap.size, 5, none⟩))) 0 rfl rfl (hon 0 (by kernel_rfl)) (by rw [hsz]; rfl)
      replace ha := Aside0.mk ha
      have m0 := Own.c hI 1 5 rfl rfl
      refine value_ (w1 := w') (v := .pointer none) (by rfl) rfl ?_ ?_
      · go_simp; try rfl
        all_goals (try (simp only [IntKind.wrap_i64]; omega))
      exact hK.out _ _ ⟨(by rw [ha.out]; exact putSel_upk 1 hb_ rfl rfl rfl), hI⟩
    refine steps_cons ?_ ?_
    · rintro b a w' ⟨ha, hI⟩ hb_ hon hoff
      refine ⟨_, rfl, fun K hK => ?_⟩
      have e41 : a.tmps[41]? = some (.pointer none) := by rw [ha]; exact putSel_on (e := (1, 41, .pointer none)) 1 rfl rfl (hon 1 (by kernel_rfl)) (by rw [hsz]; rfl)
      replace ha := Aside0.mk ha
      refine value_ (w1 := w') (v := .bool false) (by rfl) rfl ?_ ?_
      · go_simp; try rfl
        all_goals (try (simp only [IntKind.wrap_i64]; omega))
      exact hK.out _ _ ⟨(by rw [ha.out]; exact putSel_upk 2 hb_ rfl rfl rfl), hI⟩
    refine steps_cons ?_ ?_
    · rintro b a w' ⟨ha, hI⟩ hb_ hon hoff
      refine ⟨_, rfl, fun K hK => ?_⟩
      have e42 : a.tmps[42]? = some (.bool false) := by rw [ha]; exact putSel_on (e := (2, 42, .bool false)) 2 rfl rfl (hon 2 (by kernel_rfl)) (by rw [hsz]; rfl)
      replace ha := Aside0.mk ha
      refine value_ (w1 := w') (v := .bool false) (by rfl) rfl ?_ ?_
      · go_simp; try rfl
        all_goals (try (simp only [IntKind.wrap_i64]; omega))
      exact hK.out _ _ ⟨(by rw [ha.out]; exact putSel_upk 3 hb_ rfl rfl rfl), hI⟩
    refine steps_cons ?_ ?_
    · rintro b a w' ⟨ha, hI⟩ hb_ hon hoff
      refine ⟨_, rfl, fun K hK => ?_⟩
      have e43 : a.tmps[43]? = some (.bool false) := by rw [ha]; exact putSel_on (e := (3, 43, .bool false)) 3 rfl rfl (hon 3 (by kernel_rfl)) (by rw [hsz]; rfl)
      exact off_ (wanted_off rfl rfl rfl e43) (hK.out _ _ ⟨(by rw [ha]; exact putSel_upk 4 hb_ rfl rfl rfl), hI⟩)
    refine steps_cons ?_ ?_
    · rintro b a w' ⟨ha, hI⟩ hb_ hon hoff
      refine ⟨_, rfl, fun K hK => ?_⟩
      have e43 : a.tmps[43]? = some (.bool false) := by rw [ha]; exact putSel_on (e := (3, 43, .bool false)) 3 rfl rfl (hon 3 (by kernel_rfl)) (by rw [hsz]; rfl)
      exact off_ (wanted_off rfl rfl rfl e43) (hK.out _ _ ⟨(by rw [ha]; exact putSel_upk 5 hb_ rfl rfl rfl), hI⟩)
    refine steps_cons ?_ ?_
    · rintro b a w' ⟨ha, hI⟩ hb_ hon hoff
      refine ⟨_, rfl, fun K hK => ?_⟩
      have e43 : a.tmps[43]? = some (.bool false) := by rw [ha]; exact putSel_on (e := (3, 43, .bool false)) 3 rfl rfl (hon 3 (by kernel_rfl)) (by rw [hsz]; rfl)
      exact off_ (wanted_off rfl rfl rfl e43) (hK.out _ _ ⟨(by rw [ha]; exact putSel_upk 6 hb_ rfl rfl rfl), hI⟩)
    refine steps_cons ?_ ?_
    · rintro b a w' ⟨ha, hI⟩ hb_ hon hoff
      refine ⟨_, rfl, fun K hK => ?_⟩
      have e43 : a.tmps[43]? = some (.bool false) := by rw [ha]; exact putSel_on (e := (3, 43, .bool false)) 3 rfl rfl (hon 3 (by kernel_rfl)) (by rw [hsz]; rfl)
      exact off_ (wanted_off rfl rfl rfl e43) (hK.out _ _ ⟨(by rw [ha]; exact putSel_upk 7 hb_ rfl rfl rfl), hI⟩)
    refine steps_cons ?_ ?_
    · rintro b a w' ⟨ha, hI⟩ hb_ hon hoff
      refine ⟨_, rfl, fun K hK => ?_⟩
      have e43 : a.tmps[43]? = some (.bool false) := by rw [ha]; exact putSel_on (e := (3, 43, .bool false)) 3 rfl rfl (hon 3 (by kernel_rfl)) (by rw [hsz]; rfl)
      exact off_ (wanted_off rfl rfl rfl e43) (hK.out _ _ ⟨(by rw [ha]; exact putSel_upk 8 hb_ rfl rfl rfl), hI⟩)
    refine steps_cons ?_ ?_
    · rintro b a w' ⟨ha, hI⟩ hb_ hon hoff
      refine ⟨_, rfl, fun K hK => ?_⟩
      have e43 : a.tmps[43]? = some (.bool false) := by rw [ha]; exact putSel_on (e := (3, 43, .bool false)) 3 rfl rfl (hon 3 (by kernel_rfl)) (by rw [hsz]; rfl)
      exact off_ (wanted_off rfl rfl rfl e43) (hK.out _ _ ⟨(by rw [ha]; exact putSel_upk 9 hb_ rfl rfl rfl), hI⟩)
    refine steps_cons ?_ ?_
    · rintro b a w' ⟨ha, hI⟩ hb_ hon hoff
      refine ⟨_, rfl, fun K hK => ?_⟩
      have e43 : a.tmps[43]? = some (.bool false) := by rw [ha]; exact putSel_on (e := (3, 43, .bool false)) 3 rfl rfl (hon 3 (by kernel_rfl)) (by rw [hsz]; rfl)
      exact off_ (wanted_off rfl rfl rfl e43) (hK.out _ _ ⟨(by rw [ha]; exact putSel_upk 10 hb_ rfl rfl rfl), hI⟩)
    refine steps_cons ?_ ?_
    · rintro b a w' ⟨ha, hI⟩ hb_ hon hoff
      refine ⟨_, rfl, fun K hK => ?_⟩
      have e43 : a.tmps[43]? = some (.bool false) := by rw [ha]; exact putSel_on (e := (3, 43, .bool false)) 3 rfl rfl (hon 3 (by kernel_rfl)) (by rw [hsz]; rfl)
      exact off_ (wanted_off rfl rfl rfl e43) (hK.out _ _ ⟨(by rw [ha]; exact putSel_upk 11 hb_ rfl rfl rfl), hI⟩)
    refine steps_cons ?_ ?_
    · rintro b a w' ⟨ha, hI⟩ hb_ hon hoff
      refine ⟨_, rfl, fun K hK => ?_⟩
      have e43 : a.tmps[43]? = some (.bool false) := by rw [ha]; exact putSel_on (e := (3, 43, .bool false)) 3 rfl rfl (hon 3 (by kernel_rfl)) (by rw [hsz]; rfl)
      exact off_ (wanted_off rfl rfl rfl e43) (hK.out _ _ ⟨(by rw [ha]; exact putSel_upk 12 hb_ rfl rfl rfl), hI⟩)
    refine steps_cons ?_ ?_
    · rintro b a w' ⟨ha, hI⟩ hb_ hon hoff
      refine ⟨_, rfl, fun K hK => ?_⟩
      have e43 : a.tmps[43]? = some (.bool false) := by rw [ha]; exact putSel_on (e := (3, 43, .bool false)) 3 rfl rfl (hon 3 (by kernel_rfl)) (by rw [hsz]; rfl)
      exact off_ (wanted_off rfl rfl rfl e43) (hK.out _ _ ⟨(by rw [ha]; exact putSel_upk 13 hb_ rfl rfl rfl), hI⟩)
    refine steps_cons ?_ ?_
    · rintro b a w' ⟨ha, hI⟩ hb_ hon hoff
      refine ⟨_, rfl, fun K hK => ?_⟩
      have e43 : a.tmps[43]? = some (.bool false) := by rw [ha]; exact putSel_on (e := (3, 43, .bool false)) 3 rfl rfl (hon 3 (by kernel_rfl)) (by rw [hsz]; rfl)
      have e53 : a.tmps[53]? = some (undef) := by rw [ha]; exact putSel_on (e := (13, 53, undef)) 13 rfl rfl (hon 13 (by kernel_rfl)) (by rw [hsz]; rfl)
      replace ha := Aside0.mk ha
      refine value_ (w1 := w') (v := .bool false) (by rfl) rfl ?_ ?_
      · go_simp; try rfl
        all_goals (try (simp only [IntKind.wrap_i64]; omega))
      exact hK.out _ _ ⟨(by rw [ha.out]; exact putSel_upk 14 hb_ rfl rfl rfl), hI⟩
    exact steps_nil
  rintro b a w1 hall ⟨ha, hI1⟩
  exact hend a w1 hI1 (by rw [ha]; simp only [putSel, if_true, hall 0 (by kernel_rfl), hall 1 (by kernel_rfl), hall 2 (by kernel_rfl), hall 3 (by kernel_rfl), hall 4 (by kernel_rfl), hall 5 (by kernel_rfl), hall 6 (by kernel_rfl), hall 7 (by kernel_rfl), hall 8 (by kernel_rfl), hall 9 (by kernel_rfl), hall 10 (by kernel_rfl), hall 11 (by kernel_rfl), hall 12 (by kernel_rfl), hall 13 (by kernel_rfl), hall 14 (by kernel_rfl)]) (by rw [ha]; exact (putSel_size b _ a0).2) (by rw [ha]; exact putSel_on (e := (14, 54, .bool false)) 14 rfl rfl (hall 14 (by kernel_rfl)) (by rw [hsz]; rfl))
end Go.Proofs.YtipmphgkdomebaaDoor
namespace Go.Proofs.YtipmphgkdomebaaDoor
open Go.RowKit Go.Proofs.YtipmphgkdomebaaDoorW.PrintWords Go.Proofs.YtipmphgkdomebaaDoorW.PrintLast
set_option linter.unusedVariables false
set_option linter.unusedSimpArgs false
def as47a.T : Bool × List (List Nat × List Nat) := (true, [([], []), ([], []), ([0, 1], [0, 1]), ([2], [2]), ([3], [3]), ([], []), ([], []), ([5, 6], [5, 6]), ([7], [7]), ([8], [8]), ([4, 9], [4, 9]), ([10], [10]), ([11], [11]), ([12, 11], [11, 12]), ([11], [11]), ([14, 11], [11, 14]), ([13, 15, 11], [11, 13, 15]), ([11, 16], [11, 16]), ([17, 11], [17]), ([18], [18]), ([19, 18], [18, 19]), ([20, 18, 18], [18, 20]), ([21], [21]), ([22, 21], [21, 22]), ([23, 21], [21, 23]), ([21], [21]), ([25, 21], [21, 25]), ([26, 21], [21, 26]), ([24, 27, 21, 21], [21, 24, 27]), ([28, 21], [21, 28]), ([21, 29, 18], [18, 21, 29]), ([18, 30], [18, 30])])
def as47a.B : List Nat := [0, 0, 3, 7, 15, 0, 0, 96, 224, 480, 1023, 2047, 4095, 8191, 4095, 20479, 65535, 131071, 262143, 524287, 1048575, 2097151, 4194303, 8388607, 16777215, 4194303, 37748735, 104857599, 268435455, 536870911, 1073741823, 2147483647]
theorem as47a.tab : rtab .any (opsOf Tryd.f47 8) = as47a.T := by kernel_rfl
theorem as47a.bits : waitsOk as47a.T.2 as47a.B = true := by kernel_rfl
set_option maxRecDepth 100000 in
set_option maxHeartbeats 4000000 in
theorem as47a (w0 : World) (t1 t2 : ByteArray) (hq : (t1.toList == t2.toList) = false) (n ca cb i b1 o1 b2 o2 : Nat) (q1 : (0 : Int) ≤ (i : Int)) (q2 : (i : Int) < (n : Int)) (p1 p2 : Option Addr) (d10 : w0.cell? ⟨b1, o1 + i * 2, none⟩ = some (.string t1)) (d20 : w0.cell? ⟨b2, o2 + i * 2, none⟩ = some (.string t2)) (a0 : Act) (s0 : a0.tmps[0]? = some (.slice (some ⟨b1, o1, none⟩) n ca)) (s1 : a0.tmps[1]? = some (.slice (some ⟨b2, o2, none⟩) n cb)) (s5 : a0.tmps[5]? = some (.int .i64 (i : Int))) (s6 : a0.tmps[6]? = some (.pointer p1)) (s7 : a0.tmps[7]? = some (.pointer p2)) (hsz : a0.tmps.size = Tryd.f47.ntmps) (W : World) (hI : Below w0.heap.size w0 W.drew) (Q : Exit → Act → World → Prop) (hend : ∀ (a9 : Act) w', Below w0.heap.size w0 w' → a9 = putSel a0 (fun _ => true) [(0, 28, .slice (some ⟨b1, o1, none⟩) n ca), (1, 29, .int .i64 (i : Int)), (2, 30, .pointer (some ⟨b1, o1 + i * 2, none⟩)), (3, 31, .pointer (some ⟨b1, o1 + i * 2, none⟩)), (4, 32, .string t1), (5, 33, .slice (some ⟨b2, o2, none⟩) n cb), (6, 34, .int .i64 (i : Int)), (7, 35, .pointer (some ⟨b2, o2 + i * 2, none⟩)), (8, 36, .pointer (some ⟨b2, o2 + i * 2, none⟩)), (9, 37, .string t2), (10, 38, .bool true), (11, 39, .bool true), (12, 40, undef), (13, 41, undef), (14, 42, undef), (15, 43, undef), (16, 44, undef), (17, 45, .bool true), (18, 46, .bool true), (19, 47, undef), (20, 48, undef), (21, 49, undef), (22, 50, undef), (23, 51, undef), (24, 52, undef), (25, 53, undef), (26, 54, undef), (27, 55, undef), (28, 56, undef), (29, 57, undef), (30, 58, undef), (31, 59, .bool true)] → a9.defers = a0.defers → a9.tmps[59]? = some (.bool true) → Q .normal a9 w') :
    (Code.region 8 #[{ dst := some 28, op := Op.move (Operand.tmp 0), type := 26, pos := "law.go:246", after := #[], guard := none }, { dst := some 29, op := Op.move (Operand.tmp 5), type := 3, pos := "law.go:246", after := #[], guard := none }, { dst := some 30, op := Op.indexAddr 26 (Operand.tmp 28) (Operand.tmp 29), type := 0, pos := "law.go:246", after := #[{ on := 0, ground := Ground.data }, { on := 1, ground := Ground.data }], guard := none }, { dst := some 31, op := Op.fieldAddr 42 (Operand.tmp 30) 0, type := 0, pos := "law.go:246", after := #[{ on := 2, ground := Ground.data }], guard := none }, { dst := some 32, op := Op.load 9 (Operand.tmp 31), type := 9, pos := "law.go:246", after := #[{ on := 3, ground := Ground.data }], guard := none }, { dst := some 33, op := Op.move (Operand.tmp 1), type := 26, pos := "law.go:246", after := #[], guard := none }, { dst := some 34, op := Op.move (Operand.tmp 5), type := 3, pos := "law.go:246", after := #[], guard := none }, { dst := some 35, op := Op.indexAddr 26 (Operand.tmp 33) (Operand.tmp 34), type := 0, pos := "law.go:246", after := #[{ on := 5, ground := Ground.data }, { on := 6, ground := Ground.data }], guard := none }, { dst := some 36, op := Op.fieldAddr 42 (Operand.tmp 35) 0, type := 0, pos := "law.go:246", after := #[{ on := 7, ground := Ground.data }], guard := none }, { dst := some 37, op := Op.load 9 (Operand.tmp 36), type := 9, pos := "law.go:246", after := #[{ on := 8, ground := Ground.data }], guard := none }, { dst := some 38, op := Op.binOp BinOp.neq 9 (Operand.tmp 32) (Operand.tmp 37) 9, type := 4, pos := "law.go:246", after := #[{ on := 4, ground := Ground.data }, { on := 9, ground := Ground.data }], guard := none }, { dst := some 39, op := Op.move (Operand.tmp 38), type := 4, pos := "law.go:246", after := #[{ on := 10, ground := Ground.data }], guard := none }, { dst := some 40, op := Op.move (Operand.tmp 6), type := 37, pos := "law.go:246", after := #[{ on := 11, ground := Ground.guard }], guard := some (11, false) }, { dst := some 41, op := Op.binOp BinOp.eql 37 (Operand.tmp 40) (Operand.const (Value.pointer none)) 37, type := 4, pos := "law.go:246", after := #[{ on := 12, ground := Ground.data }, { on := 11, ground := Ground.guard }], guard := some (11, false) }, { dst := some 42, op := Op.move (Operand.tmp 7), type := 37, pos := "law.go:246", after := #[{ on := 11, ground := Ground.guard }], guard := some (11, false) }, { dst := some 43, op := Op.binOp BinOp.eql 37 (Operand.tmp 42) (Operand.const (Value.pointer none)) 37, type := 4, pos := "law.go:246", after := #[{ on := 14, ground := Ground.data }, { on := 11, ground := Ground.guard }], guard := some (11, false) }, { dst := some 44, op := Op.binOp BinOp.neq 4 (Operand.tmp 41) (Operand.tmp 43) 4, type := 4, pos := "law.go:246", after := #[{ on := 13, ground := Ground.data }, { on := 15, ground := Ground.data }, { on := 11, ground := Ground.guard }], guard := some (11, false) }, { dst := some 45, op := Op.pick (Operand.tmp 39) (Operand.const (Value.bool true)) (Operand.tmp 44), type := 4, pos := "law.go:246", after := #[{ on := 11, ground := Ground.data }, { on := 16, ground := Ground.data }], guard := none }, { dst := some 46, op := Op.move (Operand.tmp 45), type := 4, pos := "law.go:246", after := #[{ on := 17, ground := Ground.data }, { on := 11, ground := Ground.chain }], guard := none }, { dst := some 47, op := Op.move (Operand.tmp 6), type := 37, pos := "law.go:246", after := #[{ on := 18, ground := Ground.guard }], guard := some (18, false) }, { dst := some 48, op := Op.binOp BinOp.neq 37 (Operand.tmp 47) (Operand.const (Value.pointer none)) 37, type := 4, pos := "law.go:246", after := #[{ on := 19, ground := Ground.data }, { on := 18, ground := Ground.guard }], guard := some (18, false) }, { dst := some 49, op := Op.move (Operand.tmp 48), type := 4, pos := "law.go:246", after := #[{ on := 20, ground := Ground.data }, { on := 18, ground := Ground.chain }, { on := 18, ground := Ground.guard }], guard := some (18, false) }, { dst := some 50, op := Op.move (Operand.tmp 6), type := 37, pos := "law.go:246", after := #[{ on := 21, ground := Ground.guard }], guard := some (21, true) }, { dst := some 51, op := Op.nilCheck (Operand.tmp 50), type := 0, pos := "law.go:246", after := #[{ on := 22, ground := Ground.data }, { on := 21, ground := Ground.guard }], guard := some (21, true) }, { dst := some 52, op := Op.load 40 (Operand.tmp 51), type := 40, pos := "law.go:246", after := #[{ on := 23, ground := Ground.data }, { on := 21, ground := Ground.guard }], guard := some (21, true) }, { dst := some 53, op := Op.move (Operand.tmp 7), type := 37, pos := "law.go:246", after := #[{ on := 21, ground := Ground.guard }], guard := some (21, true) }, { dst := some 54, op := Op.nilCheck (Operand.tmp 53), type := 0, pos := "law.go:246", after := #[{ on := 25, ground := Ground.data }, { on := 21, ground := Ground.guard }], guard := some (21, true) }, { dst := some 55, op := Op.load 40 (Operand.tmp 54), type := 40, pos := "law.go:246", after := #[{ on := 26, ground := Ground.data }, { on := 21, ground := Ground.guard }], guard := some (21, true) }, { dst := some 56, op := Op.call { callee := Callee.value (Operand.func 82), args := #[Operand.tmp 52, Operand.tmp 55], argTypes := #[40, 40] }, type := 4, pos := "law.go:246", after := #[{ on := 24, ground := Ground.data }, { on := 27, ground := Ground.data }, { on := 21, ground := Ground.chain }, { on := 21, ground := Ground.guard }], guard := some (21, true) }, { dst := some 57, op := Op.unOp UnOp.not 4 (Operand.tmp 56), type := 4, pos := "law.go:246", after := #[{ on := 28, ground := Ground.data }, { on := 21, ground := Ground.guard }], guard := some (21, true) }, { dst := some 58, op := Op.pick (Operand.tmp 49) (Operand.tmp 57) (Operand.const (Value.bool false)), type := 4, pos := "law.go:246", after := #[{ on := 21, ground := Ground.data }, { on := 29, ground := Ground.data }, { on := 18, ground := Ground.guard }], guard := some (18, false) }, { dst := some 59, op := Op.pick (Operand.tmp 46) (Operand.const (Value.bool true)) (Operand.tmp 58), type := 4, pos := "law.go:246", after := #[{ on := 18, ground := Ground.data }, { on := 30, ground := Ground.data }], guard := none }] true).wp Tryd.prog Q a0 W := by
  refine start_ (n := 32) (S := fun w' => True) (ds := []) #[false, false, false, false, false, false, false, false, false, false, false, false, false, false, false, false, false, false, false, false, false, false, false, false, false, false, false, false, false, false, false, false] (by kernel_rfl) rfl rfl trivial (fun hHeld => ?_)
  refine with_tabW as47a.tab as47a.bits (fun HT_ HW_ => ?_)
  refine inv_at [0, 1, 2, 3, 4, 5, 6, 7, 8, 9, 10, 11, 12, 13, 14, 15, 16, 17, 18, 19, 20, 21, 22, 23, 24, 25, 26, 27, 28, 29, 30, 31] (fun a0_ b a w' => a = putSel a0_ b [(0, 28, .slice (some ⟨b1, o1, none⟩) n ca), (1, 29, .int .i64 (i : Int)), (2, 30, .pointer (some ⟨b1, o1 + i * 2, none⟩)), (3, 31, .pointer (some ⟨b1, o1 + i * 2, none⟩)), (4, 32, .string t1), (5, 33, .slice (some ⟨b2, o2, none⟩) n cb), (6, 34, .int .i64 (i : Int)), (7, 35, .pointer (some ⟨b2, o2 + i * 2, none⟩)), (8, 36, .pointer (some ⟨b2, o2 + i * 2, none⟩)), (9, 37, .string t2), (10, 38, .bool true), (11, 39, .bool true), (12, 40, undef), (13, 41, undef), (14, 42, undef), (15, 43, undef), (16, 44, undef), (17, 45, .bool true), (18, 46, .bool true), (19, 47, undef), (20, 48, undef), (21, 49, undef), (22, 50, undef), (23, 51, undef), (24, 52, undef), (25, 53, undef), (26, 54, undef), (27, 55, undef), (28, 56, undef), (29, 57, undef), (30, 58, undef), (31, 59, .bool true)] ∧ (Below w0.heap.size w0 w')) HT_.out HW_.out (by kernel_rfl) (by kernel_rfl) ?_ ?_ ?_
  · exact ⟨(by simp only [putSel, Bool.false_eq_true, if_false]), hI⟩
  · clear hI hend hHeld
    refine steps_cons ?_ ?_
    · rintro b a w' ⟨ha, hI⟩ hb_ hon hoff
      refine ⟨_, rfl, fun K hK => ?_⟩
      have e0 : a.tmps[0]? = some (.slice (some ⟨b1, o1, none⟩) n ca) := by rw [ha]; exact (putSel_off rfl).trans s0
      replace ha := Aside0.mk ha
      refine value_ (w1 := w') (v := .slice (some ⟨b1, o1, none⟩) n ca) (by rfl) rfl ?_ ?_
      · go_simp; try rfl
        all_goals (try (simp only [IntKind.wrap_i64]; omega))
      exact hK.out _ _ ⟨(by rw [ha.out]; exact putSel_upk 0 hb_ rfl rfl rfl), hI⟩
    refine steps_cons ?_ ?_
    · rintro b a w' ⟨ha, hI⟩ hb_ hon hoff
      refine ⟨_, rfl, fun K hK => ?_⟩
      have e5 : a.tmps[5]? = some (.int .i64 (i : Int)) := by rw [ha]; exact (putSel_off rfl).trans s5
      replace ha := Aside0.mk ha
      refine value_ (w1 := w') (v := .int .i64 (i : Int)) (by rfl) rfl ?_ ?_
      · go_simp; try rfl
        all_goals (try (simp only [IntKind.wrap_i64]; omega))
      exact hK.out _ _ ⟨(by rw [ha.out]; exact putSel_upk 1 hb_ rfl rfl rfl), hI⟩
    refine steps_cons ?_ ?_
    · rintro b a w' ⟨ha, hI⟩ hb_ hon hoff
      refine ⟨_, rfl, fun K hK => ?_⟩
      have e28 : a.tmps[28]? = some (.slice (some ⟨b1, o1, none⟩) n ca) := by rw [ha]; exact putSel_on (e := (0, 28, .slice (some ⟨b1, o1, none⟩) n ca)) 0 rfl rfl (hon 0 (by kernel_rfl)) (by rw [hsz]; rfl)
      have e29 : a.tmps[29]? = some (.int .i64 (i : Int)) := by rw [ha]; exact putSel_on (e := (1, 29, .int .i64 (i : Int))) 1 rfl rfl (hon 1 (by kernel_rfl)) (by rw [hsz]; rfl)
      replace ha := Aside0.mk ha
      refine value_ (w1 := w') (v := .pointer (some ⟨b1, o1 + i * 2, none⟩)) (by rfl) rfl ?_ ?_
      · go_simp; try rfl
        all_goals (try (simp only [IntKind.wrap_i64]; omega))
      exact hK.out _ _ ⟨(by rw [ha.out]; exact putSel_upk 2 hb_ rfl rfl rfl), hI⟩
    refine steps_cons ?_ ?_
    · rintro b a w' ⟨ha, hI⟩ hb_ hon hoff
      refine ⟨_, rfl, fun K hK => ?_⟩
      have e30 : a.tmps[30]? = some (.pointer (some ⟨b1, o1 + i * 2, none⟩)) := by rw [ha]; exact putSel_on (e := (2, 30, .pointer (some ⟨b1, o1 + i * 2, none⟩))) 2 rfl rfl (hon 2 (by kernel_rfl)) (by rw [hsz]; rfl)
      replace ha := Aside0.mk ha
      refine value_ (w1 := w') (v := .pointer (some ⟨b1, o1 + i * 2, none⟩)) (by rfl) rfl ?_ ?_
      · go_simp; try rfl
        all_goals (try (simp only [IntKind.wrap_i64]; omega))
      exact hK.out _ _ ⟨(by rw [ha.out]; exact putSel_upk 3 hb_ rfl rfl rfl), hI⟩
    refine steps_cons ?_ ?_
    · rintro b a w' ⟨ha, hI⟩ hb_ hon hoff
      refine ⟨_, rfl, fun K hK => ?_⟩
      have e31 : a.tmps[31]? = some (.pointer (some ⟨b1, o1 + i * 2, none⟩)) := by rw [ha]; exact putSel_on (e := (3, 31, .pointer (some ⟨b1, o1 + i * 2, none⟩))) 3 rfl rfl (hon 3 (by kernel_rfl)) (by rw [hsz]; rfl)
      replace ha := Aside0.mk ha
      have m0 := Kept.of hI _ _ _ d10
      refine value_ (w1 := w') (v := .string t1) (by rfl) rfl ?_ ?_
      · go_simp; try rfl
        all_goals (try (simp only [IntKind.wrap_i64]; omega))
      exact hK.out _ _ ⟨(by rw [ha.out]; exact putSel_upk 4 hb_ rfl rfl rfl), hI⟩
    refine steps_cons ?_ ?_
    · rintro b a w' ⟨ha, hI⟩ hb_ hon hoff
      refine ⟨_, rfl, fun K hK => ?_⟩
      have e1 : a.tmps[1]? = some (.slice (some ⟨b2, o2, none⟩) n cb) := by rw [ha]; exact (putSel_off rfl).trans s1
      replace ha := Aside0.mk ha
      refine value_ (w1 := w') (v := .slice (some ⟨b2, o2, none⟩) n cb) (by rfl) rfl ?_ ?_
      · go_simp; try rfl
        all_goals (try (simp only [IntKind.wrap_i64]; omega))
      exact hK.out _ _ ⟨(by rw [ha.out]; exact putSel_upk 5 hb_ rfl rfl rfl), hI⟩
    refine steps_cons ?_ ?_
    · rintro b a w' ⟨ha, hI⟩ hb_ hon hoff
      refine ⟨_, rfl, fun K hK => ?_⟩
      have e5 : a.tmps[5]? = some (.int .i64 (i : Int)) := by rw [ha]; exact (putSel_off rfl).trans s5
      replace ha := Aside0.mk ha
      refine value_ (w1 := w') (v := .int .i64 (i : Int)) (by rfl) rfl ?_ ?_
      · go_simp; try rfl
        all_goals (try (simp only [IntKind.wrap_i64]; omega))
      exact hK.out _ _ ⟨(by rw [ha.out]; exact putSel_upk 6 hb_ rfl rfl rfl), hI⟩
    refine steps_cons ?_ ?_
    · rintro b a w' ⟨ha, hI⟩ hb_ hon hoff
      refine ⟨_, rfl, fun K hK => ?_⟩
      have e33 : a.tmps[33]? = some (.slice (some ⟨b2, o2, none⟩) n cb) := by rw [ha]; exact putSel_on (e := (5, 33, .slice (some ⟨b2, o2, none⟩) n cb)) 5 rfl rfl (hon 5 (by kernel_rfl)) (by rw [hsz]; rfl)
      have e34 : a.tmps[34]? = some (.int .i64 (i : Int)) := by rw [ha]; exact putSel_on (e := (6, 34, .int .i64 (i : Int))) 6 rfl rfl (hon 6 (by kernel_rfl)) (by rw [hsz]; rfl)
      replace ha := Aside0.mk ha
      refine value_ (w1 := w') (v := .pointer (some ⟨b2, o2 + i * 2, none⟩)) (by rfl) rfl ?_ ?_
      · go_simp; try rfl
        all_goals (try (simp only [IntKind.wrap_i64]; omega))
      exact hK.out _ _ ⟨(by rw [ha.out]; exact putSel_upk 7 hb_ rfl rfl rfl), hI⟩
    refine steps_cons ?_ ?_
    · rintro b a w' ⟨ha, hI⟩ hb_ hon hoff
      refine ⟨_, rfl, fun K hK => ?_⟩
      have e35 : a.tmps[35]? = some (.pointer (some ⟨b2, o2 + i * 2, none⟩)) := by rw [ha]; exact putSel_on (e := (7, 35, .pointer (some ⟨b2, o2 + i * 2, none⟩))) 7 rfl rfl (hon 7 (by kernel_rfl)) (by rw [hsz]; rfl)
      replace ha := Aside0.mk ha
      refine value_ (w1 := w') (v := .pointer (some ⟨b2, o2 + i * 2, none⟩)) (by rfl) rfl ?_ ?_
      · go_simp; try rfl
        all_goals (try (simp only [IntKind.wrap_i64]; omega))
      exact hK.out _ _ ⟨(by rw [ha.out]; exact putSel_upk 8 hb_ rfl rfl rfl), hI⟩
    refine steps_cons ?_ ?_
    · rintro b a w' ⟨ha, hI⟩ hb_ hon hoff
      refine ⟨_, rfl, fun K hK => ?_⟩
      have e36 : a.tmps[36]? = some (.pointer (some ⟨b2, o2 + i * 2, none⟩)) := by rw [ha]; exact putSel_on (e := (8, 36, .pointer (some ⟨b2, o2 + i * 2, none⟩))) 8 rfl rfl (hon 8 (by kernel_rfl)) (by rw [hsz]; rfl)
      replace ha := Aside0.mk ha
      have m0 := Kept.of hI _ _ _ d20
      refine value_ (w1 := w') (v := .string t2) (by rfl) rfl ?_ ?_
      · go_simp; try rfl
        all_goals (try (simp only [IntKind.wrap_i64]; omega))
      exact hK.out _ _ ⟨(by rw [ha.out]; exact putSel_upk 9 hb_ rfl rfl rfl), hI⟩
    refine steps_cons ?_ ?_
    · rintro b a w' ⟨ha, hI⟩ hb_ hon hoff
      refine ⟨_, rfl, fun K hK => ?_⟩
      have e32 : a.tmps[32]? = some (.string t1) := by rw [ha]; exact putSel_on (e := (4, 32, .string t1)) 4 rfl rfl (hon 4 (by kernel_rfl)) (by rw [hsz]; rfl)
      have e37 : a.tmps[37]? = some (.string t2) := by rw [ha]; exact putSel_on (e := (9, 37, .string t2)) 9 rfl rfl (hon 9 (by kernel_rfl)) (by rw [hsz]; rfl)
      replace ha := Aside0.mk ha
      refine value_ (w1 := w') (v := .bool true) (by rfl) rfl ?_ ?_
      · go_simp; try rfl
        all_goals (try (simp only [IntKind.wrap_i64]; omega))
      exact hK.out _ _ ⟨(by rw [ha.out]; exact putSel_upk 10 hb_ rfl rfl rfl), hI⟩
    refine steps_cons ?_ ?_
    · rintro b a w' ⟨ha, hI⟩ hb_ hon hoff
      refine ⟨_, rfl, fun K hK => ?_⟩
      have e38 : a.tmps[38]? = some (.bool true) := by rw [ha]; exact putSel_on (e := (10, 38, .bool true)) 10 rfl rfl (hon 10 (by kernel_rfl)) (by rw [hsz]; rfl)
      replace ha := Aside0.mk ha
      refine value_ (w1 := w') (v := .bool true) (by rfl) rfl ?_ ?_
      · go_simp; try rfl
        all_goals (try (simp only [IntKind.wrap_i64]; omega))
      exact hK.out _ _ ⟨(by rw [ha.out]; exact putSel_upk 11 hb_ rfl rfl rfl), hI⟩
    refine steps_cons ?_ ?_
    · rintro b a w' ⟨ha, hI⟩ hb_ hon hoff
      refine ⟨_, rfl, fun K hK => ?_⟩
      have e39 : a.tmps[39]? = some (.bool true) := by rw [ha]; exact putSel_on (e := (11, 39, .bool true)) 11 rfl rfl (hon 11 (by kernel_rfl)) (by rw [hsz]; rfl)
      exact off_ (wanted_off rfl rfl rfl e39) (hK.out _ _ ⟨(by rw [ha]; exact putSel_upk 12 hb_ rfl rfl rfl), hI⟩)
    refine steps_cons ?_ ?_
    · rintro b a w' ⟨ha, hI⟩ hb_ hon hoff
      refine ⟨_, rfl, fun K hK => ?_⟩
      have e39 : a.tmps[39]? = some (.bool true) := by rw [ha]; exact putSel_on (e := (11, 39, .bool true)) 11 rfl rfl (hon 11 (by kernel_rfl)) (by rw [hsz]; rfl)
      exact off_ (wanted_off rfl rfl rfl e39) (hK.out _ _ ⟨(by rw [ha]; exact putSel_upk 13 hb_ rfl rfl rfl), hI⟩)
    refine steps_cons ?_ ?_
    · rintro b a w' ⟨ha, hI⟩ hb_ hon hoff
      refine ⟨_, rfl, fun K hK => ?_⟩
      have e39 : a.tmps[39]? = some (.bool true) := by rw [ha]; exact putSel_on (e := (11, 39, .bool true)) 11 rfl rfl (hon 11 (by kernel_rfl)) (by rw [hsz]; rfl)
      exact off_ (wanted_off rfl rfl rfl e39) (hK.out _ _ ⟨(by rw [ha]; exact putSel_upk 14 hb_ rfl rfl rfl), hI⟩)
    refine steps_cons ?_ ?_
    · rintro b a w' ⟨ha, hI⟩ hb_ hon hoff
      refine ⟨_, rfl, fun K hK => ?_⟩
      have e39 : a.tmps[39]? = some (.bool true) := by rw [ha]; exact putSel_on (e := (11, 39, .bool true)) 11 rfl rfl (hon 11 (by kernel_rfl)) (by rw [hsz]; rfl)
      exact off_ (wanted_off rfl rfl rfl e39) (hK.out _ _ ⟨(by rw [ha]; exact putSel_upk 15 hb_ rfl rfl rfl), hI⟩)
    refine steps_cons ?_ ?_
    · rintro b a w' ⟨ha, hI⟩ hb_ hon hoff
      refine ⟨_, rfl, fun K hK => ?_⟩
      have e39 : a.tmps[39]? = some (.bool true) := by rw [ha]; exact putSel_on (e := (11, 39, .bool true)) 11 rfl rfl (hon 11 (by kernel_rfl)) (by rw [hsz]; rfl)
      exact off_ (wanted_off rfl rfl rfl e39) (hK.out _ _ ⟨(by rw [ha]; exact putSel_upk 16 hb_ rfl rfl rfl), hI⟩)
    refine steps_cons ?_ ?_
    · rintro b a w' ⟨ha, hI⟩ hb_ hon hoff
      refine ⟨_, rfl, fun K hK => ?_⟩
      have e39 : a.tmps[39]? = some (.bool true) := by rw [ha]; exact putSel_on (e := (11, 39, .bool true)) 11 rfl rfl (hon 11 (by kernel_rfl)) (by rw [hsz]; rfl)
      have e44 : a.tmps[44]? = some (undef) := by rw [ha]; exact putSel_on (e := (16, 44, undef)) 16 rfl rfl (hon 16 (by kernel_rfl)) (by rw [hsz]; rfl)
      replace ha := Aside0.mk ha
      refine value_ (w1 := w') (v := .bool true) (by rfl) rfl ?_ ?_
      · go_simp; try rfl
        all_goals (try (simp only [IntKind.wrap_i64]; omega))
      exact hK.out _ _ ⟨(by rw [ha.out]; exact putSel_upk 17 hb_ rfl rfl rfl), hI⟩
    refine steps_cons ?_ ?_
    · rintro b a w' ⟨ha, hI⟩ hb_ hon hoff
      refine ⟨_, rfl, fun K hK => ?_⟩
      have e45 : a.tmps[45]? = some (.bool true) := by rw [ha]; exact putSel_on (e := (17, 45, .bool true)) 17 rfl rfl (hon 17 (by kernel_rfl)) (by rw [hsz]; rfl)
      replace ha := Aside0.mk ha
      refine value_ (w1 := w') (v := .bool true) (by rfl) rfl ?_ ?_
      · go_simp; try rfl
        all_goals (try (simp only [IntKind.wrap_i64]; omega))
      exact hK.out _ _ ⟨(by rw [ha.out]; exact putSel_upk 18 hb_ rfl rfl rfl), hI⟩
    refine steps_cons ?_ ?_
    · rintro b a w' ⟨ha, hI⟩ hb_ hon hoff
      refine ⟨_, rfl, fun K hK => ?_⟩
      have e46 : a.tmps[46]? = some (.bool true) := by rw [ha]; exact putSel_on (e := (18, 46, .bool true)) 18 rfl rfl (hon 18 (by kernel_rfl)) (by rw [hsz]; rfl)
      exact off_ (wanted_off rfl rfl rfl e46) (hK.out _ _ ⟨(by rw [ha]; exact putSel_upk 19 hb_ rfl rfl rfl), hI⟩)
    refine steps_cons ?_ ?_
    · rintro b a w' ⟨ha, hI⟩ hb_ hon hoff
      refine ⟨_, rfl, fun K hK => ?_⟩
      have e46 : a.tmps[46]? = some (.bool true) := by rw [ha]; exact putSel_on (e := (18, 46, .bool true)) 18 rfl rfl (hon 18 (by kernel_rfl)) (by rw [hsz]; rfl)
      exact off_ (wanted_off rfl rfl rfl e46) (hK.out _ _ ⟨(by rw [ha]; exact putSel_upk 20 hb_ rfl rfl rfl), hI⟩)
    refine steps_cons ?_ ?_
    · rintro b a w' ⟨ha, hI⟩ hb_ hon hoff
      refine ⟨_, rfl, fun K hK => ?_⟩
      have e46 : a.tmps[46]? = some (.bool true) := by rw [ha]; exact putSel_on (e := (18, 46, .bool true)) 18 rfl rfl (hon 18 (by kernel_rfl)) (by rw [hsz]; rfl)
      exact off_ (wanted_off rfl rfl rfl e46) (hK.out _ _ ⟨(by rw [ha]; exact putSel_upk 21 hb_ rfl rfl rfl), hI⟩)
    refine steps_cons ?_ ?_
    · rintro b a w' ⟨ha, hI⟩ hb_ hon hoff
      refine ⟨_, rfl, fun K hK => ?_⟩
      have e49 : a.tmps[49]? = some (undef) := by rw [ha]; exact putSel_on (e := (21, 49, undef)) 21 rfl rfl (hon 21 (by kernel_rfl)) (by rw [hsz]; rfl)
      exact off_ (wanted_und rfl rfl rfl e49) (hK.out _ _ ⟨(by rw [ha]; exact putSel_upk 22 hb_ rfl rfl rfl), hI⟩)
    refine steps_cons ?_ ?_
    · rintro b a w' ⟨ha, hI⟩ hb_ hon hoff
      refine ⟨_, rfl, fun K hK => ?_⟩
      have e49 : a.tmps[49]? = some (undef) := by rw [ha]; exact putSel_on (e := (21, 49, undef)) 21 rfl rfl (hon 21 (by kernel_rfl)) (by rw [hsz]; rfl)
      exact off_ (wanted_und rfl rfl rfl e49) (hK.out _ _ ⟨(by rw [ha]; exact putSel_upk 23 hb_ rfl rfl rfl), hI⟩)
    refine steps_cons ?_ ?_
    · rintro b a w' ⟨ha, hI⟩ hb_ hon hoff
      refine ⟨_, rfl, fun K hK => ?_⟩
      have e49 : a.tmps[49]? = some (undef) := by rw [ha]; exact putSel_on (e := (21, 49, undef)) 21 rfl rfl (hon 21 (by kernel_rfl)) (by rw [hsz]; rfl)
      exact off_ (wanted_und rfl rfl rfl e49) (hK.out _ _ ⟨(by rw [ha]; exact putSel_upk 24 hb_ rfl rfl rfl), hI⟩)
    refine steps_cons ?_ ?_
    · rintro b a w' ⟨ha, hI⟩ hb_ hon hoff
      refine ⟨_, rfl, fun K hK => ?_⟩
      have e49 : a.tmps[49]? = some (undef) := by rw [ha]; exact putSel_on (e := (21, 49, undef)) 21 rfl rfl (hon 21 (by kernel_rfl)) (by rw [hsz]; rfl)
      exact off_ (wanted_und rfl rfl rfl e49) (hK.out _ _ ⟨(by rw [ha]; exact putSel_upk 25 hb_ rfl rfl rfl), hI⟩)
    refine steps_cons ?_ ?_
    · rintro b a w' ⟨ha, hI⟩ hb_ hon hoff
      refine ⟨_, rfl, fun K hK => ?_⟩
      have e49 : a.tmps[49]? = some (undef) := by rw [ha]; exact putSel_on (e := (21, 49, undef)) 21 rfl rfl (hon 21 (by kernel_rfl)) (by rw [hsz]; rfl)
      exact off_ (wanted_und rfl rfl rfl e49) (hK.out _ _ ⟨(by rw [ha]; exact putSel_upk 26 hb_ rfl rfl rfl), hI⟩)
    refine steps_cons ?_ ?_
    · rintro b a w' ⟨ha, hI⟩ hb_ hon hoff
      refine ⟨_, rfl, fun K hK => ?_⟩
      have e49 : a.tmps[49]? = some (undef) := by rw [ha]; exact putSel_on (e := (21, 49, undef)) 21 rfl rfl (hon 21 (by kernel_rfl)) (by rw [hsz]; rfl)
      exact off_ (wanted_und rfl rfl rfl e49) (hK.out _ _ ⟨(by rw [ha]; exact putSel_upk 27 hb_ rfl rfl rfl), hI⟩)
    refine steps_cons ?_ ?_
    · rintro b a w' ⟨ha, hI⟩ hb_ hon hoff
      refine ⟨_, rfl, fun K hK => ?_⟩
      have e49 : a.tmps[49]? = some (undef) := by rw [ha]; exact putSel_on (e := (21, 49, undef)) 21 rfl rfl (hon 21 (by kernel_rfl)) (by rw [hsz]; rfl)
      exact off_ (wanted_und rfl rfl rfl e49) (hK.out _ _ ⟨(by rw [ha]; exact putSel_upk 28 hb_ rfl rfl rfl), hI⟩)
    refine steps_cons ?_ ?_
    · rintro b a w' ⟨ha, hI⟩ hb_ hon hoff
      refine ⟨_, rfl, fun K hK => ?_⟩
      have e49 : a.tmps[49]? = some (undef) := by rw [ha]; exact putSel_on (e := (21, 49, undef)) 21 rfl rfl (hon 21 (by kernel_rfl)) (by rw [hsz]; rfl)
      exact off_ (wanted_und rfl rfl rfl e49) (hK.out _ _ ⟨(by rw [ha]; exact putSel_upk 29 hb_ rfl rfl rfl), hI⟩)
    refine steps_cons ?_ ?_
    · rintro b a w' ⟨ha, hI⟩ hb_ hon hoff
      refine ⟨_, rfl, fun K hK => ?_⟩
      have e46 : a.tmps[46]? = some (.bool true) := by rw [ha]; exact putSel_on (e := (18, 46, .bool true)) 18 rfl rfl (hon 18 (by kernel_rfl)) (by rw [hsz]; rfl)
      exact off_ (wanted_off rfl rfl rfl e46) (hK.out _ _ ⟨(by rw [ha]; exact putSel_upk 30 hb_ rfl rfl rfl), hI⟩)
    refine steps_cons ?_ ?_
    · rintro b a w' ⟨ha, hI⟩ hb_ hon hoff
      refine ⟨_, rfl, fun K hK => ?_⟩
      have e46 : a.tmps[46]? = some (.bool true) := by rw [ha]; exact putSel_on (e := (18, 46, .bool true)) 18 rfl rfl (hon 18 (by kernel_rfl)) (by rw [hsz]; rfl)
      have e58 : a.tmps[58]? = some (undef) := by rw [ha]; exact putSel_on (e := (30, 58, undef)) 30 rfl rfl (hon 30 (by kernel_rfl)) (by rw [hsz]; rfl)
      replace ha := Aside0.mk ha
      refine value_ (w1 := w') (v := .bool true) (by rfl) rfl ?_ ?_
      · go_simp; try rfl
        all_goals (try (simp only [IntKind.wrap_i64]; omega))
      exact hK.out _ _ ⟨(by rw [ha.out]; exact putSel_upk 31 hb_ rfl rfl rfl), hI⟩
    exact steps_nil
  rintro b a w1 hall ⟨ha, hI1⟩
  exact hend a w1 hI1 (by rw [ha]; simp only [putSel, if_true, hall 0 (by kernel_rfl), hall 1 (by kernel_rfl), hall 2 (by kernel_rfl), hall 3 (by kernel_rfl), hall 4 (by kernel_rfl), hall 5 (by kernel_rfl), hall 6 (by kernel_rfl), hall 7 (by kernel_rfl), hall 8 (by kernel_rfl), hall 9 (by kernel_rfl), hall 10 (by kernel_rfl), hall 11 (by kernel_rfl), hall 12 (by kernel_rfl), hall 13 (by kernel_rfl), hall 14 (by kernel_rfl), hall 15 (by kernel_rfl), hall 16 (by kernel_rfl), hall 17 (by kernel_rfl), hall 18 (by kernel_rfl), hall 19 (by kernel_rfl), hall 20 (by kernel_rfl), hall 21 (by kernel_rfl), hall 22 (by kernel_rfl), hall 23 (by kernel_rfl), hall 24 (by kernel_rfl), hall 25 (by kernel_rfl), hall 26 (by kernel_rfl), hall 27 (by kernel_rfl), hall 28 (by kernel_rfl), hall 29 (by kernel_rfl), hall 30 (by kernel_rfl), hall 31 (by kernel_rfl)]) (by rw [ha]; exact (putSel_size b _ a0).2) (by rw [ha]; exact putSel_on (e := (31, 59, .bool true)) 31 rfl rfl (hall 31 (by kernel_rfl)) (by rw [hsz]; rfl))
end Go.Proofs.YtipmphgkdomebaaDoor
