/- ScriptCuts: for every step, int and slice of steps the call returns true and leaves them unchanged (Text 9 of 9: what the law's proof rests on, joined; walks printed by the kit's print over given contracts, walks and plain laws by hand.) -/
import Derived.Lib.Hide
import Derived.Test.YtdhpcofnddkcaaaGreatDoorCut0
import Derived.Test.YtdhpcofnddkcaaaGreatDoorCut1
import Derived.Test.YtdhpcofnddkcaaaGreatDoorCut2
import Derived.Test.YtdhpcofnddkcaaaGreatDoorCut3
import Derived.Test.YtdhpcofnddkcaaaGreatDoorCut4
import Derived.Test.YtdhpcofnddkcaaaGreatDoorCut5
import Derived.Test.YtdhpcofnddkcaaaGreatDoorCut6
import Derived.Test.YtdhpcofnddkcaaaGreatDoorCut7
namespace Go.Proofs.YtdhpcofnddkcaaaGreatDoor.S
open Go.RowKit Go.Proofs.YtdhpcofnddkcaaaGreatDoor.G Go.Proofs.YtdhpcofnddkcaaaGreatDoorW.PrintMore Go.Proofs.YtdhpcofnddkcaaaGreatDoorW.PrintWords Go.Proofs.YtdhpcofnddkcaaaGreatDoorW.PrintLast
set_option linter.unusedVariables false
set_option linter.unusedSimpArgs false
def cut_end.T : Bool × List (List Nat × List Nat) := (true, [([], []), ([0], [0]), ([1], [1]), ([2], [2]), ([2], [2]), ([4, 2], [2, 4]), ([2], [2]), ([6, 2], [2, 6]), ([5, 7, 2], [2, 5, 7]), ([3, 8, 2], [2, 3, 8]), ([2, 9], [2, 9]), ([10, 2], [10]), ([11], [11]), ([12, 11], [11, 12]), ([11], [11]), ([14, 11], [11, 14]), ([15, 11], [11, 15]), ([13, 16, 11], [11, 13, 16]), ([11, 17], [11, 17]), ([18, 11], [18]), ([19], [19]), ([20, 19], [19, 20]), ([21, 19], [19, 21]), ([19], [19]), ([22, 23, 19, 19], [19, 22, 23]), ([19, 24], [19, 24]), ([25, 24, 0, 1, 2, 3, 4, 5, 6, 7, 8, 9, 10, 11, 12, 13, 14, 15, 16, 17, 18, 19, 20, 21, 22, 23, 24, 25], [25])])
def cut_end.B : List Nat := [0, 1, 3, 7, 7, 23, 7, 71, 247, 511, 1023, 2047, 4095, 8191, 4095, 20479, 53247, 131071, 262143, 524287, 1048575, 2097151, 4194303, 1048575, 16777215, 33554431, 67108863]
theorem cut_end.tab : rtab .any (opsOf Tryz.f5 16) = cut_end.T := by kernel_rfl
theorem cut_end.bits : waitsOk cut_end.T.2 cut_end.B = true := by kernel_rfl
set_option maxRecDepth 100000 in
set_option maxHeartbeats 4000000 in
theorem cut_end (w : World) (s : S29) (A4 A7 B4 B7 A2 A5 A8 : Option Addr) (c4 c7 d4 d7 c2 c5 c8 cap : Nat) (nl nx ny g : Nat) (hnl : nl ≤ 100000) (hnx : nx ≤ 100000) (hny : ny ≤ 100000) (hq : (((nl : Int) + 1) == (1 + (nl : Int))) = true) (cS : ∀ W, Bx w s A4 c4 A7 c7 W → Fst s g B4 d4 B7 d7 W → Calls Tryz.prog 16 #[.agg #[.int .i64 s.f0, .string s.f1, .string s.f2, .bool s.f3, .slice B4 s.f4.length d4, .string s.f5, .string s.f6, .slice B7 s.f7.length d7], .agg #[.int .i64 s.f0, .string s.f1, .string s.f2, .bool s.f3, .slice A4 s.f4.length c4, .string s.f5, .string s.f6, .slice A7 s.f7.length c7]] W fun e w' => e = .returned (.bool true) ∧ Below W.heap.size W w') (a0 : Act) (s2 : a0.tmps[2]? = some (.slice A2 nl c2)) (s3 : a0.tmps[3]? = some (.pointer (some ⟨w.heap.size, 0, none⟩))) (s7 : a0.tmps[7]? = some (.slice A5 nx c5)) (s11 : a0.tmps[11]? = some (.int .i64 ((nx : Int) + (ny : Int)))) (s12 : a0.tmps[12]? = some (.int .i64 0)) (s13 : a0.tmps[13]? = some (.slice A8 ny c8)) (s15 : a0.tmps[15]? = some (.slice (some ⟨g, 0, none⟩) (nl + 1) cap)) (hsz : a0.tmps.size = Tryz.f5.ntmps) (W : World) (hI : Bx w s A4 c4 A7 c7 W.drew ∧ Fst s g B4 d4 B7 d7 W.drew) (Q : Exit → Act → World → Prop) (hend : ∀ (a9 : Act) w', Bx w s A4 c4 A7 c7 w' ∧ Fst s g B4 d4 B7 d7 w' → a9.defers = a0.defers → a9.tmps[6]? = some (.bool true) → Q .normal a9 w') :
    (Code.region 16 #[{ dst := some 92, op := Op.move (Operand.tmp 12), type := 33, pos := "law.go:233", after := #[], guard := none }, { dst := some 93, op := Op.binOp BinOp.eql 33 (Operand.tmp 92) (Operand.const (Value.int IntKind.i64 0)) 33, type := 4, pos := "law.go:233", after := #[{ on := 0, ground := Ground.data }], guard := none }, { dst := some 94, op := Op.move (Operand.tmp 93), type := 4, pos := "law.go:233", after := #[{ on := 1, ground := Ground.data }], guard := none }, { dst := some 95, op := Op.move (Operand.tmp 11), type := 3, pos := "law.go:233", after := #[{ on := 2, ground := Ground.guard }], guard := some (2, true) }, { dst := some 96, op := Op.move (Operand.tmp 7), type := 32, pos := "law.go:233", after := #[{ on := 2, ground := Ground.guard }], guard := some (2, true) }, { dst := some 97, op := Op.call { callee := Callee.builtin Builtin.len, args := #[Operand.tmp 96], argTypes := #[32] }, type := 3, pos := "law.go:233", after := #[{ on := 4, ground := Ground.data }, { on := 2, ground := Ground.guard }], guard := some (2, true) }, { dst := some 98, op := Op.move (Operand.tmp 13), type := 32, pos := "law.go:233", after := #[{ on := 2, ground := Ground.guard }], guard := some (2, true) }, { dst := some 99, op := Op.call { callee := Callee.builtin Builtin.len, args := #[Operand.tmp 98], argTypes := #[32] }, type := 3, pos := "law.go:233", after := #[{ on := 6, ground := Ground.data }, { on := 2, ground := Ground.guard }], guard := some (2, true) }, { dst := some 100, op := Op.binOp BinOp.add 3 (Operand.tmp 97) (Operand.tmp 99) 3, type := 3, pos := "law.go:233", after := #[{ on := 5, ground := Ground.data }, { on := 7, ground := Ground.data }, { on := 2, ground := Ground.guard }], guard := some (2, true) }, { dst := some 101, op := Op.binOp BinOp.eql 3 (Operand.tmp 95) (Operand.tmp 100) 3, type := 4, pos := "law.go:233", after := #[{ on := 3, ground := Ground.data }, { on := 8, ground := Ground.data }, { on := 2, ground := Ground.guard }], guard := some (2, true) }, { dst := some 102, op := Op.pick (Operand.tmp 94) (Operand.tmp 101) (Operand.const (Value.bool false)), type := 4, pos := "law.go:233", after := #[{ on := 2, ground := Ground.data }, { on := 9, ground := Ground.data }], guard := none }, { dst := some 103, op := Op.move (Operand.tmp 102), type := 4, pos := "law.go:233", after := #[{ on := 10, ground := Ground.data }, { on := 2, ground := Ground.chain }], guard := none }, { dst := some 104, op := Op.move (Operand.tmp 15), type := 22, pos := "law.go:233", after := #[{ on := 11, ground := Ground.guard }], guard := some (11, true) }, { dst := some 105, op := Op.call { callee := Callee.builtin Builtin.len, args := #[Operand.tmp 104], argTypes := #[22] }, type := 3, pos := "law.go:233", after := #[{ on := 12, ground := Ground.data }, { on := 11, ground := Ground.guard }], guard := some (11, true) }, { dst := some 106, op := Op.move (Operand.tmp 2), type := 22, pos := "law.go:233", after := #[{ on := 11, ground := Ground.guard }], guard := some (11, true) }, { dst := some 107, op := Op.call { callee := Callee.builtin Builtin.len, args := #[Operand.tmp 106], argTypes := #[22] }, type := 3, pos := "law.go:233", after := #[{ on := 14, ground := Ground.data }, { on := 11, ground := Ground.guard }], guard := some (11, true) }, { dst := some 108, op := Op.binOp BinOp.add 3 (Operand.const (Value.int IntKind.i64 1)) (Operand.tmp 107) 3, type := 3, pos := "law.go:233", after := #[{ on := 15, ground := Ground.data }, { on := 11, ground := Ground.guard }], guard := some (11, true) }, { dst := some 109, op := Op.binOp BinOp.eql 3 (Operand.tmp 105) (Operand.tmp 108) 3, type := 4, pos := "law.go:233", after := #[{ on := 13, ground := Ground.data }, { on := 16, ground := Ground.data }, { on := 11, ground := Ground.guard }], guard := some (11, true) }, { dst := some 110, op := Op.pick (Operand.tmp 103) (Operand.tmp 109) (Operand.const (Value.bool false)), type := 4, pos := "law.go:233", after := #[{ on := 11, ground := Ground.data }, { on := 17, ground := Ground.data }], guard := none }, { dst := some 111, op := Op.move (Operand.tmp 110), type := 4, pos := "law.go:233", after := #[{ on := 18, ground := Ground.data }, { on := 11, ground := Ground.chain }], guard := none }, { dst := some 112, op := Op.move (Operand.tmp 15), type := 22, pos := "law.go:233", after := #[{ on := 19, ground := Ground.guard }], guard := some (19, true) }, { dst := some 113, op := Op.indexAddr 22 (Operand.tmp 112) (Operand.const (Value.int IntKind.i64 0)), type := 0, pos := "law.go:233", after := #[{ on := 20, ground := Ground.data }, { on := 19, ground := Ground.guard }], guard := some (19, true) }, { dst := some 114, op := Op.load 29 (Operand.tmp 113), type := 29, pos := "law.go:233", after := #[{ on := 21, ground := Ground.data }, { on := 19, ground := Ground.guard }], guard := some (19, true) }, { dst := some 115, op := Op.load 29 (Operand.tmp 3), type := 29, pos := "law.go:233", after := #[{ on := 19, ground := Ground.guard }], guard := some (19, true) }, { dst := some 116, op := Op.call { callee := Callee.value (Operand.func 16), args := #[Operand.tmp 114, Operand.tmp 115], argTypes := #[29, 29] }, type := 4, pos := "law.go:233", after := #[{ on := 22, ground := Ground.data }, { on := 23, ground := Ground.data }, { on := 19, ground := Ground.chain }, { on := 19, ground := Ground.guard }], guard := some (19, true) }, { dst := some 117, op := Op.pick (Operand.tmp 111) (Operand.tmp 116) (Operand.const (Value.bool false)), type := 4, pos := "law.go:233", after := #[{ on := 19, ground := Ground.data }, { on := 24, ground := Ground.data }], guard := none }, { dst := some 6, op := Op.assign (Operand.tmp 117), type := 4, pos := "law.go:233", after := #[{ on := 25, ground := Ground.data }, { on := 24, ground := Ground.chain }, { on := 0, ground := Ground.phase }, { on := 1, ground := Ground.phase }, { on := 2, ground := Ground.phase }, { on := 3, ground := Ground.phase }, { on := 4, ground := Ground.phase }, { on := 5, ground := Ground.phase }, { on := 6, ground := Ground.phase }, { on := 7, ground := Ground.phase }, { on := 8, ground := Ground.phase }, { on := 9, ground := Ground.phase }, { on := 10, ground := Ground.phase }, { on := 11, ground := Ground.phase }, { on := 12, ground := Ground.phase }, { on := 13, ground := Ground.phase }, { on := 14, ground := Ground.phase }, { on := 15, ground := Ground.phase }, { on := 16, ground := Ground.phase }, { on := 17, ground := Ground.phase }, { on := 18, ground := Ground.phase }, { on := 19, ground := Ground.phase }, { on := 20, ground := Ground.phase }, { on := 21, ground := Ground.phase }, { on := 22, ground := Ground.phase }, { on := 23, ground := Ground.phase }, { on := 24, ground := Ground.phase }, { on := 25, ground := Ground.phase }], guard := none }] true).wp Tryz.prog Q a0 W := by
  refine start_ (n := 27) (S := fun w' => True) (ds := []) #[false, false, false, false, false, false, false, false, false, false, false, false, false, false, false, false, false, false, false, false, false, false, false, false, false, false, false] (by kernel_rfl) rfl rfl trivial (fun hHeld => ?_)
  refine with_tabW cut_end.tab cut_end.bits (fun HT_ HW_ => ?_)
  refine inv_at [0, 1, 2, 3, 4, 5, 6, 7, 8, 9, 10, 11, 12, 13, 14, 15, 16, 17, 18, 19, 20, 21, 22, 23, 24, 25, 26] (fun a0_ b a w' => a = putSel a0_ b [(0, 92, .int .i64 0), (1, 93, .bool true), (2, 94, .bool true), (3, 95, .int .i64 ((nx : Int) + (ny : Int))), (4, 96, .slice A5 nx c5), (5, 97, .int .i64 (nx : Int)), (6, 98, .slice A8 ny c8), (7, 99, .int .i64 (ny : Int)), (8, 100, .int .i64 ((nx : Int) + (ny : Int))), (9, 101, .bool true), (10, 102, .bool true), (11, 103, .bool true), (12, 104, .slice (some ⟨g, 0, none⟩) (nl + 1) cap), (13, 105, .int .i64 ((nl : Int) + 1)), (14, 106, .slice A2 nl c2), (15, 107, .int .i64 (nl : Int)), (16, 108, .int .i64 (1 + (nl : Int))), (17, 109, .bool true), (18, 110, .bool true), (19, 111, .bool true), (20, 112, .slice (some ⟨g, 0, none⟩) (nl + 1) cap), (21, 113, .pointer (some ⟨g, 0, none⟩)), (22, 114, .agg #[.int .i64 s.f0, .string s.f1, .string s.f2, .bool s.f3, .slice B4 s.f4.length d4, .string s.f5, .string s.f6, .slice B7 s.f7.length d7]), (23, 115, .agg #[.int .i64 s.f0, .string s.f1, .string s.f2, .bool s.f3, .slice A4 s.f4.length c4, .string s.f5, .string s.f6, .slice A7 s.f7.length c7]), (24, 116, .bool true), (25, 117, .bool true), (26, 6, .bool true)] ∧ (Bx w s A4 c4 A7 c7 w' ∧ Fst s g B4 d4 B7 d7 w')) HT_.out HW_.out (by kernel_rfl) (by kernel_rfl) ?_ ?_ ?_
  · exact ⟨(by simp only [putSel, Bool.false_eq_true, if_false]), hI⟩
  · clear hI hend hHeld
    refine steps_cons ?_ ?_
    · rintro b a w' ⟨ha, hI⟩ hb_ hon hoff
      refine ⟨_, rfl, fun K hK => ?_⟩
      have e12 : a.tmps[12]? = some (.int .i64 0) := by rw [ha]; exact (putSel_off rfl).trans s12
      replace ha := Aside0.mk ha
      obtain ⟨p0, p1, p2, p3, p4, p5, p6, p7⟩ := hI.1.get
      obtain ⟨q0, q1, q2, q3, q4, q5, q6, q7⟩ := hI.2.get
      refine value_ (w1 := w') (v := .int .i64 0) (by rfl) rfl ?_ ?_
      · go_simp; try rfl
        all_goals (try (simp only [IntKind.wrap_i64]; omega))
      exact hK.out _ _ ⟨(by rw [ha.out]; exact putSel_upk 0 hb_ rfl rfl rfl), hI⟩
    refine steps_cons ?_ ?_
    · rintro b a w' ⟨ha, hI⟩ hb_ hon hoff
      refine ⟨_, rfl, fun K hK => ?_⟩
      have e92 : a.tmps[92]? = some (.int .i64 0) := by rw [ha]; exact putSel_on (e := (0, 92, .int .i64 0)) 0 rfl rfl (hon 0 (by kernel_rfl)) (by rw [hsz]; rfl)
      replace ha := Aside0.mk ha
      obtain ⟨p0, p1, p2, p3, p4, p5, p6, p7⟩ := hI.1.get
      obtain ⟨q0, q1, q2, q3, q4, q5, q6, q7⟩ := hI.2.get
      refine value_ (w1 := w') (v := .bool true) (by rfl) rfl ?_ ?_
      · go_simp; try rfl
        all_goals (try (simp only [IntKind.wrap_i64]; omega))
      exact hK.out _ _ ⟨(by rw [ha.out]; exact putSel_upk 1 hb_ rfl rfl rfl), hI⟩
    refine steps_cons ?_ ?_
    · rintro b a w' ⟨ha, hI⟩ hb_ hon hoff
      refine ⟨_, rfl, fun K hK => ?_⟩
      have e93 : a.tmps[93]? = some (.bool true) := by rw [ha]; exact putSel_on (e := (1, 93, .bool true)) 1 rfl rfl (hon 1 (by kernel_rfl)) (by rw [hsz]; rfl)
      replace ha := Aside0.mk ha
      obtain ⟨p0, p1, p2, p3, p4, p5, p6, p7⟩ := hI.1.get
      obtain ⟨q0, q1, q2, q3, q4, q5, q6, q7⟩ := hI.2.get
      refine value_ (w1 := w') (v := .bool true) (by rfl) rfl ?_ ?_
      · go_simp; try rfl
        all_goals (try (simp only [IntKind.wrap_i64]; omega))
      exact hK.out _ _ ⟨(by rw [ha.out]; exact putSel_upk 2 hb_ rfl rfl rfl), hI⟩
    refine steps_cons ?_ ?_
    · rintro b a w' ⟨ha, hI⟩ hb_ hon hoff
      refine ⟨_, rfl, fun K hK => ?_⟩
      have e11 : a.tmps[11]? = some (.int .i64 ((nx : Int) + (ny : Int))) := by rw [ha]; exact (putSel_off rfl).trans s11
      have e94 : a.tmps[94]? = some (.bool true) := by rw [ha]; exact putSel_on (e := (2, 94, .bool true)) 2 rfl rfl (hon 2 (by kernel_rfl)) (by rw [hsz]; rfl)
      replace ha := Aside0.mk ha
      obtain ⟨p0, p1, p2, p3, p4, p5, p6, p7⟩ := hI.1.get
      obtain ⟨q0, q1, q2, q3, q4, q5, q6, q7⟩ := hI.2.get
      refine value_ (w1 := w') (v := .int .i64 ((nx : Int) + (ny : Int))) (wanted_on rfl rfl rfl e94) rfl ?_ ?_
      · go_simp; try rfl
        all_goals (try (simp only [IntKind.wrap_i64]; omega))
      exact hK.out _ _ ⟨(by rw [ha.out]; exact putSel_upk 3 hb_ rfl rfl rfl), hI⟩
    refine steps_cons ?_ ?_
    · rintro b a w' ⟨ha, hI⟩ hb_ hon hoff
      refine ⟨_, rfl, fun K hK => ?_⟩
      have e7 : a.tmps[7]? = some (.slice A5 nx c5) := by rw [ha]; exact (putSel_off rfl).trans s7
      have e94 : a.tmps[94]? = some (.bool true) := by rw [ha]; exact putSel_on (e := (2, 94, .bool true)) 2 rfl rfl (hon 2 (by kernel_rfl)) (by rw [hsz]; rfl)
      replace ha := Aside0.mk ha
      obtain ⟨p0, p1, p2, p3, p4, p5, p6, p7⟩ := hI.1.get
      obtain ⟨q0, q1, q2, q3, q4, q5, q6, q7⟩ := hI.2.get
      refine value_ (w1 := w') (v := .slice A5 nx c5) (wanted_on rfl rfl rfl e94) rfl ?_ ?_
      · go_simp; try rfl
        all_goals (try (simp only [IntKind.wrap_i64]; omega))
      exact hK.out _ _ ⟨(by rw [ha.out]; exact putSel_upk 4 hb_ rfl rfl rfl), hI⟩
    refine steps_cons ?_ ?_
    · rintro b a w' ⟨ha, hI⟩ hb_ hon hoff
      refine ⟨_, rfl, fun K hK => ?_⟩
      have e96 : a.tmps[96]? = some (.slice A5 nx c5) := by rw [ha]; exact putSel_on (e := (4, 96, .slice A5 nx c5)) 4 rfl rfl (hon 4 (by kernel_rfl)) (by rw [hsz]; rfl)
      have e94 : a.tmps[94]? = some (.bool true) := by rw [ha]; exact putSel_on (e := (2, 94, .bool true)) 2 rfl rfl (hon 2 (by kernel_rfl)) (by rw [hsz]; rfl)
      replace ha := Aside0.mk ha
      obtain ⟨p0, p1, p2, p3, p4, p5, p6, p7⟩ := hI.1.get
      obtain ⟨q0, q1, q2, q3, q4, q5, q6, q7⟩ := hI.2.get
      refine value_ (w1 := w') (v := .int .i64 (nx : Int)) (wanted_on rfl rfl rfl e94) rfl ?_ ?_
      · go_simp; try rfl
        all_goals (try (simp only [IntKind.wrap_i64]; omega))
      exact hK.out _ _ ⟨(by rw [ha.out]; exact putSel_upk 5 hb_ rfl rfl rfl), hI⟩
    refine steps_cons ?_ ?_
    · rintro b a w' ⟨ha, hI⟩ hb_ hon hoff
      refine ⟨_, rfl, fun K hK => ?_⟩
      have e13 : a.tmps[13]? = some (.slice A8 ny c8) := by rw [ha]; exact (putSel_off rfl).trans s13
      have e94 : a.tmps[94]? = some (.bool true) := by rw [ha]; exact putSel_on (e := (2, 94, .bool true)) 2 rfl rfl (hon 2 (by kernel_rfl)) (by rw [hsz]; rfl)
      replace ha := Aside0.mk ha
      obtain ⟨p0, p1, p2, p3, p4, p5, p6, p7⟩ := hI.1.get
      obtain ⟨q0, q1, q2, q3, q4, q5, q6, q7⟩ := hI.2.get
      refine value_ (w1 := w') (v := .slice A8 ny c8) (wanted_on rfl rfl rfl e94) rfl ?_ ?_
      · go_simp; try rfl
        all_goals (try (simp only [IntKind.wrap_i64]; omega))
      exact hK.out _ _ ⟨(by rw [ha.out]; exact putSel_upk 6 hb_ rfl rfl rfl), hI⟩
    refine steps_cons ?_ ?_
    · rintro b a w' ⟨ha, hI⟩ hb_ hon hoff
      refine ⟨_, rfl, fun K hK => ?_⟩
      have e98 : a.tmps[98]? = some (.slice A8 ny c8) := by rw [ha]; exact putSel_on (e := (6, 98, .slice A8 ny c8)) 6 rfl rfl (hon 6 (by kernel_rfl)) (by rw [hsz]; rfl)
      have e94 : a.tmps[94]? = some (.bool true) := by rw [ha]; exact putSel_on (e := (2, 94, .bool true)) 2 rfl rfl (hon 2 (by kernel_rfl)) (by rw [hsz]; rfl)
      replace ha := Aside0.mk ha
      obtain ⟨p0, p1, p2, p3, p4, p5, p6, p7⟩ := hI.1.get
      obtain ⟨q0, q1, q2, q3, q4, q5, q6, q7⟩ := hI.2.get
      refine value_ (w1 := w') (v := .int .i64 (ny : Int)) (wanted_on rfl rfl rfl e94) rfl ?_ ?_
      · go_simp; try rfl
        all_goals (try (simp only [IntKind.wrap_i64]; omega))
      exact hK.out _ _ ⟨(by rw [ha.out]; exact putSel_upk 7 hb_ rfl rfl rfl), hI⟩
    refine steps_cons ?_ ?_
    · rintro b a w' ⟨ha, hI⟩ hb_ hon hoff
      refine ⟨_, rfl, fun K hK => ?_⟩
      have e97 : a.tmps[97]? = some (.int .i64 (nx : Int)) := by rw [ha]; exact putSel_on (e := (5, 97, .int .i64 (nx : Int))) 5 rfl rfl (hon 5 (by kernel_rfl)) (by rw [hsz]; rfl)
      have e99 : a.tmps[99]? = some (.int .i64 (ny : Int)) := by rw [ha]; exact putSel_on (e := (7, 99, .int .i64 (ny : Int))) 7 rfl rfl (hon 7 (by kernel_rfl)) (by rw [hsz]; rfl)
      have e94 : a.tmps[94]? = some (.bool true) := by rw [ha]; exact putSel_on (e := (2, 94, .bool true)) 2 rfl rfl (hon 2 (by kernel_rfl)) (by rw [hsz]; rfl)
      replace ha := Aside0.mk ha
      obtain ⟨p0, p1, p2, p3, p4, p5, p6, p7⟩ := hI.1.get
      obtain ⟨q0, q1, q2, q3, q4, q5, q6, q7⟩ := hI.2.get
      refine value_ (w1 := w') (v := .int .i64 ((nx : Int) + (ny : Int))) (wanted_on rfl rfl rfl e94) rfl ?_ ?_
      · go_simp; try rfl
        all_goals (try (simp only [IntKind.wrap_i64]; omega))
      exact hK.out _ _ ⟨(by rw [ha.out]; exact putSel_upk 8 hb_ rfl rfl rfl), hI⟩
    refine steps_cons ?_ ?_
    · rintro b a w' ⟨ha, hI⟩ hb_ hon hoff
      refine ⟨_, rfl, fun K hK => ?_⟩
      have e95 : a.tmps[95]? = some (.int .i64 ((nx : Int) + (ny : Int))) := by rw [ha]; exact putSel_on (e := (3, 95, .int .i64 ((nx : Int) + (ny : Int)))) 3 rfl rfl (hon 3 (by kernel_rfl)) (by rw [hsz]; rfl)
      have e100 : a.tmps[100]? = some (.int .i64 ((nx : Int) + (ny : Int))) := by rw [ha]; exact putSel_on (e := (8, 100, .int .i64 ((nx : Int) + (ny : Int)))) 8 rfl rfl (hon 8 (by kernel_rfl)) (by rw [hsz]; rfl)
      have e94 : a.tmps[94]? = some (.bool true) := by rw [ha]; exact putSel_on (e := (2, 94, .bool true)) 2 rfl rfl (hon 2 (by kernel_rfl)) (by rw [hsz]; rfl)
      replace ha := Aside0.mk ha
      obtain ⟨p0, p1, p2, p3, p4, p5, p6, p7⟩ := hI.1.get
      obtain ⟨q0, q1, q2, q3, q4, q5, q6, q7⟩ := hI.2.get
      refine value_ (w1 := w') (v := .bool true) (wanted_on rfl rfl rfl e94) rfl ?_ ?_
      · go_simp; try rfl
        all_goals (try (simp only [IntKind.wrap_i64]; omega))
      exact hK.out _ _ ⟨(by rw [ha.out]; exact putSel_upk 9 hb_ rfl rfl rfl), hI⟩
    refine steps_cons ?_ ?_
    · rintro b a w' ⟨ha, hI⟩ hb_ hon hoff
      refine ⟨_, rfl, fun K hK => ?_⟩
      have e94 : a.tmps[94]? = some (.bool true) := by rw [ha]; exact putSel_on (e := (2, 94, .bool true)) 2 rfl rfl (hon 2 (by kernel_rfl)) (by rw [hsz]; rfl)
      have e101 : a.tmps[101]? = some (.bool true) := by rw [ha]; exact putSel_on (e := (9, 101, .bool true)) 9 rfl rfl (hon 9 (by kernel_rfl)) (by rw [hsz]; rfl)
      replace ha := Aside0.mk ha
      obtain ⟨p0, p1, p2, p3, p4, p5, p6, p7⟩ := hI.1.get
      obtain ⟨q0, q1, q2, q3, q4, q5, q6, q7⟩ := hI.2.get
      refine value_ (w1 := w') (v := .bool true) (by rfl) rfl ?_ ?_
      · go_simp; try rfl
        all_goals (try (simp only [IntKind.wrap_i64]; omega))
      exact hK.out _ _ ⟨(by rw [ha.out]; exact putSel_upk 10 hb_ rfl rfl rfl), hI⟩
    refine steps_cons ?_ ?_
    · rintro b a w' ⟨ha, hI⟩ hb_ hon hoff
      refine ⟨_, rfl, fun K hK => ?_⟩
      have e102 : a.tmps[102]? = some (.bool true) := by rw [ha]; exact putSel_on (e := (10, 102, .bool true)) 10 rfl rfl (hon 10 (by kernel_rfl)) (by rw [hsz]; rfl)
      replace ha := Aside0.mk ha
      obtain ⟨p0, p1, p2, p3, p4, p5, p6, p7⟩ := hI.1.get
      obtain ⟨q0, q1, q2, q3, q4, q5, q6, q7⟩ := hI.2.get
      refine value_ (w1 := w') (v := .bool true) (by rfl) rfl ?_ ?_
      · go_simp; try rfl
        all_goals (try (simp only [IntKind.wrap_i64]; omega))
      exact hK.out _ _ ⟨(by rw [ha.out]; exact putSel_upk 11 hb_ rfl rfl rfl), hI⟩
    refine steps_cons ?_ ?_
    · rintro b a w' ⟨ha, hI⟩ hb_ hon hoff
      refine ⟨_, rfl, fun K hK => ?_⟩
      have e15 : a.tmps[15]? = some (.slice (some ⟨g, 0, none⟩) (nl + 1) cap) := by rw [ha]; exact (putSel_off rfl).trans s15
      have e103 : a.tmps[103]? = some (.bool true) := by rw [ha]; exact putSel_on (e := (11, 103, .bool true)) 11 rfl rfl (hon 11 (by kernel_rfl)) (by rw [hsz]; rfl)
      replace ha := Aside0.mk ha
      obtain ⟨p0, p1, p2, p3, p4, p5, p6, p7⟩ := hI.1.get
      obtain ⟨q0, q1, q2, q3, q4, q5, q6, q7⟩ := hI.2.get
      refine value_ (w1 := w') (v := .slice (some ⟨g, 0, none⟩) (nl + 1) cap) (wanted_on rfl rfl rfl e103) rfl ?_ ?_
      · go_simp; try rfl
        all_goals (try (simp only [IntKind.wrap_i64]; omega))
      exact hK.out _ _ ⟨(by rw [ha.out]; exact putSel_upk 12 hb_ rfl rfl rfl), hI⟩
    refine steps_cons ?_ ?_
    · rintro b a w' ⟨ha, hI⟩ hb_ hon hoff
      refine ⟨_, rfl, fun K hK => ?_⟩
      have e104 : a.tmps[104]? = some (.slice (some ⟨g, 0, none⟩) (nl + 1) cap) := by rw [ha]; exact putSel_on (e := (12, 104, .slice (some ⟨g, 0, none⟩) (nl + 1) cap)) 12 rfl rfl (hon 12 (by kernel_rfl)) (by rw [hsz]; rfl)
      have e103 : a.tmps[103]? = some (.bool true) := by rw [ha]; exact putSel_on (e := (11, 103, .bool true)) 11 rfl rfl (hon 11 (by kernel_rfl)) (by rw [hsz]; rfl)
      replace ha := Aside0.mk ha
      obtain ⟨p0, p1, p2, p3, p4, p5, p6, p7⟩ := hI.1.get
      obtain ⟨q0, q1, q2, q3, q4, q5, q6, q7⟩ := hI.2.get
      refine value_ (w1 := w') (v := .int .i64 ((nl : Int) + 1)) (wanted_on rfl rfl rfl e103) rfl ?_ ?_
      · go_simp; try rfl
        all_goals (try (simp only [IntKind.wrap_i64]; omega))
      exact hK.out _ _ ⟨(by rw [ha.out]; exact putSel_upk 13 hb_ rfl rfl rfl), hI⟩
    refine steps_cons ?_ ?_
    · rintro b a w' ⟨ha, hI⟩ hb_ hon hoff
      refine ⟨_, rfl, fun K hK => ?_⟩
      have e2 : a.tmps[2]? = some (.slice A2 nl c2) := by rw [ha]; exact (putSel_off rfl).trans s2
      have e103 : a.tmps[103]? = some (.bool true) := by rw [ha]; exact putSel_on (e := (11, 103, .bool true)) 11 rfl rfl (hon 11 (by kernel_rfl)) (by rw [hsz]; rfl)
      replace ha := Aside0.mk ha
      obtain ⟨p0, p1, p2, p3, p4, p5, p6, p7⟩ := hI.1.get
      obtain ⟨q0, q1, q2, q3, q4, q5, q6, q7⟩ := hI.2.get
      refine value_ (w1 := w') (v := .slice A2 nl c2) (wanted_on rfl rfl rfl e103) rfl ?_ ?_
      · go_simp; try rfl
        all_goals (try (simp only [IntKind.wrap_i64]; omega))
      exact hK.out _ _ ⟨(by rw [ha.out]; exact putSel_upk 14 hb_ rfl rfl rfl), hI⟩
    refine steps_cons ?_ ?_
    · rintro b a w' ⟨ha, hI⟩ hb_ hon hoff
      refine ⟨_, rfl, fun K hK => ?_⟩
      have e106 : a.tmps[106]? = some (.slice A2 nl c2) := by rw [ha]; exact putSel_on (e := (14, 106, .slice A2 nl c2)) 14 rfl rfl (hon 14 (by kernel_rfl)) (by rw [hsz]; rfl)
      have e103 : a.tmps[103]? = some (.bool true) := by rw [ha]; exact putSel_on (e := (11, 103, .bool true)) 11 rfl rfl (hon 11 (by kernel_rfl)) (by rw [hsz]; rfl)
      replace ha := Aside0.mk ha
      obtain ⟨p0, p1, p2, p3, p4, p5, p6, p7⟩ := hI.1.get
      obtain ⟨q0, q1, q2, q3, q4, q5, q6, q7⟩ := hI.2.get
      refine value_ (w1 := w') (v := .int .i64 (nl : Int)) (wanted_on rfl rfl rfl e103) rfl ?_ ?_
      · go_simp; try rfl
        all_goals (try (simp only [IntKind.wrap_i64]; omega))
      exact hK.out _ _ ⟨(by rw [ha.out]; exact putSel_upk 15 hb_ rfl rfl rfl), hI⟩
    refine steps_cons ?_ ?_
    · rintro b a w' ⟨ha, hI⟩ hb_ hon hoff
      refine ⟨_, rfl, fun K hK => ?_⟩
      have e107 : a.tmps[107]? = some (.int .i64 (nl : Int)) := by rw [ha]; exact putSel_on (e := (15, 107, .int .i64 (nl : Int))) 15 rfl rfl (hon 15 (by kernel_rfl)) (by rw [hsz]; rfl)
      have e103 : a.tmps[103]? = some (.bool true) := by rw [ha]; exact putSel_on (e := (11, 103, .bool true)) 11 rfl rfl (hon 11 (by kernel_rfl)) (by rw [hsz]; rfl)
      replace ha := Aside0.mk ha
      obtain ⟨p0, p1, p2, p3, p4, p5, p6, p7⟩ := hI.1.get
      obtain ⟨q0, q1, q2, q3, q4, q5, q6, q7⟩ := hI.2.get
      refine value_ (w1 := w') (v := .int .i64 (1 + (nl : Int))) (wanted_on rfl rfl rfl e103) rfl ?_ ?_
      · go_simp; try rfl
        all_goals (try (simp only [IntKind.wrap_i64]; omega))
      exact hK.out _ _ ⟨(by rw [ha.out]; exact putSel_upk 16 hb_ rfl rfl rfl), hI⟩
    refine steps_cons ?_ ?_
    · rintro b a w' ⟨ha, hI⟩ hb_ hon hoff
      refine ⟨_, rfl, fun K hK => ?_⟩
      have e105 : a.tmps[105]? = some (.int .i64 ((nl : Int) + 1)) := by rw [ha]; exact putSel_on (e := (13, 105, .int .i64 ((nl : Int) + 1))) 13 rfl rfl (hon 13 (by kernel_rfl)) (by rw [hsz]; rfl)
      have e108 : a.tmps[108]? = some (.int .i64 (1 + (nl : Int))) := by rw [ha]; exact putSel_on (e := (16, 108, .int .i64 (1 + (nl : Int)))) 16 rfl rfl (hon 16 (by kernel_rfl)) (by rw [hsz]; rfl)
      have e103 : a.tmps[103]? = some (.bool true) := by rw [ha]; exact putSel_on (e := (11, 103, .bool true)) 11 rfl rfl (hon 11 (by kernel_rfl)) (by rw [hsz]; rfl)
      replace ha := Aside0.mk ha
      obtain ⟨p0, p1, p2, p3, p4, p5, p6, p7⟩ := hI.1.get
      obtain ⟨q0, q1, q2, q3, q4, q5, q6, q7⟩ := hI.2.get
      refine value_ (w1 := w') (v := .bool true) (wanted_on rfl rfl rfl e103) rfl ?_ ?_
      · go_simp; try rfl
        all_goals (try (simp only [IntKind.wrap_i64]; omega))
      exact hK.out _ _ ⟨(by rw [ha.out]; exact putSel_upk 17 hb_ rfl rfl rfl), hI⟩
    refine steps_cons ?_ ?_
    · rintro b a w' ⟨ha, hI⟩ hb_ hon hoff
      refine ⟨_, rfl, fun K hK => ?_⟩
      have e103 : a.tmps[103]? = some (.bool true) := by rw [ha]; exact putSel_on (e := (11, 103, .bool true)) 11 rfl rfl (hon 11 (by kernel_rfl)) (by rw [hsz]; rfl)
      have e109 : a.tmps[109]? = some (.bool true) := by rw [ha]; exact putSel_on (e := (17, 109, .bool true)) 17 rfl rfl (hon 17 (by kernel_rfl)) (by rw [hsz]; rfl)
      replace ha := Aside0.mk ha
      obtain ⟨p0, p1, p2, p3, p4, p5, p6, p7⟩ := hI.1.get
      obtain ⟨q0, q1, q2, q3, q4, q5, q6, q7⟩ := hI.2.get
      refine value_ (w1 := w') (v := .bool true) (by rfl) rfl ?_ ?_
      · go_simp; try rfl
        all_goals (try (simp only [IntKind.wrap_i64]; omega))
      exact hK.out _ _ ⟨(by rw [ha.out]; exact putSel_upk 18 hb_ rfl rfl rfl), hI⟩
    refine steps_cons ?_ ?_
    · rintro b a w' ⟨ha, hI⟩ hb_ hon hoff
      refine ⟨_, rfl, fun K hK => ?_⟩
      have e110 : a.tmps[110]? = some (.bool true) := by rw [ha]; exact putSel_on (e := (18, 110, .bool true)) 18 rfl rfl (hon 18 (by kernel_rfl)) (by rw [hsz]; rfl)
      replace ha := Aside0.mk ha
      obtain ⟨p0, p1, p2, p3, p4, p5, p6, p7⟩ := hI.1.get
      obtain ⟨q0, q1, q2, q3, q4, q5, q6, q7⟩ := hI.2.get
      refine value_ (w1 := w') (v := .bool true) (by rfl) rfl ?_ ?_
      · go_simp; try rfl
        all_goals (try (simp only [IntKind.wrap_i64]; omega))
      exact hK.out _ _ ⟨(by rw [ha.out]; exact putSel_upk 19 hb_ rfl rfl rfl), hI⟩
    refine steps_cons ?_ ?_
    · rintro b a w' ⟨ha, hI⟩ hb_ hon hoff
      refine ⟨_, rfl, fun K hK => ?_⟩
      have e15 : a.tmps[15]? = some (.slice (some ⟨g, 0, none⟩) (nl + 1) cap) := by rw [ha]; exact (putSel_off rfl).trans s15
      have e111 : a.tmps[111]? = some (.bool true) := by rw [ha]; exact putSel_on (e := (19, 111, .bool true)) 19 rfl rfl (hon 19 (by kernel_rfl)) (by rw [hsz]; rfl)
      replace ha := Aside0.mk ha
      obtain ⟨p0, p1, p2, p3, p4, p5, p6, p7⟩ := hI.1.get
      obtain ⟨q0, q1, q2, q3, q4, q5, q6, q7⟩ := hI.2.get
      refine value_ (w1 := w') (v := .slice (some ⟨g, 0, none⟩) (nl + 1) cap) (wanted_on rfl rfl rfl e111) rfl ?_ ?_
      · go_simp; try rfl
        all_goals (try (simp only [IntKind.wrap_i64]; omega))
      exact hK.out _ _ ⟨(by rw [ha.out]; exact putSel_upk 20 hb_ rfl rfl rfl), hI⟩
    refine steps_cons ?_ ?_
    · rintro b a w' ⟨ha, hI⟩ hb_ hon hoff
      refine ⟨_, rfl, fun K hK => ?_⟩
      have e112 : a.tmps[112]? = some (.slice (some ⟨g, 0, none⟩) (nl + 1) cap) := by rw [ha]; exact putSel_on (e := (20, 112, .slice (some ⟨g, 0, none⟩) (nl + 1) cap)) 20 rfl rfl (hon 20 (by kernel_rfl)) (by rw [hsz]; rfl)
      have e111 : a.tmps[111]? = some (.bool true) := by rw [ha]; exact putSel_on (e := (19, 111, .bool true)) 19 rfl rfl (hon 19 (by kernel_rfl)) (by rw [hsz]; rfl)
      replace ha := Aside0.mk ha
      obtain ⟨p0, p1, p2, p3, p4, p5, p6, p7⟩ := hI.1.get
      obtain ⟨q0, q1, q2, q3, q4, q5, q6, q7⟩ := hI.2.get
      refine value_ (w1 := w') (v := .pointer (some ⟨g, 0, none⟩)) (wanted_on rfl rfl rfl e111) rfl ?_ ?_
      · go_simp; try rfl
        all_goals (try (simp only [IntKind.wrap_i64]; omega))
      exact hK.out _ _ ⟨(by rw [ha.out]; exact putSel_upk 21 hb_ rfl rfl rfl), hI⟩
    refine steps_cons ?_ ?_
    · rintro b a w' ⟨ha, hI⟩ hb_ hon hoff
      refine ⟨_, rfl, fun K hK => ?_⟩
      have e113 : a.tmps[113]? = some (.pointer (some ⟨g, 0, none⟩)) := by rw [ha]; exact putSel_on (e := (21, 113, .pointer (some ⟨g, 0, none⟩))) 21 rfl rfl (hon 21 (by kernel_rfl)) (by rw [hsz]; rfl)
      have e111 : a.tmps[111]? = some (.bool true) := by rw [ha]; exact putSel_on (e := (19, 111, .bool true)) 19 rfl rfl (hon 19 (by kernel_rfl)) (by rw [hsz]; rfl)
      replace ha := Aside0.mk ha
      obtain ⟨p0, p1, p2, p3, p4, p5, p6, p7⟩ := hI.1.get
      obtain ⟨q0, q1, q2, q3, q4, q5, q6, q7⟩ := hI.2.get
      refine value_ (w1 := w') (v := .agg #[.int .i64 s.f0, .string s.f1, .string s.f2, .bool s.f3, .slice B4 s.f4.length d4, .string s.f5, .string s.f6, .slice B7 s.f7.length d7]) (wanted_on rfl rfl rfl e111) rfl ?_ ?_
      · go_simp; try rfl
        all_goals (try (simp only [IntKind.wrap_i64]; omega))
      exact hK.out _ _ ⟨(by rw [ha.out]; exact putSel_upk 22 hb_ rfl rfl rfl), hI⟩
    refine steps_cons ?_ ?_
    · rintro b a w' ⟨ha, hI⟩ hb_ hon hoff
      refine ⟨_, rfl, fun K hK => ?_⟩
      have e3 : a.tmps[3]? = some (.pointer (some ⟨w.heap.size, 0, none⟩)) := by rw [ha]; exact (putSel_off rfl).trans s3
      have e111 : a.tmps[111]? = some (.bool true) := by rw [ha]; exact putSel_on (e := (19, 111, .bool true)) 19 rfl rfl (hon 19 (by kernel_rfl)) (by rw [hsz]; rfl)
      replace ha := Aside0.mk ha
      obtain ⟨p0, p1, p2, p3, p4, p5, p6, p7⟩ := hI.1.get
      obtain ⟨q0, q1, q2, q3, q4, q5, q6, q7⟩ := hI.2.get
      refine value_ (w1 := w') (v := .agg #[.int .i64 s.f0, .string s.f1, .string s.f2, .bool s.f3, .slice A4 s.f4.length c4, .string s.f5, .string s.f6, .slice A7 s.f7.length c7]) (wanted_on rfl rfl rfl e111) rfl ?_ ?_
      · go_simp; try rfl
        all_goals (try (simp only [IntKind.wrap_i64]; omega))
      exact hK.out _ _ ⟨(by rw [ha.out]; exact putSel_upk 23 hb_ rfl rfl rfl), hI⟩
    refine steps_cons ?_ ?_
    · rintro b a w' ⟨ha, hI⟩ hb_ hon hoff
      refine ⟨_, rfl, fun K hK => ?_⟩
      have e114 : a.tmps[114]? = some (.agg #[.int .i64 s.f0, .string s.f1, .string s.f2, .bool s.f3, .slice B4 s.f4.length d4, .string s.f5, .string s.f6, .slice B7 s.f7.length d7]) := by rw [ha]; exact putSel_on (e := (22, 114, .agg #[.int .i64 s.f0, .string s.f1, .string s.f2, .bool s.f3, .slice B4 s.f4.length d4, .string s.f5, .string s.f6, .slice B7 s.f7.length d7])) 22 rfl rfl (hon 22 (by kernel_rfl)) (by rw [hsz]; rfl)
      have e115 : a.tmps[115]? = some (.agg #[.int .i64 s.f0, .string s.f1, .string s.f2, .bool s.f3, .slice A4 s.f4.length c4, .string s.f5, .string s.f6, .slice A7 s.f7.length c7]) := by rw [ha]; exact putSel_on (e := (23, 115, .agg #[.int .i64 s.f0, .string s.f1, .string s.f2, .bool s.f3, .slice A4 s.f4.length c4, .string s.f5, .string s.f6, .slice A7 s.f7.length c7])) 23 rfl rfl (hon 23 (by kernel_rfl)) (by rw [hsz]; rfl)
      have e111 : a.tmps[111]? = some (.bool true) := by rw [ha]; exact putSel_on (e := (19, 111, .bool true)) 19 rfl rfl (hon 19 (by kernel_rfl)) (by rw [hsz]; rfl)
      replace ha := Aside0.mk ha
      obtain ⟨p0, p1, p2, p3, p4, p5, p6, p7⟩ := hI.1.get
      obtain ⟨q0, q1, q2, q3, q4, q5, q6, q7⟩ := hI.2.get
      refine goes_ Tryz.func16 (by kernel_rfl) rfl #[.agg #[.int .i64 s.f0, .string s.f1, .string s.f2, .bool s.f3, .slice B4 s.f4.length d4, .string s.f5, .string s.f6, .slice B7 s.f7.length d7], .agg #[.int .i64 s.f0, .string s.f1, .string s.f2, .bool s.f3, .slice A4 s.f4.length c4, .string s.f5, .string s.f6, .slice A7 s.f7.length c7]] (wanted_on rfl rfl rfl e111) rfl rfl (by first | (simp only [List.map_toArray, List.map_cons, List.map_nil, Act.eval, Array.getD_eq_getD_getElem?, Option.getD_some, e114, e115]; done) | (simp only [List.map_toArray, List.map_cons, List.map_nil, Act.eval, Array.getD_eq_getD_getElem?, Option.getD_some, e114, e115]; rfl)) ?_
      refine (cS _ hI.1 hI.2).mono ?_
      rintro e w1 ⟨rfl, b1⟩; have hI1 : Bx w s A4 c4 A7 c7 w1 ∧ Fst s g B4 d4 B7 d7 w1 := ⟨hI.1.step b1, hI.2.step b1⟩
      exact ⟨_, rfl, hK.out _ _ ⟨(by rw [ha.out]; exact putSel_upk 24 hb_ rfl rfl rfl), hI1⟩⟩
    refine steps_cons ?_ ?_
    · rintro b a w' ⟨ha, hI⟩ hb_ hon hoff
      refine ⟨_, rfl, fun K hK => ?_⟩
      have e111 : a.tmps[111]? = some (.bool true) := by rw [ha]; exact putSel_on (e := (19, 111, .bool true)) 19 rfl rfl (hon 19 (by kernel_rfl)) (by rw [hsz]; rfl)
      have e116 : a.tmps[116]? = some (.bool true) := by rw [ha]; exact putSel_on (e := (24, 116, .bool true)) 24 rfl rfl (hon 24 (by kernel_rfl)) (by rw [hsz]; rfl)
      replace ha := Aside0.mk ha
      obtain ⟨p0, p1, p2, p3, p4, p5, p6, p7⟩ := hI.1.get
      obtain ⟨q0, q1, q2, q3, q4, q5, q6, q7⟩ := hI.2.get
      refine value_ (w1 := w') (v := .bool true) (by rfl) rfl ?_ ?_
      · go_simp; try rfl
        all_goals (try (simp only [IntKind.wrap_i64]; omega))
      exact hK.out _ _ ⟨(by rw [ha.out]; exact putSel_upk 25 hb_ rfl rfl rfl), hI⟩
    refine steps_cons ?_ ?_
    · rintro b a w' ⟨ha, hI⟩ hb_ hon hoff
      refine ⟨_, rfl, fun K hK => ?_⟩
      have e117 : a.tmps[117]? = some (.bool true) := by rw [ha]; exact putSel_on (e := (25, 117, .bool true)) 25 rfl rfl (hon 25 (by kernel_rfl)) (by rw [hsz]; rfl)
      replace ha := Aside0.mk ha
      obtain ⟨p0, p1, p2, p3, p4, p5, p6, p7⟩ := hI.1.get
      obtain ⟨q0, q1, q2, q3, q4, q5, q6, q7⟩ := hI.2.get
      refine value_ (w1 := w') (v := .bool true) (by rfl) rfl ?_ ?_
      · go_simp; try rfl
        all_goals (try (simp only [IntKind.wrap_i64]; omega))
      exact hK.out _ _ ⟨(by rw [ha.out]; exact putSel_upk 26 hb_ rfl rfl rfl), hI⟩
    exact steps_nil
  rintro b a w1 hall ⟨ha, hI1⟩
  exact hend a w1 hI1 (by rw [ha]; exact (putSel_size b _ a0).2) (by rw [ha]; exact putSel_on (e := (26, 6, .bool true)) 26 rfl rfl (hall 26 (by kernel_rfl)) (by rw [hsz]; rfl))
end Go.Proofs.YtdhpcofnddkcaaaGreatDoor.S
namespace Go.Proofs.YtdhpcofnddkcaaaGreatDoor.S
open Go.RowKit Go.Proofs.YtdhpcofnddkcaaaGreatDoor.G Go.Proofs.YtdhpcofnddkcaaaGreatDoorW.PrintWords Go.Proofs.YtdhpcofnddkcaaaGreatDoorW.PrintLast Go.Proofs.YtdhpcofnddkcaaaGreatDoorW.PrintMore
set_option linter.unusedVariables false
set_option linter.unusedSimpArgs false
set_option maxHeartbeats 4000000 in
set_option maxRecDepth 100000 in
theorem cuts_yes (s : S29) (A4 A7 A2 : Option Addr) (c4 c7 c2 : Nat) (cut : Int) (l : List S29) (w : World)
    (C4 : Kd.C Kd.string w A4 s.f4.length s.f4) (h4 : s.f4.length ≤ c4) (C7 : Kd.C k44 w A7 s.f7.length s.f7) (h7 : s.f7.length ≤ c7) (hC2 : Kd.C k29 w A2 l.length l) (hc2 : l.length ≤ c2)
    (fs : polyglotlaw18_Few.f (fuel [s]) [s] = some true) (fl : polyglotlaw18_Few.f (fuel l) l = some true) (kR : Nat) (fr : polyglotlaw18_Right.f kR s.f0 s.f1 s.f2 s.f3 s.f4 s.f5 s.f6 s.f7 = some true)
    (x : List Int) (ex : script_Encode.f [s] = some (x, 0)) (hx0 : 0 < x.length) (hx1 : x.length ≤ 100000) (kk : Nat) (u : Int) (hcu : IntKind.u64.wrap cut = u) (hu0 : 0 ≤ u) (hk : u % (x.length : Int) = (kk : Int)) (hkx : kk < x.length)
    (g : List S29) (g1 g2 : Int) (eg : script_Decode.f (x.take kk) = some (g, g1, g2)) (hg : 0 < kk → g = [] ∧ g1 = 0 ∧ g2 = 2)
    (y : List Int) (y1 : Int) (ey : script_Encode.f l = some (y, y1)) (hend : y1 = 1 ∨ (y1 = 0 ∧ y.length ≤ 100000 ∧ l.length ≤ 20 ∧ script_Decode.f (x ++ y) = some (s :: l, ((x.length + y.length : Nat) : Int), 0)))
    (kS : Nat) (fS : polyglotlaw18_Same.f kS s.f0 s.f1 s.f2 s.f3 s.f4 s.f5 s.f6 s.f7 s.f0 s.f1 s.f2 s.f3 s.f4 s.f5 s.f6 s.f7 = some true)
    (hT : Tab_ w) (hP : TabP_ w) (hE : TabE_ w) :
    Calls Tryz.prog 5 #[.agg #[.int .i64 s.f0, .string s.f1, .string s.f2, .bool s.f3, .slice A4 s.f4.length c4, .string s.f5, .string s.f6, .slice A7 s.f7.length c7], .int .i64 cut, .slice A2 l.length c2] w fun e w' => e = .returned (.bool true) ∧ Below w.heap.size w w' := by
  have hH : ∀ W, Bx w s A4 c4 A7 c7 W → Calls Tryz.prog 9 #[] W fun e w' => e = .returned (.bool true) ∧ Bx w s A4 c4 A7 c7 w' := fun W h =>
    (polyglotlaw18_head.calls true W head_f (Tab_.step hT h.bel) (TabP_.step hP h.bel) (TabE_.step hE h.bel)).mono fun e w' ⟨he, hb⟩ => ⟨he, h.step hb⟩
  have hone : ∀ W, Bx w s A4 c4 A7 c7 W → Kd.C k29 (oneW s A4 c4 A7 c7 W) (some ⟨W.heap.size, 0, none⟩) [s].length [s] := fun W h => one_C h4 (Kd.C_below C4 h.bel) h7 (Kd.C_below C7 h.bel)
  have hFs : ∀ W, Bx w s A4 c4 A7 c7 W → Calls Tryz.prog 10 #[.slice (some ⟨W.heap.size, 0, none⟩) 1 1] (W.alloc (.cells #[.int .i64 s.f0, .string s.f1, .string s.f2, .bool s.f3, .slice A4 s.f4.length c4, .string s.f5, .string s.f6, .slice A7 s.f7.length c7] 29)) fun e w' => e = .returned (.bool true) ∧ Bx w s A4 c4 A7 c7 w' := fun W h =>
    (polyglotlaw18_Few.calls (fuel [s]) (some ⟨W.heap.size, 0, none⟩) 1 [s] true (oneW s A4 c4 A7 c7 W) (hone W h) (Nat.le_refl _) fs).mono fun e w' ⟨he, hb⟩ => ⟨he, (h.step oneW_below).step hb⟩
  have hFl : ∀ W, Bx w s A4 c4 A7 c7 W → Calls Tryz.prog 10 #[.slice A2 l.length c2] W fun e w' => e = .returned (.bool true) ∧ Bx w s A4 c4 A7 c7 w' := fun W h =>
    (polyglotlaw18_Few.calls (fuel l) A2 c2 l true W (Kd.C_below hC2 h.bel) hc2 fl).mono fun e w' ⟨he, hb⟩ => ⟨he, h.step hb⟩
  have hRt : ∀ W, Bx w s A4 c4 A7 c7 W → Calls Tryz.prog 12 #[.agg #[.int .i64 s.f0, .string s.f1, .string s.f2, .bool s.f3, .slice A4 s.f4.length c4, .string s.f5, .string s.f6, .slice A7 s.f7.length c7]] W fun e w' => e = .returned (.bool true) ∧ Bx w s A4 c4 A7 c7 w' := fun W h =>
    (polyglotlaw18_Right.calls kR s.f0 s.f1 s.f2 s.f3 A4 c4 s.f4 s.f5 s.f6 A7 c7 s.f7 true W (Kd.C_below C4 h.bel) h4 (Kd.C_below C7 h.bel) h7 fr).mono fun e w' ⟨he, hb⟩ => ⟨he, h.step hb⟩
  have hEs : ∀ W, Bx w s A4 c4 A7 c7 W → Calls Tryz.prog 14 #[.slice (some ⟨W.heap.size, 0, none⟩) 1 1] (W.alloc (.cells #[.int .i64 s.f0, .string s.f1, .string s.f2, .bool s.f3, .slice A4 s.f4.length c4, .string s.f5, .string s.f6, .slice A7 s.f7.length c7] 29)) fun e w' => ∃ A' c', e = .returned (.tuple #[.slice A' x.length c', .int .i64 0]) ∧ x.length ≤ c' ∧ Kd.C (Kd.int .u8) w' A' x.length x ∧ Bx w s A4 c4 A7 c7 w' := fun W h =>
    (script_Encode.calls (some ⟨W.heap.size, 0, none⟩) 1 [s] x 0 (oneW s A4 c4 A7 c7 W) (hone W h) (Nat.le_refl _) ex (Tab_.step hT (h.step oneW_below).bel) (TabP_.step hP (h.step oneW_below).bel) (TabE_.step hE (h.step oneW_below).bel)).mono fun e w' ⟨v, he, hv, hb⟩ => by
      obtain ⟨A', c', rfl⟩ := Kd.V_slice hv
      exact ⟨A', c', he, (Kd.V_reads' hv).2.1, (Kd.V_reads' hv).2.2, (h.step oneW_below).step hb⟩
  have hEn : ∀ (A : Option Addr) (c : Nat) (a : List S29) (r0 : List Int) (r1 : Int) (W : World), Bx w s A4 c4 A7 c7 W → Kd.C k29 W A a.length a → a.length ≤ c → script_Encode.f a = some (r0, r1) →
      Calls Tryz.prog 14 #[.slice A a.length c] W fun e w' => ∃ A' c', e = .returned (.tuple #[.slice A' r0.length c', .int .i64 r1]) ∧ Kd.C (Kd.int .u8) w' A' r0.length r0 ∧ Below W.heap.size W w' := fun A c a r0 r1 W hB hC hc h =>
    (script_Encode.calls A c a r0 r1 W hC hc h (Tab_.step hT hB.bel) (TabP_.step hP hB.bel) (TabE_.step hE hB.bel)).mono fun e w' ⟨v, he, hv, hb⟩ => by
      obtain ⟨A', c', rfl⟩ := Kd.V_slice hv
      exact ⟨A', c', he, (Kd.V_reads' hv).2.2, hb⟩
  have hDe : ∀ (A : Option Addr) (c : Nat) (b : List Int) (r0 : List S29) (r1 r2 : Int) (W : World), Bx w s A4 c4 A7 c7 W → Kd.C (Kd.int .u8) W A b.length b → b.length ≤ c → script_Decode.f b = some (r0, r1, r2) →
      Calls Tryz.prog 15 #[.slice A b.length c] W fun e w' => ∃ v, e = .returned (.tuple #[v, .int .i64 r1, .int .i64 r2]) ∧ Kd.S k29 29 w' W.heap.size (fun _ => True) v r0 ∧ Below W.heap.size W w' := fun A c b r0 r1 r2 W hB hC hc h =>
    script_Decode.calls A c b r0 r1 r2 W hC hc h (Tab_.step hT hB.bel) (TabP_.step hP hB.bel) (TabE_.step hE hB.bel)
  have hSm : ∀ (g : Nat) (B4 : Option Addr) (d4 : Nat) (B7 : Option Addr) (d7 : Nat) (W : World), Bx w s A4 c4 A7 c7 W → Fst s g B4 d4 B7 d7 W → Calls Tryz.prog 16 #[.agg #[.int .i64 s.f0, .string s.f1, .string s.f2, .bool s.f3, .slice B4 s.f4.length d4, .string s.f5, .string s.f6, .slice B7 s.f7.length d7], .agg #[.int .i64 s.f0, .string s.f1, .string s.f2, .bool s.f3, .slice A4 s.f4.length c4, .string s.f5, .string s.f6, .slice A7 s.f7.length c7]] W fun e w' => e = .returned (.bool true) ∧ Below W.heap.size W w' := fun g B4 d4 B7 d7 W h h2 =>
    polyglotlaw18_Same.calls kS s.f0 s.f1 s.f2 s.f3 B4 d4 s.f4 s.f5 s.f6 B7 d7 s.f7 s.f0 s.f1 s.f2 s.f3 A4 c4 s.f4 s.f5 s.f6 A7 c7 s.f7 true W h2.C4 h2.l4 h2.C7 h2.l7 (Kd.C_below C4 h.bel) h4 (Kd.C_below C7 h.bel) h7 fS
  have hS := Bx.start (w := w) (s := s) (A4 := A4) (c4 := c4) (A7 := A7) (c7 := c7)
  have HEN := Lib.hid hEn
  have HDE := Lib.hid hDe
  have HG := Lib.hid hg
  have HEG := Lib.hid eg
  have HC2 := Lib.hid hC2
  have HX1 := Lib.hid hx1
  have HKX := Lib.hid hkx
  have HKK := Lib.hid hk
  obtain ⟨p0, p1, p2, p3, p4, p5, p6, p7⟩ := hS.get
  have HSM := Lib.hid hSm
  have HEY := Lib.hid ey
  have HEND := Lib.hid hend
  clear hEn hDe hg eg hC2 C4 C7 fs fl fr hone hx1 hkx hk hSm ey hend fS
  go_enter Tryz.func5, Tryz.ntmps5
  go_upto_region 8 with (first
    | (go_at_call 9; ((with_reducible refine (hH _ hS).mono ?_); rintro e W1 ⟨rfl, B1⟩; obtain ⟨p0, p1, p2, p3, p4, p5, p6, p7⟩ := B1.get))
    | (go_at_call 10; ((with_reducible refine (hFs _ B1).mono ?_); rintro e W2 ⟨rfl, B2⟩; obtain ⟨p0, p1, p2, p3, p4, p5, p6, p7⟩ := B2.get))
    | (go_at_call 10; ((with_reducible refine (hFl _ B2).mono ?_); rintro e W3 ⟨rfl, B3⟩; obtain ⟨p0, p1, p2, p3, p4, p5, p6, p7⟩ := B3.get))
    | (go_at_call 12; ((with_reducible refine (hRt _ B3).mono ?_); rintro e W4 ⟨rfl, B4⟩; obtain ⟨p0, p1, p2, p3, p4, p5, p6, p7⟩ := B4.get))
    | (go_at_call 14; ((with_reducible refine (hEs _ B4).mono ?_); rintro e W5 ⟨A5, c5, rfl, hc5, C5, B5⟩)))
  clear hH hFs hFl hRt p0 p1 p2 p3 p4 p5 p6 p7 B1 B2 B3 B4 hS
  have hk := HKK.out
  have hk1 : Int.tmod u (x.length : Int) = (kk : Int) := by rw [Int.tmod_eq_emod_of_nonneg hu0]; exact hk
  have hx1 := HX1.out
  have hkx := HKX.out
  have hu1 : IntKind.u64.wrap (x.length : Int) = (x.length : Int) := by simp only [IntKind.wrap, IntKind.bits, IntKind.signed]; simp; omega
  have hu2 : IntKind.u64.wrap (kk : Int) = (kk : Int) := by simp only [IntKind.wrap, IntKind.bits, IntKind.signed]; simp; omega
  have hn1 : ¬ (x.length : Int) = 0 := by omega
  have hn2 : ¬ x = [] := by rintro rfl; exact absurd hx0 (by decide)
  go_upto_region 9 with (fail)
  obtain ⟨i0, hi0, hzz⟩ := Option.map_eq_some_iff.1 info5
  have hcut := cut_to (P := Tryz.prog) 32 5 .i64 Tryz.underlying32 hi0 A5 x.length c5 (kk : Int) (by omega) (by omega) hc5
  rw [Int.toNat_natCast] at hcut
  have hlk : (x.take kk).length = kk := by rw [List.length_take]; omega
  have hCk := Kd.C_take C5 (m := kk) (by omega)
  have cD := HDE.out A5 c5 (x.take kk) g g1 g2 W5 B5 hCk (by omega) HEG.out
  rw [hlk] at cD
  clear hCk hlk hk1 hu1 hu2 hk hn1 hn2 hi0 hzz
  have HC5 := Lib.hid C5
  have HCL := Lib.hid hc5
  have HB5 := Lib.hid B5
  clear C5 hc5 B5
  go_upto_region 10 with ((go_at_call 15; ((with_reducible refine cD.mono ?_); rintro e W6 ⟨v6, rfl, v6S, b6⟩; obtain ⟨A6, c6, rfl⟩ := Kd.S_slice v6S; have HB6 := Lib.hid (HB5.out.step b6); have HC6 := Lib.hid (Kd.C_below HC5.out b6); clear v6S b6)))
  clear cD hcut
  by_cases hk0 : 0 < kk
  rotate_left
  all_goals
    first
      | (obtain ⟨rfl, rfl, rfl⟩ := HG.out hk0; have hgt : decide ((kk : Int) > 0) = true := decide_eq_true (by omega))
      | (have hgt : decide ((kk : Int) > 0) = false := decide_eq_false (by omega))
    have hgt2 : decide ((0 : Int) < (kk : Int)) = decide ((kk : Int) > 0) := rfl
    rw [hgt] at hgt2
    go_upto_region 13 with ((go_at_call 14; ((with_reducible refine (HEN.out A2 c2 l y y1 _ HB6.out (Kd.C_below HC2.out HB6.out.bel) hc2 HEY.out).mono ?_); rintro e W7 ⟨A8, c8, rfl, C8, b7⟩; have HB7 := Lib.hid (HB6.out.step b7); have HC7 := Lib.hid (Kd.C_below HC6.out b7); have HY7 := Lib.hid C8; clear C8 b7)))
    clear hgt hgt2 hk0
    rcases HEND.out with rfl | ⟨rfl, hy1, hl1, hda⟩
    · go_wp2
      go_ret
      exact ⟨rfl, HB7.out.bel⟩
    · have HDA := Lib.hid hda
      have HY1 := Lib.hid hy1
      have HL1 := Lib.hid hl1
      clear hda hy1 hl1
      go_upto_region 16 with (first
        | ((with_reducible refine gate_dst (N := 83) rfl ?_); refine Kd.R_lit (Kd.int .u8) (w0 := W7) W7.heap.size 5 ?hg (N := 83) ?hd (xs := ([] : List Int)) (inner := []) (ok := fun _ => True) (okp := fun _ => True) ?hr ?hp (fun _ hk => hk) trivial (Below.refl _ _) (Nat.le_refl _) (by simp) ?_; (case hd => rfl); (case hg => rfl); (case hr => first | (go_simp; done) | (go_simp; rfl)); (case hp => exact Reps.none _ _); intro v8 W8 r8 b8 g8 n8; have HO8 := Lib.hid (show W8.ownsRow W7.heap.size 5 1 v8 0 [] from by obtain ⟨_, inner, ho, hrp⟩ := r8; have : inner = [] := List.eq_nil_of_length_eq_zero (by rw [hrp.1]; rfl); subst this; exact ho); have HB8 := Lib.hid b8; clear r8 b8 g8 n8)
        | (at_builtin; refine wpList_append_C (R := (Kd.int .u8).K w) 1 (fun p c hp => (Kd.int .u8).K_one hp) rfl _ _ 32 rfl W7.heap.size 5 _ 1 Tryz.underlying32 info5 rfl (by decide) v8 0 [] rfl HO8.out A5 c5 x rfl ((show ReadsRow ((Kd.int .u8).K w) 1 W7 A5 x.length x from HC7.out).imp_ HB8.out (fun _ _ h => h)) (by have := HX1.out; simp only [maxLen]; omega) (by have := HX1.out; omega) HB8.out.size ?_; intro v9 W9 n9 o9 r9 g9 at9; have HO9 := Lib.hid o9; have HR9 := Lib.hid r9; have HB9 := Lib.hid (pw_below_grown HB8.out _ HB8.out.size g9 (fun k hk => own_base HO8.out k hk)); clear o9 r9 g9 at9)
        | (at_builtin; refine wpList_append_C (R := (Kd.int .u8).K w) 1 (fun p c hp => (Kd.int .u8).K_one hp) rfl _ _ 32 rfl W7.heap.size 5 _ 1 Tryz.underlying32 info5 rfl (by decide) v9 (0 + x.length) ([] ++ n9) rfl HO9.out A8 c8 y rfl ((show ReadsRow ((Kd.int .u8).K w) 1 W7 A8 y.length y from HY7.out).imp_ HB9.out (fun _ _ h => h)) (by have := HX1.out; have := HY1.out; simp only [maxLen]; omega) (by have := HX1.out; have := HY1.out; omega) HB9.out.size ?_; intro v10 W10 n10 o10 r10 g10 at10; rw [Nat.zero_add, List.nil_append] at o10; have HB10 := Lib.hid (pw_below_grown HB9.out _ HB9.out.size g10 (fun k hk => own_base HO9.out k hk)); obtain ⟨A10, c10, rfl, hc10, C10⟩ := C_bytes o10 HR9.out r10; have HCL10 := Lib.hid hc10; have HX10 := Lib.hid C10; clear o10 r10 g10 at10 hc10 C10)
        | (go_at_call 15; have hz := HDE.out A10 c10 (x ++ y) (s :: l) _ 0 _ (HB7.out.step HB10.out) HX10.out HCL10.out HDA.out; rw [List.length_append] at hz; ((with_reducible refine hz.mono ?_); clear hz; rintro e W11 ⟨v11, rfl, S11, b11⟩; obtain ⟨gb, cap, B4, d4, B7, d7, rfl, F11⟩ := first_step S11; have HF11 := Lib.hid F11; have HB11 := Lib.hid ((HB7.out.step HB10.out).step b11); clear S11 F11 b11)))
      refine cut_end w s A4 A7 B4 B7 A2 A5 A8 c4 c7 d4 d7 c2 c5 c8 cap l.length x.length y.length gb (by have := HL1.out; omega) HX1.out HY1.out (beq_iff_eq.2 (by omega)) (HSM.out gb B4 d4 B7 d7) _ rfl rfl rfl (by simp) rfl rfl rfl rfl _ ⟨HB11.out.step (below_drew (Below.refl _ _)), HF11.out.step (below_drew (Below.refl _ _))⟩ _ ?_
      intro a9 W12 hI12 hd9 h6
      go_wp2
      exact bodyPost_ret (results_tmp rfl _ _ _) hd9 ⟨by rw [Array.getD_eq_getD_getElem?, h6]; rfl, hI12.1.bel⟩
end Go.Proofs.YtdhpcofnddkcaaaGreatDoor.S
namespace Go.Proofs.YtdhpcofnddkcaaaGreatDoor.S
open Go.RowKit Go.Proofs.YtdhpcofnddkcaaaGreatDoor.G Go.Proofs.YtdhpcofnddkcaaaGreatDoorW.PrintWords Go.Proofs.YtdhpcofnddkcaaaGreatDoorW.PrintLast Go.Proofs.YtdhpcofnddkcaaaGreatDoorW.PrintMore
set_option linter.unusedVariables false
set_option linter.unusedSimpArgs false
set_option maxHeartbeats 4000000 in
set_option maxRecDepth 100000 in
theorem cuts_no (s : S29) (A4 A7 A2 : Option Addr) (c4 c7 c2 : Nat) (cut : Int) (l : List S29) (w : World)
    (C4 : Kd.C Kd.string w A4 s.f4.length s.f4) (h4 : s.f4.length ≤ c4) (C7 : Kd.C k44 w A7 s.f7.length s.f7) (h7 : s.f7.length ≤ c7) (hC2 : Kd.C k29 w A2 l.length l) (hc2 : l.length ≤ c2)
    (b1 b2 b3 : Bool) (fs : polyglotlaw18_Few.f (fuel [s]) [s] = some b1) (fl : polyglotlaw18_Few.f (fuel l) l = some b2) (kR : Nat) (fr : b1 = true → polyglotlaw18_Right.f kR s.f0 s.f1 s.f2 s.f3 s.f4 s.f5 s.f6 s.f7 = some b3) (hno : b1 = false ∨ b2 = false ∨ b3 = false)
    (hT : Tab_ w) (hP : TabP_ w) (hE : TabE_ w) :
    Calls Tryz.prog 5 #[.agg #[.int .i64 s.f0, .string s.f1, .string s.f2, .bool s.f3, .slice A4 s.f4.length c4, .string s.f5, .string s.f6, .slice A7 s.f7.length c7], .int .i64 cut, .slice A2 l.length c2] w fun e w' => e = .returned (.bool true) ∧ Below w.heap.size w w' := by
  have hH : ∀ W, Bx w s A4 c4 A7 c7 W → Calls Tryz.prog 9 #[] W fun e w' => e = .returned (.bool true) ∧ Bx w s A4 c4 A7 c7 w' := fun W h =>
    (polyglotlaw18_head.calls true W head_f (Tab_.step hT h.bel) (TabP_.step hP h.bel) (TabE_.step hE h.bel)).mono fun e w' ⟨he, hb⟩ => ⟨he, h.step hb⟩
  have hone : ∀ W, Bx w s A4 c4 A7 c7 W → Kd.C k29 (oneW s A4 c4 A7 c7 W) (some ⟨W.heap.size, 0, none⟩) [s].length [s] := fun W h => one_C h4 (Kd.C_below C4 h.bel) h7 (Kd.C_below C7 h.bel)
  have hFs : ∀ W, Bx w s A4 c4 A7 c7 W → Calls Tryz.prog 10 #[.slice (some ⟨W.heap.size, 0, none⟩) 1 1] (W.alloc (.cells #[.int .i64 s.f0, .string s.f1, .string s.f2, .bool s.f3, .slice A4 s.f4.length c4, .string s.f5, .string s.f6, .slice A7 s.f7.length c7] 29)) fun e w' => e = .returned (.bool b1) ∧ Bx w s A4 c4 A7 c7 w' := fun W h =>
    (polyglotlaw18_Few.calls (fuel [s]) (some ⟨W.heap.size, 0, none⟩) 1 [s] b1 (oneW s A4 c4 A7 c7 W) (hone W h) (Nat.le_refl _) fs).mono fun e w' ⟨he, hb⟩ => ⟨he, (h.step oneW_below).step hb⟩
  have hFl : ∀ W, Bx w s A4 c4 A7 c7 W → Calls Tryz.prog 10 #[.slice A2 l.length c2] W fun e w' => e = .returned (.bool b2) ∧ Bx w s A4 c4 A7 c7 w' := fun W h =>
    (polyglotlaw18_Few.calls (fuel l) A2 c2 l b2 W (Kd.C_below hC2 h.bel) hc2 fl).mono fun e w' ⟨he, hb⟩ => ⟨he, h.step hb⟩
  have hRt : b1 = true → ∀ W, Bx w s A4 c4 A7 c7 W → Calls Tryz.prog 12 #[.agg #[.int .i64 s.f0, .string s.f1, .string s.f2, .bool s.f3, .slice A4 s.f4.length c4, .string s.f5, .string s.f6, .slice A7 s.f7.length c7]] W fun e w' => e = .returned (.bool b3) ∧ Bx w s A4 c4 A7 c7 w' := fun hb W h =>
    (polyglotlaw18_Right.calls kR s.f0 s.f1 s.f2 s.f3 A4 c4 s.f4 s.f5 s.f6 A7 c7 s.f7 b3 W (Kd.C_below C4 h.bel) h4 (Kd.C_below C7 h.bel) h7 (fr hb)).mono fun e w' ⟨he, hb⟩ => ⟨he, h.step hb⟩
  have hS := Bx.start (w := w) (s := s) (A4 := A4) (c4 := c4) (A7 := A7) (c7 := c7)
  obtain ⟨p0, p1, p2, p3, p4, p5, p6, p7⟩ := hS.get
  clear C4 C7 fs fl fr hone hC2
  rcases b1 with _ | _
  · clear hRt
    go_enter Tryz.func5, Tryz.ntmps5
    go_wp2_with (first
      | (go_at_call 9; ((with_reducible refine (hH _ hS).mono ?_); rintro e W1 ⟨rfl, B1⟩; obtain ⟨p0, p1, p2, p3, p4, p5, p6, p7⟩ := B1.get))
      | (go_at_call 10; ((with_reducible refine (hFs _ B1).mono ?_); rintro e W2 ⟨rfl, B2⟩; obtain ⟨p0, p1, p2, p3, p4, p5, p6, p7⟩ := B2.get)))
    go_ret
    exact ⟨rfl, B2.bel⟩
  · have hRR := hRt rfl
    clear hRt
    rcases b2 with _ | _
    · go_enter Tryz.func5, Tryz.ntmps5
      go_wp2_with (first
        | (go_at_call 9; ((with_reducible refine (hH _ hS).mono ?_); rintro e W1 ⟨rfl, B1⟩; obtain ⟨p0, p1, p2, p3, p4, p5, p6, p7⟩ := B1.get))
        | (go_at_call 10; ((with_reducible refine (hFs _ B1).mono ?_); rintro e W2 ⟨rfl, B2⟩; obtain ⟨p0, p1, p2, p3, p4, p5, p6, p7⟩ := B2.get))
        | (go_at_call 10; ((with_reducible refine (hFl _ B2).mono ?_); rintro e W3 ⟨rfl, B3⟩; obtain ⟨p0, p1, p2, p3, p4, p5, p6, p7⟩ := B3.get)))
      go_ret
      exact ⟨rfl, B3.bel⟩
    · obtain rfl : b3 = false := by simpa using hno
      go_enter Tryz.func5, Tryz.ntmps5
      go_wp2_with (first
        | (go_at_call 9; ((with_reducible refine (hH _ hS).mono ?_); rintro e W1 ⟨rfl, B1⟩; obtain ⟨p0, p1, p2, p3, p4, p5, p6, p7⟩ := B1.get))
        | (go_at_call 10; ((with_reducible refine (hFs _ B1).mono ?_); rintro e W2 ⟨rfl, B2⟩; obtain ⟨p0, p1, p2, p3, p4, p5, p6, p7⟩ := B2.get))
        | (go_at_call 10; ((with_reducible refine (hFl _ B2).mono ?_); rintro e W3 ⟨rfl, B3⟩; obtain ⟨p0, p1, p2, p3, p4, p5, p6, p7⟩ := B3.get))
        | (go_at_call 12; ((with_reducible refine (hRR _ B3).mono ?_); rintro e W4 ⟨rfl, B4⟩; obtain ⟨p0, p1, p2, p3, p4, p5, p6, p7⟩ := B4.get)))
      go_ret
      exact ⟨rfl, B4.bel⟩
theorem u64_pos (n : Int) : 0 ≤ IntKind.u64.wrap n := by
  rw [IntKind.wrap_u64]
  omega
theorem cuts_walk (s : S29) (A4 A7 A2 : Option Addr) (c4 c7 c2 : Nat) (cut : Int) (l : List S29) (w : World)
    (C4 : Kd.C Kd.string w A4 s.f4.length s.f4) (h4 : s.f4.length ≤ c4) (C7 : Kd.C k44 w A7 s.f7.length s.f7) (h7 : s.f7.length ≤ c7) (hC2 : Kd.C k29 w A2 l.length l) (hc2 : l.length ≤ c2)
    (ms : Mem s) (ll : l.length ≤ 281474976710656) (ml : ∀ s ∈ l, Mem s) (hT : Tab_ w) (hP : TabP_ w) (hE : TabE_ w) :
    Calls Tryz.prog 5 #[.agg #[.int .i64 s.f0, .string s.f1, .string s.f2, .bool s.f3, .slice A4 s.f4.length c4, .string s.f5, .string s.f6, .slice A7 s.f7.length c7], .int .i64 cut, .slice A2 l.length c2] w fun e w' => e = .returned (.bool true) ∧ Below w.heap.size w w' := by
  obtain ⟨b1, fs, gs⟩ := few_told [s] (by simp) (fun x hx => by rw [List.mem_singleton.1 hx]; exact ms)
  obtain ⟨b2, fl, gl⟩ := few_told l ll ml
  by_cases hb1 : b1 = true
  · subst hb1
    have Fs : FewL [s] := gs rfl
    have q4 := (Fs.2.1 s (.head _)).1
    have q7 := (Fs.2.1 s (.head _)).2
    have qt : ssum s ≤ 3000 := by have := Fs.2.2; rw [tot_cons] at this; omega
    obtain ⟨k0, hR⟩ := lright_f s (by omega) (fun a ha => by
      have h3 := asum_mem ha
      have es : ssum s = s.f1.size + s.f2.size + s.f5.size + s.f6.size + wsum s.f4 + asum s.f7 := rfl
      omega)
    have fr := hR k0 (Nat.le_refl _)
    by_cases hno : b2 = false ∨ rightS s = false
    · exact cuts_no s A4 A7 A2 c4 c7 c2 cut l w C4 h4 C7 h7 hC2 hc2 true b2 (rightS s) fs fl k0 (fun _ => fr) (.inr hno) hT hP hE
    · obtain rfl : b2 = true := by cases b2 <;> simp_all
      have rs : rightS s = true := by cases h : rightS s <;> simp_all
      rw [rs] at fr
      have Fl : FewL l := gl rfl
      have e1 := encode_few Fs.1 Fs.2.1 Fs.2.2
      have eall : [s].all rightS = true := by simp [rs]
      rw [eall, if_pos rfl] at e1
      have eL : Net.encS ([s].map toSt) = Net.encs (Net.parts (toSt s)) := by rw [List.map_cons, List.map_nil, Net.encS_cons, Net.encS_nil, List.append_nil]
      rw [eL] at e1
      have z1 := encS_le [s] Fs.2.1 Fs.2.2
      rw [eL] at z1
      have z1' : (Net.encs (Net.parts (toSt s))).length ≤ 100000 := by have := Fs.2.2; simp only [List.length_singleton] at z1; omega
      have z2 := encS_le l Fl.2.1 Fl.2.2
      have z3 := encs_count' (Net.parts (toSt s))
      have z4 := parts_pos (toSt s)
      have hsm := few_small Fs.2.1 Fs.2.2 (toSt s) (List.mem_map_of_mem (List.mem_singleton.2 rfl))
      have hlen := nums8_len (Net.encs (Net.parts (toSt s)))
      have hm0 := Int.emod_nonneg (IntKind.u64.wrap cut) (b := ((nums8 (Net.encs (Net.parts (toSt s)))).length : Int)) (by rw [hlen]; omega)
      have hm1 := Int.emod_lt_of_pos (IntKind.u64.wrap cut) (b := ((nums8 (Net.encs (Net.parts (toSt s)))).length : Int)) (by rw [hlen]; omega)
      obtain ⟨kk, hkk⟩ := Int.eq_ofNat_of_zero_le hm0
      have hkx : kk < (nums8 (Net.encs (Net.parts (toSt s)))).length := by omega
      have hdec : ∃ g g1 g2, script_Decode.f ((nums8 (Net.encs (Net.parts (toSt s)))).take kk) = some (g, g1, g2) ∧ (0 < kk → g = [] ∧ g1 = 0 ∧ g2 = 2) := by
        by_cases h0 : 0 < kk
        · refine ⟨_, _, _, ?_, fun _ => ⟨rfl, rfl, rfl⟩⟩
          rw [nums8_take]
          refine decode_none ?_ ?_ (Net.noStep_cut okA_kind rs hsm (by omega))
          · rw [List.length_take]; omega
          · rw [List.length_take]; omega
        · obtain rfl : kk = 0 := by omega
          exact ⟨_, _, _, decode_nil, fun h => absurd h (Nat.lt_irrefl 0)⟩
      obtain ⟨g, g1, g2, eg, hg⟩ := hdec
      have fS := same_refl s (by omega) (by omega) (s.f4.length + s.f7.length + 3) (Nat.le_refl _)
      have e2 := encode_few Fl.1 Fl.2.1 Fl.2.2
      cases rl : l.all rightS with
      | true =>
        rw [rl, if_pos rfl] at e2
        refine cuts_yes s A4 A7 A2 c4 c7 c2 cut l w C4 h4 C7 h7 hC2 hc2 fs fl k0 fr _ e1 (by omega) (by omega) kk _ rfl (u64_pos _) hkk hkx g g1 g2 eg hg _ _ e2 (.inr ⟨rfl, ?_, Fl.1, ?_⟩) _ fS hT hP hE
        · rw [nums8_len]; have := Fl.2.2; have := Fl.1; omega
        · rw [nums8_app, nums8_len, nums8_len]
          exact decode_more Fs Fl rs rl
      | false =>
        rw [rl, if_neg (by decide)] at e2
        exact cuts_yes s A4 A7 A2 c4 c7 c2 cut l w C4 h4 C7 h7 hC2 hc2 fs fl k0 fr _ e1 (by omega) (by omega) kk _ rfl (u64_pos _) hkk hkx g g1 g2 eg hg _ _ e2 (.inl rfl) _ fS hT hP hE
  · obtain rfl : b1 = false := by simpa using hb1
    exact cuts_no s A4 A7 A2 c4 c7 c2 cut l w C4 h4 C7 h7 hC2 hc2 false b2 true fs fl 0 (fun h => by cases h) (.inl rfl) hT hP hE
end Go.Proofs.YtdhpcofnddkcaaaGreatDoor.S
namespace Go.Proofs.YtdhpcofnddkcaaaGreatDoor.scriptCuts
open Go.ChangeShapes Go.WideShapes Go.ChangeAt Go.RowKit Go.Proofs.YtdhpcofnddkcaaaGreatDoor.E
open Go.ChangeMaps (open_string shut_string)
set_option linter.unusedVariables false
set_option linter.unusedSimpArgs false
theorem laid_met (os : Os) : laidMet Tryz.prog Rows.scriptCutsRow.laid ((laidWorld os).forCall (fun _ _ => 0) ⟨#[], #[.agg #[.int .i64 0, .string ByteArray.empty, .string ByteArray.empty, .bool false, .slice none 0 0, .string ByteArray.empty, .string ByteArray.empty, .slice none 0 0], .int .i64 0, .slice none 0 0], []⟩).memory :=
  laidMet_of_run3 8 (by kernel_rfl) (by kernel_rfl) (by kernel_rfl)
set_option maxRecDepth 100000 in
theorem reads (os : Os) {H : Type} (enc : TypeId × Value → H) : ∃ places, DataW.whole enc Tryz.prog ((laidWorld os).forCall (fun _ _ => 0) ⟨#[], #[.agg #[.int .i64 0, .string ByteArray.empty, .string ByteArray.empty, .bool false, .slice none 0 0, .string ByteArray.empty, .string ByteArray.empty, .slice none 0 0], .int .i64 0, .slice none 0 0], []⟩).memory Tryz.f5.params.toList Rows.scriptCutsSpec.vars false #[Value.agg #[.int .i64 0, .string ByteArray.empty, .string ByteArray.empty, .bool false, .slice none 0 0, .string ByteArray.empty, .string ByteArray.empty, .slice none 0 0], Value.int .i64 0, Value.slice none 0 0].toList 8 = some ([.agg [.lit (.int .i64 0), .lit (.string []), .lit (.string []), .lit (.bool false), .nil, .lit (.string []), .lit (.string []), .nil], .lit (.int .i64 0), .nil], [], places) :=
  ⟨[], by kernel_rfl⟩
set_option maxRecDepth 100000 in
theorem contract (H : Type) (enc : TypeId × Value → H) (W : World) (base : Nat) (args : Array Value) (ds gs : List (DataW H)) (before : List MemPlace)
    (hval : ∀ (j : Nat) t v, Tryz.f5.params[j]? = some t → args[j]? = some v → Value.okWide Tryz.prog W .any base t v)
    (hW : DataW.Whole enc Tryz.prog Tryz.f5.params.toList Rows.scriptCutsSpec.vars false W args.toList ds gs before) (hL : laidMetH Tryz.prog Rows.scriptCutsRow.laid W) (hS : W.ShapedOpen Tryz.prog) (hsz : (DataW.weightsEach Tryz.prog (Tryz.f5.params.toList ++ (OpenSpec.ofChange Rows.scriptCutsSpec).bare.plain.varTypes Tryz.prog) (ds ++ gs)).all (· ≤ reachBytes) = true) :
    Calls Tryz.prog 5 args W fun e W' => ∃ v, e = .returned v ∧ Rows.scriptCutsSpec.post enc Tryz.prog Tryz.f5 false true false false W args v W' := by
  have hW' := hW
  obtain ⟨p, q, hA0, hV, rfl, hfz, hnd⟩ := hW
  have hA : DataW.TrodAll enc Tryz.prog W 0 (fun _ => true) true Tryz.f5.params.toList args.toList ds p := hA0
  rw [Tryz.params5] at hA hval
  have hAk := hA
  have hlt : ∀ x ∈ p, x.block < W.heap.size := fun x hx => by simpa using hW'.lt x (List.mem_append.2 (Or.inl hx))
  obtain ⟨v0, vs0, d0, ds0, p0, q0, hargs, rfl, rfl, h0, r0⟩ := trodAll_cons hA
  obtain ⟨v1, vs1, d1, ds1, p1, q1, rfl, rfl, rfl, h1, r1⟩ := trodAll_cons r0
  obtain ⟨v2, vs2, d2, ds2, p2, q2, rfl, rfl, rfl, h2, r2⟩ := trodAll_cons r1
  obtain ⟨rfl, rfl, rfl⟩ := trodAll_nil r2
  obtain rfl : args = #[v0, v1, v2] := by cases args; simp_all
  obtain ⟨rfl, rfl⟩ := trodVars_none hV
  obtain ⟨x0, A0, c0, B0, d0, rfl, g40, gC0, g70, gD0, hm0⟩ := open_step1 (hval 0 29 v0 rfl rfl) h0 (fun n hn => by have := of_decide_eq_true (List.all_eq_true.1 hsz n (DataW.weights_mem_each (j := 0) rfl rfl n hn)); unfold reachBytes at this; omega)
  obtain ⟨n1, rfl, rfl, rfl, hm1⟩ := open_int Tryz.underlying3 (hval 1 3 v1 rfl rfl) h1
  obtain ⟨A2, c2, l2, rfl, hc2, hC2, hl2, hm2⟩ := open_steps (hval 2 22 v2 rfl rfl) h2 (fun n hn => by have := of_decide_eq_true (List.all_eq_true.1 hsz n (DataW.weights_mem_each (j := 2) rfl rfl n hn)); unfold reachBytes at this; omega)
  clear hA0
  simp only [List.append_nil] at hW' hAk hlt
  have hT := tab_of hS
  have hP := pow_laid hL
  have hE := err_laid hL
  refine (S.cuts_walk x0 A0 B0 A2 c0 d0 c2 n1 l2 W gC0 g40 gD0 g70 hC2 hc2 hm0 hl2 hm2 hT hP hE).mono fun e W' ⟨he, hb⟩ => ?_
  subst he
  exact ⟨_, rfl, _, _, _, [], _, [], hW', trodAll_mk1 (shut_bool Tryz.underlying4 _), args_below laidOut hb _ _ _ _ (by decide +kernel) hAk hlt, rfl, hb.frame _, fun h => by cases h⟩
set_option maxRecDepth 100000 in
theorem lifted (os : Os) (started : os.Started) (H : Type) (enc : TypeId × Value → H) (F : Stop.Interp) :
    ReturnsInHanded {} Tryz.checked os 5 .any ((OpenSpec.ofChange Rows.scriptCutsSpec).preRow enc Tryz.prog Tryz.f5 Rows.scriptCutsRow.domain false Rows.scriptCutsRow.laid) (((OpenSpec.ofChange Rows.scriptCutsSpec).at F).post enc Tryz.prog Tryz.f5 false true false false) := by
  obtain ⟨places, hx⟩ := reads os enc
  refine returnsInHanded_of_row (C := Tryz.checked) (s := OpenSpec.ofChange Rows.scriptCutsSpec) own started (by kernel_rfl) Tryz.func5
    (witness_row_atRef (enc := enc) (C := Tryz.checked) false (laidWorld os) #[.agg #[.int .i64 0, .string ByteArray.empty, .string ByteArray.empty, .bool false, .slice none 0 0, .string ByteArray.empty, .string ByteArray.empty, .slice none 0 0], .int .i64 0, .slice none 0 0] rfl (by kernel_rfl) (by kernel_rfl) (by kernel_rfl)
      (OpenSpec.preRow_of_cond 8 hx (by kernel_rfl) (fun k hk => by cases hk) (by kernel_rfl) (laid_met os))) ?_
  intro W base args ds gs before hval hW _ _ hsz hL hS _
  exact contract H enc W base args ds gs before hval hW hL hS hsz
theorem said : Rows.ScriptCutsSaid :=
  OpenClaim.holds_of_cond 5 Tryz.f5 rfl rfl rfl rfl rfl rfl rfl ⟨rfl, rfl, rfl, rfl, rfl⟩ rfl rfl rfl rfl rfl (by kernel_rfl) Tryz.func5 (by kernel_rfl)
    (of_decide_eq_true (by kernel_rfl)) (by unfold Func.isWrapper; first | (rw [if_pos (by decide +kernel)]; kernel_rfl) | (rw [if_neg (by decide +kernel)]; exact ⟨rfl, rfl⟩))
    (fun os started H enc _ F => by rw [OpenClaim.pre_eq_preRow]; exact lifted os started H enc F)
theorem plain (f : FuncId) (fn : Func) (hf : Tryz.pinned.checked.prog.funcNamed "polyglot/polyglotlaw18.ScriptCuts" = some f) (hfn : Tryz.pinned.checked.prog.funcs[f]? = some fn) :
    true = Tryz.pinned.checked.prog.looks [] ∧ ∀ (j : Nat) t, fn.params[j]? = some t → Tryz.pinned.checked.prog.wantsStandIn t = false := by
  obtain rfl : f = 5 := Option.some.inj ((show Tryz.prog.funcNamed "polyglot/polyglotlaw18.ScriptCuts" = some 5 by kernel_rfl).symm.trans hf) |>.symm
  obtain rfl : fn = Tryz.f5 := (Option.some.inj (Tryz.func5.symm.trans hfn)).symm
  refine ⟨by kernel_rfl, fun j t ht => ?_⟩
  rw [Tryz.params5] at ht
  have hmem := Array.mem_of_getElem? ht
  have hall : ∀ t ∈ (#[29, 3, 22] : Array TypeId), Tryz.prog.wantsStandIn t = false := by
    intro t ht
    simp at ht
    rcases ht with rfl | rfl | rfl
    all_goals kernel_rfl
  exact hall t hmem
end Go.Proofs.YtdhpcofnddkcaaaGreatDoor.scriptCuts
namespace Go.Proofs.YtdhpcofnddkcaaaGreatDoor
theorem scriptCuts_holds : Rows.ScriptCutsCardSaid :=
  Claim7.holds_tied_plain_at .later [] _ _ _ _ scriptCuts.said (fun _ h => by cases h) (by kernel_rfl) (fun _ h => by cases h) scriptCuts_row_tie rfl ⟨rfl, rfl⟩ (by kernel_rfl) rfl scriptCuts.plain (by kernel_rfl)
end Go.Proofs.YtdhpcofnddkcaaaGreatDoor
