/- Whatever number: braces within braces may be as deep as is said, and no deeper: AstDeep answers true. (Text 5 of 5: what the law's proof rests on, joined; walks printed by the kit's print over given contracts, walks and plain laws by hand.) -/
import Derived.Shelf.Unicode.ValidAny
import Derived.SizedLaws
import Derived.Deep.Slices
import Derived.Deep.Fields
import Derived.WalkKit
import Derived.ProofKit
import Derived.OpenShut
import Derived.Deep.DeepHandedRow
import Derived.Test.YtipmphgkdomebaaDoorCards
import Derived.Test.YtipmphgkdomebaaDoorTie
import Derived.ShutString
import Derived.Lib.LaidU8T
import Derived.PinnedBridge
import Derived.LaidOnce
import Derived.LaidMore
import Derived.Deep.DeepWitnessRowRef
import Derived.Deep.DeepLaidRun
import Derived.Test.YtipmphgkdomebaaDoorAsd0
import Derived.Test.YtipmphgkdomebaaDoorAsd1
import Derived.Test.YtipmphgkdomebaaDoorAsd2
import Derived.Test.YtipmphgkdomebaaDoorAsd3
namespace Go.Proofs.YtipmphgkdomebaaDoor
open Go.RowKit Go.Proofs.YtipmphgkdomebaaDoorW.PrintWords Go.Proofs.YtipmphgkdomebaaDoorW.PrintLast
set_option linter.unusedVariables false
set_option linter.unusedSimpArgs false
def EnI (w0 : World) (X Y : Array Value) (W : World) : Prop := Own w0 [(w0.heap.size + 1, .cells Y 29 (0, 0)), (w0.heap.size, .cells X 29 (0, 0))] W
theorem EnI.step {w0 : World} {X Y : Array Value} {W W1 : World} (h : EnI w0 X Y W) (b : Below W.heap.size W W1) : EnI w0 X Y W1 := Own.step h b
def as21a.T : Bool × List (List Nat × List Nat) := (true, [([], []), ([0], [0]), ([], []), ([1, 2], [1, 2]), ([3], [3]), ([4], [4]), ([], []), ([6], [6]), ([], []), ([7, 8], [7, 8]), ([9], [9]), ([10], [10]), ([5, 11], [5, 11]), ([12], [12]), ([13], [13]), ([14, 13], [13, 14]), ([13], [13]), ([15, 16, 13], [13, 15, 16]), ([17, 13], [13, 17]), ([18, 13], [13, 18]), ([13], [13]), ([20, 13], [13, 20]), ([13], [13]), ([21, 22, 13], [13, 21, 22]), ([23, 13], [13, 23]), ([24, 13], [13, 24]), ([19, 25, 13, 13], [13, 19, 25]), ([26, 13], [13, 26]), ([13, 27], [13, 27])])
def as21a.B : List Nat := [0, 1, 0, 7, 15, 31, 0, 64, 0, 448, 960, 1984, 4095, 8191, 16383, 32767, 16383, 131071, 262143, 524287, 16383, 1064959, 16383, 7356415, 15745023, 32522239, 67108863, 134217727, 268435455]
theorem as21a.tab : rtab .any (opsOf Tryd.f21 6) = as21a.T := by kernel_rfl
theorem as21a.bits : waitsOk as21a.T.2 as21a.B = true := by kernel_rfl
set_option maxRecDepth 100000 in
set_option maxHeartbeats 4000000 in
theorem as21a (w0 : World) (y1 y2 l1 l2 u1 u2 v1 v2 : Int) (e1 e2 m1 m2 : ByteArray) (A1 A2 : Option Addr) (a1 a2 ca1 ca2 cv1 cv2 : Nat) (t1 t2 : ByteArray) (hq : (t1.toList == t2.toList) = false) (n i b1 o1 b2 o2 : Nat) (q1 : (0 : Int) ≤ (i : Int)) (q2 : (i : Int) < (n : Int)) (d10 : w0.cell? ⟨b1, o1 + i * 2, none⟩ = some (.string t1)) (d20 : w0.cell? ⟨b2, o2 + i * 2, none⟩ = some (.string t2)) (a0 : Act) (s2 : a0.tmps[2]? = some (.pointer (some ⟨w0.heap.size, 0, none⟩))) (s3 : a0.tmps[3]? = some (.pointer (some ⟨w0.heap.size + 1, 0, none⟩))) (s5 : a0.tmps[5]? = some (.int .i64 (i : Int))) (hsz : a0.tmps.size = Tryd.f21.ntmps) (W : World) (hI : EnI w0 #[.int .i64 y1, .int .i64 l1, .string e1, .string m1, .slice A1 a1 ca1, .slice (some ⟨b1, o1, none⟩) n cv1, .int .i64 u1, .int .i64 v1] #[.int .i64 y2, .int .i64 l2, .string e2, .string m2, .slice A2 a2 ca2, .slice (some ⟨b2, o2, none⟩) n cv2, .int .i64 u2, .int .i64 v2] W.drew) (Q : Exit → Act → World → Prop) (hend : ∀ (a9 : Act) w', EnI w0 #[.int .i64 y1, .int .i64 l1, .string e1, .string m1, .slice A1 a1 ca1, .slice (some ⟨b1, o1, none⟩) n cv1, .int .i64 u1, .int .i64 v1] #[.int .i64 y2, .int .i64 l2, .string e2, .string m2, .slice A2 a2 ca2, .slice (some ⟨b2, o2, none⟩) n cv2, .int .i64 u2, .int .i64 v2] w' → a9 = putSel a0 (fun _ => true) [(0, 47, .pointer (some ⟨w0.heap.size, 5, none⟩)), (1, 48, .slice (some ⟨b1, o1, none⟩) n cv1), (2, 49, .int .i64 (i : Int)), (3, 50, .pointer (some ⟨b1, o1 + i * 2, none⟩)), (4, 51, .pointer (some ⟨b1, o1 + i * 2, none⟩)), (5, 52, .string t1), (6, 53, .pointer (some ⟨w0.heap.size + 1, 5, none⟩)), (7, 54, .slice (some ⟨b2, o2, none⟩) n cv2), (8, 55, .int .i64 (i : Int)), (9, 56, .pointer (some ⟨b2, o2 + i * 2, none⟩)), (10, 57, .pointer (some ⟨b2, o2 + i * 2, none⟩)), (11, 58, .string t2), (12, 59, .bool true), (13, 60, .bool true), (14, 61, undef), (15, 62, undef), (16, 63, undef), (17, 64, undef), (18, 65, undef), (19, 66, undef), (20, 67, undef), (21, 68, undef), (22, 69, undef), (23, 70, undef), (24, 71, undef), (25, 72, undef), (26, 73, undef), (27, 74, undef), (28, 75, .bool true)] → a9.defers = a0.defers → a9.tmps[75]? = some (.bool true) → Q .normal a9 w') :
    (Code.region 6 #[{ dst := some 47, op := Op.fieldAddr 29 (Operand.tmp 2) 5, type := 0, pos := "law.go:279", after := #[], guard := none }, { dst := some 48, op := Op.load 27 (Operand.tmp 47), type := 27, pos := "law.go:279", after := #[{ on := 0, ground := Ground.data }], guard := none }, { dst := some 49, op := Op.move (Operand.tmp 5), type := 3, pos := "law.go:279", after := #[], guard := none }, { dst := some 50, op := Op.indexAddr 27 (Operand.tmp 48) (Operand.tmp 49), type := 0, pos := "law.go:279", after := #[{ on := 1, ground := Ground.data }, { on := 2, ground := Ground.data }], guard := none }, { dst := some 51, op := Op.fieldAddr 44 (Operand.tmp 50) 0, type := 0, pos := "law.go:279", after := #[{ on := 3, ground := Ground.data }], guard := none }, { dst := some 52, op := Op.load 9 (Operand.tmp 51), type := 9, pos := "law.go:279", after := #[{ on := 4, ground := Ground.data }], guard := none }, { dst := some 53, op := Op.fieldAddr 29 (Operand.tmp 3) 5, type := 0, pos := "law.go:279", after := #[], guard := none }, { dst := some 54, op := Op.load 27 (Operand.tmp 53), type := 27, pos := "law.go:279", after := #[{ on := 6, ground := Ground.data }], guard := none }, { dst := some 55, op := Op.move (Operand.tmp 5), type := 3, pos := "law.go:279", after := #[], guard := none }, { dst := some 56, op := Op.indexAddr 27 (Operand.tmp 54) (Operand.tmp 55), type := 0, pos := "law.go:279", after := #[{ on := 7, ground := Ground.data }, { on := 8, ground := Ground.data }], guard := none }, { dst := some 57, op := Op.fieldAddr 44 (Operand.tmp 56) 0, type := 0, pos := "law.go:279", after := #[{ on := 9, ground := Ground.data }], guard := none }, { dst := some 58, op := Op.load 9 (Operand.tmp 57), type := 9, pos := "law.go:279", after := #[{ on := 10, ground := Ground.data }], guard := none }, { dst := some 59, op := Op.binOp BinOp.neq 9 (Operand.tmp 52) (Operand.tmp 58) 9, type := 4, pos := "law.go:279", after := #[{ on := 5, ground := Ground.data }, { on := 11, ground := Ground.data }], guard := none }, { dst := some 60, op := Op.move (Operand.tmp 59), type := 4, pos := "law.go:279", after := #[{ on := 12, ground := Ground.data }], guard := none }, { dst := some 61, op := Op.fieldAddr 29 (Operand.tmp 2) 5, type := 0, pos := "law.go:279", after := #[{ on := 13, ground := Ground.guard }], guard := some (13, false) }, { dst := some 62, op := Op.load 27 (Operand.tmp 61), type := 27, pos := "law.go:279", after := #[{ on := 14, ground := Ground.data }, { on := 13, ground := Ground.guard }], guard := some (13, false) }, { dst := some 63, op := Op.move (Operand.tmp 5), type := 3, pos := "law.go:279", after := #[{ on := 13, ground := Ground.guard }], guard := some (13, false) }, { dst := some 64, op := Op.indexAddr 27 (Operand.tmp 62) (Operand.tmp 63), type := 0, pos := "law.go:279", after := #[{ on := 15, ground := Ground.data }, { on := 16, ground := Ground.data }, { on := 13, ground := Ground.guard }], guard := some (13, false) }, { dst := some 65, op := Op.fieldAddr 44 (Operand.tmp 64) 1, type := 0, pos := "law.go:279", after := #[{ on := 17, ground := Ground.data }, { on := 13, ground := Ground.guard }], guard := some (13, false) }, { dst := some 66, op := Op.load 26 (Operand.tmp 65), type := 26, pos := "law.go:279", after := #[{ on := 18, ground := Ground.data }, { on := 13, ground := Ground.guard }], guard := some (13, false) }, { dst := some 67, op := Op.fieldAddr 29 (Operand.tmp 3) 5, type := 0, pos := "law.go:279", after := #[{ on := 13, ground := Ground.guard }], guard := some (13, false) }, { dst := some 68, op := Op.load 27 (Operand.tmp 67), type := 27, pos := "law.go:279", after := #[{ on := 20, ground := Ground.data }, { on := 13, ground := Ground.guard }], guard := some (13, false) }, { dst := some 69, op := Op.move (Operand.tmp 5), type := 3, pos := "law.go:279", after := #[{ on := 13, ground := Ground.guard }], guard := some (13, false) }, { dst := some 70, op := Op.indexAddr 27 (Operand.tmp 68) (Operand.tmp 69), type := 0, pos := "law.go:279", after := #[{ on := 21, ground := Ground.data }, { on := 22, ground := Ground.data }, { on := 13, ground := Ground.guard }], guard := some (13, false) }, { dst := some 71, op := Op.fieldAddr 44 (Operand.tmp 70) 1, type := 0, pos := "law.go:279", after := #[{ on := 23, ground := Ground.data }, { on := 13, ground := Ground.guard }], guard := some (13, false) }, { dst := some 72, op := Op.load 26 (Operand.tmp 71), type := 26, pos := "law.go:279", after := #[{ on := 24, ground := Ground.data }, { on := 13, ground := Ground.guard }], guard := some (13, false) }, { dst := some 73, op := Op.call { callee := Callee.value (Operand.func 47), args := #[Operand.tmp 66, Operand.tmp 72], argTypes := #[26, 26] }, type := 4, pos := "law.go:279", after := #[{ on := 19, ground := Ground.data }, { on := 25, ground := Ground.data }, { on := 13, ground := Ground.chain }, { on := 13, ground := Ground.guard }], guard := some (13, false) }, { dst := some 74, op := Op.unOp UnOp.not 4 (Operand.tmp 73), type := 4, pos := "law.go:279", after := #[{ on := 26, ground := Ground.data }, { on := 13, ground := Ground.guard }], guard := some (13, false) }, { dst := some 75, op := Op.pick (Operand.tmp 60) (Operand.const (Value.bool true)) (Operand.tmp 74), type := 4, pos := "law.go:279", after := #[{ on := 13, ground := Ground.data }, { on := 27, ground := Ground.data }], guard := none }] true).wp Tryd.prog Q a0 W := by
  refine start_ (n := 29) (S := fun w' => True) (ds := []) #[false, false, false, false, false, false, false, false, false, false, false, false, false, false, false, false, false, false, false, false, false, false, false, false, false, false, false, false, false] (by kernel_rfl) rfl rfl trivial (fun hHeld => ?_)
  refine with_tabW as21a.tab as21a.bits (fun HT_ HW_ => ?_)
  refine inv_at [0, 1, 2, 3, 4, 5, 6, 7, 8, 9, 10, 11, 12, 13, 14, 15, 16, 17, 18, 19, 20, 21, 22, 23, 24, 25, 26, 27, 28] (fun a0_ b a w' => a = putSel a0_ b [(0, 47, .pointer (some ⟨w0.heap.size, 5, none⟩)), (1, 48, .slice (some ⟨b1, o1, none⟩) n cv1), (2, 49, .int .i64 (i : Int)), (3, 50, .pointer (some ⟨b1, o1 + i * 2, none⟩)), (4, 51, .pointer (some ⟨b1, o1 + i * 2, none⟩)), (5, 52, .string t1), (6, 53, .pointer (some ⟨w0.heap.size + 1, 5, none⟩)), (7, 54, .slice (some ⟨b2, o2, none⟩) n cv2), (8, 55, .int .i64 (i : Int)), (9, 56, .pointer (some ⟨b2, o2 + i * 2, none⟩)), (10, 57, .pointer (some ⟨b2, o2 + i * 2, none⟩)), (11, 58, .string t2), (12, 59, .bool true), (13, 60, .bool true), (14, 61, undef), (15, 62, undef), (16, 63, undef), (17, 64, undef), (18, 65, undef), (19, 66, undef), (20, 67, undef), (21, 68, undef), (22, 69, undef), (23, 70, undef), (24, 71, undef), (25, 72, undef), (26, 73, undef), (27, 74, undef), (28, 75, .bool true)] ∧ (EnI w0 #[.int .i64 y1, .int .i64 l1, .string e1, .string m1, .slice A1 a1 ca1, .slice (some ⟨b1, o1, none⟩) n cv1, .int .i64 u1, .int .i64 v1] #[.int .i64 y2, .int .i64 l2, .string e2, .string m2, .slice A2 a2 ca2, .slice (some ⟨b2, o2, none⟩) n cv2, .int .i64 u2, .int .i64 v2] w')) HT_.out HW_.out (by kernel_rfl) (by kernel_rfl) ?_ ?_ ?_
  · exact ⟨(by simp only [putSel, Bool.false_eq_true, if_false]), hI⟩
  · clear hI hend hHeld
    refine steps_cons ?_ ?_
    · rintro b a w' ⟨ha, hI⟩ hb_ hon hoff
      refine ⟨_, rfl, fun K hK => ?_⟩
      have e2 : a.tmps[2]? = some (.pointer (some ⟨w0.heap.size, 0, none⟩)) := by rw [ha]; exact (putSel_off rfl).trans s2
      replace ha := Aside0.mk ha
      refine value_ (w1 := w') (v := .pointer (some ⟨w0.heap.size, 5, none⟩)) (by rfl) rfl ?_ ?_
      · go_simp; try rfl
        all_goals (try (simp only [IntKind.wrap_i64]; omega))
      exact hK.out _ _ ⟨(by rw [ha.out]; exact putSel_upk 0 hb_ rfl rfl rfl), hI⟩
    refine steps_cons ?_ ?_
    · rintro b a w' ⟨ha, hI⟩ hb_ hon hoff
      refine ⟨_, rfl, fun K hK => ?_⟩
      have e47 : a.tmps[47]? = some (.pointer (some ⟨w0.heap.size, 5, none⟩)) := by rw [ha]; exact putSel_on (e := (0, 47, .pointer (some ⟨w0.heap.size, 5, none⟩))) 0 rfl rfl (hon 0 (by kernel_rfl)) (by rw [hsz]; rfl)
      replace ha := Aside0.mk ha
      have m0 := Own.c hI 1 5 rfl rfl
      refine value_ (w1 := w') (v := .slice (some ⟨b1, o1, none⟩) n cv1) (by rfl) rfl ?_ ?_
      · go_simp; try rfl
        all_goals (try (simp only [IntKind.wrap_i64]; omega))
      exact hK.out _ _ ⟨(by rw [ha.out]; exact putSel_upk 1 hb_ rfl rfl rfl), hI⟩
    refine steps_cons ?_ ?_
    · rintro b a w' ⟨ha, hI⟩ hb_ hon hoff
      refine ⟨_, rfl, fun K hK => ?_⟩
      have e5 : a.tmps[5]? = some (.int .i64 (i : Int)) := by rw [ha]; exact (putSel_off rfl).trans s5
      replace ha := Aside0.mk ha
      refine value_ (w1 := w') (v := .int .i64 (i : Int)) (by rfl) rfl ?_ ?_
      · go_simp; try rfl
        all_goals (try (simp only [IntKind.wrap_i64]; omega))
      exact hK.out _ _ ⟨(by rw [ha.out]; exact putSel_upk 2 hb_ rfl rfl rfl), hI⟩
    refine steps_cons ?_ ?_
    · rintro b a w' ⟨ha, hI⟩ hb_ hon hoff
      refine ⟨_, rfl, fun K hK => ?_⟩
      have e48 : a.tmps[48]? = some (.slice (some ⟨b1, o1, none⟩) n cv1) := by rw [ha]; exact putSel_on (e := (1, 48, .slice (some ⟨b1, o1, none⟩) n cv1)) 1 rfl rfl (hon 1 (by kernel_rfl)) (by rw [hsz]; rfl)
      have e49 : a.tmps[49]? = some (.int .i64 (i : Int)) := by rw [ha]; exact putSel_on (e := (2, 49, .int .i64 (i : Int))) 2 rfl rfl (hon 2 (by kernel_rfl)) (by rw [hsz]; rfl)
      replace ha := Aside0.mk ha
      refine value_ (w1 := w') (v := .pointer (some ⟨b1, o1 + i * 2, none⟩)) (by rfl) rfl ?_ ?_
      · go_simp; try rfl
        all_goals (try (simp only [IntKind.wrap_i64]; omega))
      exact hK.out _ _ ⟨(by rw [ha.out]; exact putSel_upk 3 hb_ rfl rfl rfl), hI⟩
    refine steps_cons ?_ ?_
    · rintro b a w' ⟨ha, hI⟩ hb_ hon hoff
      refine ⟨_, rfl, fun K hK => ?_⟩
      have e50 : a.tmps[50]? = some (.pointer (some ⟨b1, o1 + i * 2, none⟩)) := by rw [ha]; exact putSel_on (e := (3, 50, .pointer (some ⟨b1, o1 + i * 2, none⟩))) 3 rfl rfl (hon 3 (by kernel_rfl)) (by rw [hsz]; rfl)
      replace ha := Aside0.mk ha
      refine value_ (w1 := w') (v := .pointer (some ⟨b1, o1 + i * 2, none⟩)) (by rfl) rfl ?_ ?_
      · go_simp; try rfl
        all_goals (try (simp only [IntKind.wrap_i64]; omega))
      exact hK.out _ _ ⟨(by rw [ha.out]; exact putSel_upk 4 hb_ rfl rfl rfl), hI⟩
    refine steps_cons ?_ ?_
    · rintro b a w' ⟨ha, hI⟩ hb_ hon hoff
      refine ⟨_, rfl, fun K hK => ?_⟩
      have e51 : a.tmps[51]? = some (.pointer (some ⟨b1, o1 + i * 2, none⟩)) := by rw [ha]; exact putSel_on (e := (4, 51, .pointer (some ⟨b1, o1 + i * 2, none⟩))) 4 rfl rfl (hon 4 (by kernel_rfl)) (by rw [hsz]; rfl)
      replace ha := Aside0.mk ha
      have m0 := Kept.of (Own.bel hI) _ _ _ d10
      refine value_ (w1 := w') (v := .string t1) (by rfl) rfl ?_ ?_
      · go_simp; try rfl
        all_goals (try (simp only [IntKind.wrap_i64]; omega))
      exact hK.out _ _ ⟨(by rw [ha.out]; exact putSel_upk 5 hb_ rfl rfl rfl), hI⟩
    refine steps_cons ?_ ?_
    · rintro b a w' ⟨ha, hI⟩ hb_ hon hoff
      refine ⟨_, rfl, fun K hK => ?_⟩
      have e3 : a.tmps[3]? = some (.pointer (some ⟨w0.heap.size + 1, 0, none⟩)) := by rw [ha]; exact (putSel_off rfl).trans s3
      replace ha := Aside0.mk ha
      refine value_ (w1 := w') (v := .pointer (some ⟨w0.heap.size + 1, 5, none⟩)) (by rfl) rfl ?_ ?_
      · go_simp; try rfl
        all_goals (try (simp only [IntKind.wrap_i64]; omega))
      exact hK.out _ _ ⟨(by rw [ha.out]; exact putSel_upk 6 hb_ rfl rfl rfl), hI⟩
    refine steps_cons ?_ ?_
    · rintro b a w' ⟨ha, hI⟩ hb_ hon hoff
      refine ⟨_, rfl, fun K hK => ?_⟩
      have e53 : a.tmps[53]? = some (.pointer (some ⟨w0.heap.size + 1, 5, none⟩)) := by rw [ha]; exact putSel_on (e := (6, 53, .pointer (some ⟨w0.heap.size + 1, 5, none⟩))) 6 rfl rfl (hon 6 (by kernel_rfl)) (by rw [hsz]; rfl)
      replace ha := Aside0.mk ha
      have m0 := Own.c hI 0 5 rfl rfl
      refine value_ (w1 := w') (v := .slice (some ⟨b2, o2, none⟩) n cv2) (by rfl) rfl ?_ ?_
      · go_simp; try rfl
        all_goals (try (simp only [IntKind.wrap_i64]; omega))
      exact hK.out _ _ ⟨(by rw [ha.out]; exact putSel_upk 7 hb_ rfl rfl rfl), hI⟩
    refine steps_cons ?_ ?_
    · rintro b a w' ⟨ha, hI⟩ hb_ hon hoff
      refine ⟨_, rfl, fun K hK => ?_⟩
      have e5 : a.tmps[5]? = some (.int .i64 (i : Int)) := by rw [ha]; exact (putSel_off rfl).trans s5
      replace ha := Aside0.mk ha
      refine value_ (w1 := w') (v := .int .i64 (i : Int)) (by rfl) rfl ?_ ?_
      · go_simp; try rfl
        all_goals (try (simp only [IntKind.wrap_i64]; omega))
      exact hK.out _ _ ⟨(by rw [ha.out]; exact putSel_upk 8 hb_ rfl rfl rfl), hI⟩
    refine steps_cons ?_ ?_
    · rintro b a w' ⟨ha, hI⟩ hb_ hon hoff
      refine ⟨_, rfl, fun K hK => ?_⟩
      have e54 : a.tmps[54]? = some (.slice (some ⟨b2, o2, none⟩) n cv2) := by rw [ha]; exact putSel_on (e := (7, 54, .slice (some ⟨b2, o2, none⟩) n cv2)) 7 rfl rfl (hon 7 (by kernel_rfl)) (by rw [hsz]; rfl)
      have e55 : a.tmps[55]? = some (.int .i64 (i : Int)) := by rw [ha]; exact putSel_on (e := (8, 55, .int .i64 (i : Int))) 8 rfl rfl (hon 8 (by kernel_rfl)) (by rw [hsz]; rfl)
      replace ha := Aside0.mk ha
      refine value_ (w1 := w') (v := .pointer (some ⟨b2, o2 + i * 2, none⟩)) (by rfl) rfl ?_ ?_
      · go_simp; try rfl
        all_goals (try (simp only [IntKind.wrap_i64]; omega))
      exact hK.out _ _ ⟨(by rw [ha.out]; exact putSel_upk 9 hb_ rfl rfl rfl), hI⟩
    refine steps_cons ?_ ?_
    · rintro b a w' ⟨ha, hI⟩ hb_ hon hoff
      refine ⟨_, rfl, fun K hK => ?_⟩
      have e56 : a.tmps[56]? = some (.pointer (some ⟨b2, o2 + i * 2, none⟩)) := by rw [ha]; exact putSel_on (e := (9, 56, .pointer (some ⟨b2, o2 + i * 2, none⟩))) 9 rfl rfl (hon 9 (by kernel_rfl)) (by rw [hsz]; rfl)
      replace ha := Aside0.mk ha
      refine value_ (w1 := w') (v := .pointer (some ⟨b2, o2 + i * 2, none⟩)) (by rfl) rfl ?_ ?_
      · go_simp; try rfl
        all_goals (try (simp only [IntKind.wrap_i64]; omega))
      exact hK.out _ _ ⟨(by rw [ha.out]; exact putSel_upk 10 hb_ rfl rfl rfl), hI⟩
    refine steps_cons ?_ ?_
    · rintro b a w' ⟨ha, hI⟩ hb_ hon hoff
      refine ⟨_, rfl, fun K hK => ?_⟩
      have e57 : a.tmps[57]? = some (.pointer (some ⟨b2, o2 + i * 2, none⟩)) := by rw [ha]; exact putSel_on (e := (10, 57, .pointer (some ⟨b2, o2 + i * 2, none⟩))) 10 rfl rfl (hon 10 (by kernel_rfl)) (by rw [hsz]; rfl)
      replace ha := Aside0.mk ha
      have m0 := Kept.of (Own.bel hI) _ _ _ d20
      refine value_ (w1 := w') (v := .string t2) (by rfl) rfl ?_ ?_
      · go_simp; try rfl
        all_goals (try (simp only [IntKind.wrap_i64]; omega))
      exact hK.out _ _ ⟨(by rw [ha.out]; exact putSel_upk 11 hb_ rfl rfl rfl), hI⟩
    refine steps_cons ?_ ?_
    · rintro b a w' ⟨ha, hI⟩ hb_ hon hoff
      refine ⟨_, rfl, fun K hK => ?_⟩
      have e52 : a.tmps[52]? = some (.string t1) := by rw [ha]; exact putSel_on (e := (5, 52, .string t1)) 5 rfl rfl (hon 5 (by kernel_rfl)) (by rw [hsz]; rfl)
      have e58 : a.tmps[58]? = some (.string t2) := by rw [ha]; exact putSel_on (e := (11, 58, .string t2)) 11 rfl rfl (hon 11 (by kernel_rfl)) (by rw [hsz]; rfl)
      replace ha := Aside0.mk ha
      refine value_ (w1 := w') (v := .bool true) (by rfl) rfl ?_ ?_
      · go_simp; try rfl
        all_goals (try (simp only [IntKind.wrap_i64]; omega))
      exact hK.out _ _ ⟨(by rw [ha.out]; exact putSel_upk 12 hb_ rfl rfl rfl), hI⟩
    refine steps_cons ?_ ?_
    · rintro b a w' ⟨ha, hI⟩ hb_ hon hoff
      refine ⟨_, rfl, fun K hK => ?_⟩
      have e59 : a.tmps[59]? = some (.bool true) := by rw [ha]; exact putSel_on (e := (12, 59, .bool true)) 12 rfl rfl (hon 12 (by kernel_rfl)) (by rw [hsz]; rfl)
      replace ha := Aside0.mk ha
      refine value_ (w1 := w') (v := .bool true) (by rfl) rfl ?_ ?_
      · go_simp; try rfl
        all_goals (try (simp only [IntKind.wrap_i64]; omega))
      exact hK.out _ _ ⟨(by rw [ha.out]; exact putSel_upk 13 hb_ rfl rfl rfl), hI⟩
    refine steps_cons ?_ ?_
    · rintro b a w' ⟨ha, hI⟩ hb_ hon hoff
      refine ⟨_, rfl, fun K hK => ?_⟩
      have e60 : a.tmps[60]? = some (.bool true) := by rw [ha]; exact putSel_on (e := (13, 60, .bool true)) 13 rfl rfl (hon 13 (by kernel_rfl)) (by rw [hsz]; rfl)
      exact off_ (wanted_off rfl rfl rfl e60) (hK.out _ _ ⟨(by rw [ha]; exact putSel_upk 14 hb_ rfl rfl rfl), hI⟩)
    refine steps_cons ?_ ?_
    · rintro b a w' ⟨ha, hI⟩ hb_ hon hoff
      refine ⟨_, rfl, fun K hK => ?_⟩
      have e60 : a.tmps[60]? = some (.bool true) := by rw [ha]; exact putSel_on (e := (13, 60, .bool true)) 13 rfl rfl (hon 13 (by kernel_rfl)) (by rw [hsz]; rfl)
      exact off_ (wanted_off rfl rfl rfl e60) (hK.out _ _ ⟨(by rw [ha]; exact putSel_upk 15 hb_ rfl rfl rfl), hI⟩)
    refine steps_cons ?_ ?_
    · rintro b a w' ⟨ha, hI⟩ hb_ hon hoff
      refine ⟨_, rfl, fun K hK => ?_⟩
      have e60 : a.tmps[60]? = some (.bool true) := by rw [ha]; exact putSel_on (e := (13, 60, .bool true)) 13 rfl rfl (hon 13 (by kernel_rfl)) (by rw [hsz]; rfl)
      exact off_ (wanted_off rfl rfl rfl e60) (hK.out _ _ ⟨(by rw [ha]; exact putSel_upk 16 hb_ rfl rfl rfl), hI⟩)
    refine steps_cons ?_ ?_
    · rintro b a w' ⟨ha, hI⟩ hb_ hon hoff
      refine ⟨_, rfl, fun K hK => ?_⟩
      have e60 : a.tmps[60]? = some (.bool true) := by rw [ha]; exact putSel_on (e := (13, 60, .bool true)) 13 rfl rfl (hon 13 (by kernel_rfl)) (by rw [hsz]; rfl)
      exact off_ (wanted_off rfl rfl rfl e60) (hK.out _ _ ⟨(by rw [ha]; exact putSel_upk 17 hb_ rfl rfl rfl), hI⟩)
    refine steps_cons ?_ ?_
    · rintro b a w' ⟨ha, hI⟩ hb_ hon hoff
      refine ⟨_, rfl, fun K hK => ?_⟩
      have e60 : a.tmps[60]? = some (.bool true) := by rw [ha]; exact putSel_on (e := (13, 60, .bool true)) 13 rfl rfl (hon 13 (by kernel_rfl)) (by rw [hsz]; rfl)
      exact off_ (wanted_off rfl rfl rfl e60) (hK.out _ _ ⟨(by rw [ha]; exact putSel_upk 18 hb_ rfl rfl rfl), hI⟩)
    refine steps_cons ?_ ?_
    · rintro b a w' ⟨ha, hI⟩ hb_ hon hoff
      refine ⟨_, rfl, fun K hK => ?_⟩
      have e60 : a.tmps[60]? = some (.bool true) := by rw [ha]; exact putSel_on (e := (13, 60, .bool true)) 13 rfl rfl (hon 13 (by kernel_rfl)) (by rw [hsz]; rfl)
      exact off_ (wanted_off rfl rfl rfl e60) (hK.out _ _ ⟨(by rw [ha]; exact putSel_upk 19 hb_ rfl rfl rfl), hI⟩)
    refine steps_cons ?_ ?_
    · rintro b a w' ⟨ha, hI⟩ hb_ hon hoff
      refine ⟨_, rfl, fun K hK => ?_⟩
      have e60 : a.tmps[60]? = some (.bool true) := by rw [ha]; exact putSel_on (e := (13, 60, .bool true)) 13 rfl rfl (hon 13 (by kernel_rfl)) (by rw [hsz]; rfl)
      exact off_ (wanted_off rfl rfl rfl e60) (hK.out _ _ ⟨(by rw [ha]; exact putSel_upk 20 hb_ rfl rfl rfl), hI⟩)
    refine steps_cons ?_ ?_
    · rintro b a w' ⟨ha, hI⟩ hb_ hon hoff
      refine ⟨_, rfl, fun K hK => ?_⟩
      have e60 : a.tmps[60]? = some (.bool true) := by rw [ha]; exact putSel_on (e := (13, 60, .bool true)) 13 rfl rfl (hon 13 (by kernel_rfl)) (by rw [hsz]; rfl)
      exact off_ (wanted_off rfl rfl rfl e60) (hK.out _ _ ⟨(by rw [ha]; exact putSel_upk 21 hb_ rfl rfl rfl), hI⟩)
    refine steps_cons ?_ ?_
    · rintro b a w' ⟨ha, hI⟩ hb_ hon hoff
      refine ⟨_, rfl, fun K hK => ?_⟩
      have e60 : a.tmps[60]? = some (.bool true) := by rw [ha]; exact putSel_on (e := (13, 60, .bool true)) 13 rfl rfl (hon 13 (by kernel_rfl)) (by rw [hsz]; rfl)
      exact off_ (wanted_off rfl rfl rfl e60) (hK.out _ _ ⟨(by rw [ha]; exact putSel_upk 22 hb_ rfl rfl rfl), hI⟩)
    refine steps_cons ?_ ?_
    · rintro b a w' ⟨ha, hI⟩ hb_ hon hoff
      refine ⟨_, rfl, fun K hK => ?_⟩
      have e60 : a.tmps[60]? = some (.bool true) := by rw [ha]; exact putSel_on (e := (13, 60, .bool true)) 13 rfl rfl (hon 13 (by kernel_rfl)) (by rw [hsz]; rfl)
      exact off_ (wanted_off rfl rfl rfl e60) (hK.out _ _ ⟨(by rw [ha]; exact putSel_upk 23 hb_ rfl rfl rfl), hI⟩)
    refine steps_cons ?_ ?_
    · rintro b a w' ⟨ha, hI⟩ hb_ hon hoff
      refine ⟨_, rfl, fun K hK => ?_⟩
      have e60 : a.tmps[60]? = some (.bool true) := by rw [ha]; exact putSel_on (e := (13, 60, .bool true)) 13 rfl rfl (hon 13 (by kernel_rfl)) (by rw [hsz]; rfl)
      exact off_ (wanted_off rfl rfl rfl e60) (hK.out _ _ ⟨(by rw [ha]; exact putSel_upk 24 hb_ rfl rfl rfl), hI⟩)
    refine steps_cons ?_ ?_
    · rintro b a w' ⟨ha, hI⟩ hb_ hon hoff
      refine ⟨_, rfl, fun K hK => ?_⟩
      have e60 : a.tmps[60]? = some (.bool true) := by rw [ha]; exact putSel_on (e := (13, 60, .bool true)) 13 rfl rfl (hon 13 (by kernel_rfl)) (by rw [hsz]; rfl)
      exact off_ (wanted_off rfl rfl rfl e60) (hK.out _ _ ⟨(by rw [ha]; exact putSel_upk 25 hb_ rfl rfl rfl), hI⟩)
    refine steps_cons ?_ ?_
    · rintro b a w' ⟨ha, hI⟩ hb_ hon hoff
      refine ⟨_, rfl, fun K hK => ?_⟩
      have e60 : a.tmps[60]? = some (.bool true) := by rw [ha]; exact putSel_on (e := (13, 60, .bool true)) 13 rfl rfl (hon 13 (by kernel_rfl)) (by rw [hsz]; rfl)
      exact off_ (wanted_off rfl rfl rfl e60) (hK.out _ _ ⟨(by rw [ha]; exact putSel_upk 26 hb_ rfl rfl rfl), hI⟩)
    refine steps_cons ?_ ?_
    · rintro b a w' ⟨ha, hI⟩ hb_ hon hoff
      refine ⟨_, rfl, fun K hK => ?_⟩
      have e60 : a.tmps[60]? = some (.bool true) := by rw [ha]; exact putSel_on (e := (13, 60, .bool true)) 13 rfl rfl (hon 13 (by kernel_rfl)) (by rw [hsz]; rfl)
      exact off_ (wanted_off rfl rfl rfl e60) (hK.out _ _ ⟨(by rw [ha]; exact putSel_upk 27 hb_ rfl rfl rfl), hI⟩)
    refine steps_cons ?_ ?_
    · rintro b a w' ⟨ha, hI⟩ hb_ hon hoff
      refine ⟨_, rfl, fun K hK => ?_⟩
      have e60 : a.tmps[60]? = some (.bool true) := by rw [ha]; exact putSel_on (e := (13, 60, .bool true)) 13 rfl rfl (hon 13 (by kernel_rfl)) (by rw [hsz]; rfl)
      have e74 : a.tmps[74]? = some (undef) := by rw [ha]; exact putSel_on (e := (27, 74, undef)) 27 rfl rfl (hon 27 (by kernel_rfl)) (by rw [hsz]; rfl)
      replace ha := Aside0.mk ha
      refine value_ (w1 := w') (v := .bool true) (by rfl) rfl ?_ ?_
      · go_simp; try rfl
        all_goals (try (simp only [IntKind.wrap_i64]; omega))
      exact hK.out _ _ ⟨(by rw [ha.out]; exact putSel_upk 28 hb_ rfl rfl rfl), hI⟩
    exact steps_nil
  rintro b a w1 hall ⟨ha, hI1⟩
  exact hend a w1 hI1 (by rw [ha]; simp only [putSel, if_true, hall 0 (by kernel_rfl), hall 1 (by kernel_rfl), hall 2 (by kernel_rfl), hall 3 (by kernel_rfl), hall 4 (by kernel_rfl), hall 5 (by kernel_rfl), hall 6 (by kernel_rfl), hall 7 (by kernel_rfl), hall 8 (by kernel_rfl), hall 9 (by kernel_rfl), hall 10 (by kernel_rfl), hall 11 (by kernel_rfl), hall 12 (by kernel_rfl), hall 13 (by kernel_rfl), hall 14 (by kernel_rfl), hall 15 (by kernel_rfl), hall 16 (by kernel_rfl), hall 17 (by kernel_rfl), hall 18 (by kernel_rfl), hall 19 (by kernel_rfl), hall 20 (by kernel_rfl), hall 21 (by kernel_rfl), hall 22 (by kernel_rfl), hall 23 (by kernel_rfl), hall 24 (by kernel_rfl), hall 25 (by kernel_rfl), hall 26 (by kernel_rfl), hall 27 (by kernel_rfl), hall 28 (by kernel_rfl)]) (by rw [ha]; exact (putSel_size b _ a0).2) (by rw [ha]; exact putSel_on (e := (28, 75, .bool true)) 28 rfl rfl (hall 28 (by kernel_rfl)) (by rw [hsz]; rfl))
end Go.Proofs.YtipmphgkdomebaaDoor
namespace Go.Proofs.YtipmphgkdomebaaDoor
open Go.RowKit Go.Proofs.YtipmphgkdomebaaDoorW.PrintWords Go.Proofs.YtipmphgkdomebaaDoorW.PrintLast
set_option linter.unusedVariables false
set_option linter.unusedSimpArgs false
def as21d.T : Bool × List (List Nat × List Nat) := (true, [([], []), ([0], [0]), ([], []), ([1, 2], [1, 2]), ([3], [3]), ([4], [4]), ([], []), ([6], [6]), ([], []), ([7, 8], [7, 8]), ([9], [9]), ([10], [10]), ([5, 11], [5, 11]), ([12], [12]), ([13], [13]), ([14, 13], [13, 14]), ([13], [13]), ([15, 16, 13], [13, 15, 16]), ([17, 13], [13, 17]), ([18, 13], [13, 18]), ([13], [13]), ([20, 13], [13, 20]), ([13], [13]), ([21, 22, 13], [13, 21, 22]), ([23, 13], [13, 23]), ([24, 13], [13, 24]), ([19, 25, 13, 13], [13, 19, 25]), ([26, 13], [13, 26]), ([13, 27], [13, 27])])
def as21d.B : List Nat := [0, 1, 0, 7, 15, 31, 0, 64, 0, 448, 960, 1984, 4095, 8191, 16383, 32767, 16383, 131071, 262143, 524287, 16383, 1064959, 16383, 7356415, 15745023, 32522239, 67108863, 134217727, 268435455]
theorem as21d.tab : rtab .any (opsOf Tryd.f21 6) = as21d.T := by kernel_rfl
theorem as21d.bits : waitsOk as21d.T.2 as21d.B = true := by kernel_rfl
set_option maxRecDepth 100000 in
set_option maxHeartbeats 4000000 in
theorem as21d (w0 : World) (y1 y2 l1 l2 u1 u2 v1 v2 : Int) (e1 e2 m1 m2 : ByteArray) (A1 A2 : Option Addr) (a1 a2 ca1 ca2 cv1 cv2 : Nat) (t1 t2 : ByteArray) (hq : (t1.toList == t2.toList) = true) (n i b1 o1 b2 o2 : Nat) (q1 : (0 : Int) ≤ (i : Int)) (q2 : (i : Int) < (n : Int)) (d10 : w0.cell? ⟨b1, o1 + i * 2, none⟩ = some (.string t1)) (d20 : w0.cell? ⟨b2, o2 + i * 2, none⟩ = some (.string t2)) (B1 B2 : Option Addr) (r1 r2 f1 f2 : Nat) (d11 : w0.cell? ⟨b1, o1 + i * 2 + 1, none⟩ = some (.slice B1 r1 f1)) (d21 : w0.cell? ⟨b2, o2 + i * 2 + 1, none⟩ = some (.slice B2 r2 f2)) (s : Bool) (cS : ∀ W, Below w0.heap.size w0 W → Calls Tryd.prog 47 #[.slice B1 r1 f1, .slice B2 r2 f2] W fun e w' => e = .returned (.bool s) ∧ Below W.heap.size W w') (a0 : Act) (s2 : a0.tmps[2]? = some (.pointer (some ⟨w0.heap.size, 0, none⟩))) (s3 : a0.tmps[3]? = some (.pointer (some ⟨w0.heap.size + 1, 0, none⟩))) (s5 : a0.tmps[5]? = some (.int .i64 (i : Int))) (hsz : a0.tmps.size = Tryd.f21.ntmps) (W : World) (hI : EnI w0 #[.int .i64 y1, .int .i64 l1, .string e1, .string m1, .slice A1 a1 ca1, .slice (some ⟨b1, o1, none⟩) n cv1, .int .i64 u1, .int .i64 v1] #[.int .i64 y2, .int .i64 l2, .string e2, .string m2, .slice A2 a2 ca2, .slice (some ⟨b2, o2, none⟩) n cv2, .int .i64 u2, .int .i64 v2] W.drew) (Q : Exit → Act → World → Prop) (hend : ∀ (a9 : Act) w', EnI w0 #[.int .i64 y1, .int .i64 l1, .string e1, .string m1, .slice A1 a1 ca1, .slice (some ⟨b1, o1, none⟩) n cv1, .int .i64 u1, .int .i64 v1] #[.int .i64 y2, .int .i64 l2, .string e2, .string m2, .slice A2 a2 ca2, .slice (some ⟨b2, o2, none⟩) n cv2, .int .i64 u2, .int .i64 v2] w' → a9 = putSel a0 (fun _ => true) [(0, 47, .pointer (some ⟨w0.heap.size, 5, none⟩)), (1, 48, .slice (some ⟨b1, o1, none⟩) n cv1), (2, 49, .int .i64 (i : Int)), (3, 50, .pointer (some ⟨b1, o1 + i * 2, none⟩)), (4, 51, .pointer (some ⟨b1, o1 + i * 2, none⟩)), (5, 52, .string t1), (6, 53, .pointer (some ⟨w0.heap.size + 1, 5, none⟩)), (7, 54, .slice (some ⟨b2, o2, none⟩) n cv2), (8, 55, .int .i64 (i : Int)), (9, 56, .pointer (some ⟨b2, o2 + i * 2, none⟩)), (10, 57, .pointer (some ⟨b2, o2 + i * 2, none⟩)), (11, 58, .string t2), (12, 59, .bool false), (13, 60, .bool false), (14, 61, .pointer (some ⟨w0.heap.size, 5, none⟩)), (15, 62, .slice (some ⟨b1, o1, none⟩) n cv1), (16, 63, .int .i64 (i : Int)), (17, 64, .pointer (some ⟨b1, o1 + i * 2, none⟩)), (18, 65, .pointer (some ⟨b1, o1 + i * 2 + 1, none⟩)), (19, 66, .slice B1 r1 f1), (20, 67, .pointer (some ⟨w0.heap.size + 1, 5, none⟩)), (21, 68, .slice (some ⟨b2, o2, none⟩) n cv2), (22, 69, .int .i64 (i : Int)), (23, 70, .pointer (some ⟨b2, o2 + i * 2, none⟩)), (24, 71, .pointer (some ⟨b2, o2 + i * 2 + 1, none⟩)), (25, 72, .slice B2 r2 f2), (26, 73, .bool s), (27, 74, .bool (!s)), (28, 75, .bool (!s))] → a9.defers = a0.defers → a9.tmps[75]? = some (.bool (!s)) → Q .normal a9 w') :
    (Code.region 6 #[{ dst := some 47, op := Op.fieldAddr 29 (Operand.tmp 2) 5, type := 0, pos := "law.go:279", after := #[], guard := none }, { dst := some 48, op := Op.load 27 (Operand.tmp 47), type := 27, pos := "law.go:279", after := #[{ on := 0, ground := Ground.data }], guard := none }, { dst := some 49, op := Op.move (Operand.tmp 5), type := 3, pos := "law.go:279", after := #[], guard := none }, { dst := some 50, op := Op.indexAddr 27 (Operand.tmp 48) (Operand.tmp 49), type := 0, pos := "law.go:279", after := #[{ on := 1, ground := Ground.data }, { on := 2, ground := Ground.data }], guard := none }, { dst := some 51, op := Op.fieldAddr 44 (Operand.tmp 50) 0, type := 0, pos := "law.go:279", after := #[{ on := 3, ground := Ground.data }], guard := none }, { dst := some 52, op := Op.load 9 (Operand.tmp 51), type := 9, pos := "law.go:279", after := #[{ on := 4, ground := Ground.data }], guard := none }, { dst := some 53, op := Op.fieldAddr 29 (Operand.tmp 3) 5, type := 0, pos := "law.go:279", after := #[], guard := none }, { dst := some 54, op := Op.load 27 (Operand.tmp 53), type := 27, pos := "law.go:279", after := #[{ on := 6, ground := Ground.data }], guard := none }, { dst := some 55, op := Op.move (Operand.tmp 5), type := 3, pos := "law.go:279", after := #[], guard := none }, { dst := some 56, op := Op.indexAddr 27 (Operand.tmp 54) (Operand.tmp 55), type := 0, pos := "law.go:279", after := #[{ on := 7, ground := Ground.data }, { on := 8, ground := Ground.data }], guard := none }, { dst := some 57, op := Op.fieldAddr 44 (Operand.tmp 56) 0, type := 0, pos := "law.go:279", after := #[{ on := 9, ground := Ground.data }], guard := none }, { dst := some 58, op := Op.load 9 (Operand.tmp 57), type := 9, pos := "law.go:279", after := #[{ on := 10, ground := Ground.data }], guard := none }, { dst := some 59, op := Op.binOp BinOp.neq 9 (Operand.tmp 52) (Operand.tmp 58) 9, type := 4, pos := "law.go:279", after := #[{ on := 5, ground := Ground.data }, { on := 11, ground := Ground.data }], guard := none }, { dst := some 60, op := Op.move (Operand.tmp 59), type := 4, pos := "law.go:279", after := #[{ on := 12, ground := Ground.data }], guard := none }, { dst := some 61, op := Op.fieldAddr 29 (Operand.tmp 2) 5, type := 0, pos := "law.go:279", after := #[{ on := 13, ground := Ground.guard }], guard := some (13, false) }, { dst := some 62, op := Op.load 27 (Operand.tmp 61), type := 27, pos := "law.go:279", after := #[{ on := 14, ground := Ground.data }, { on := 13, ground := Ground.guard }], guard := some (13, false) }, { dst := some 63, op := Op.move (Operand.tmp 5), type := 3, pos := "law.go:279", after := #[{ on := 13, ground := Ground.guard }], guard := some (13, false) }, { dst := some 64, op := Op.indexAddr 27 (Operand.tmp 62) (Operand.tmp 63), type := 0, pos := "law.go:279", after := #[{ on := 15, ground := Ground.data }, { on := 16, ground := Ground.data }, { on := 13, ground := Ground.guard }], guard := some (13, false) }, { dst := some 65, op := Op.fieldAddr 44 (Operand.tmp 64) 1, type := 0, pos := "law.go:279", after := #[{ on := 17, ground := Ground.data }, { on := 13, ground := Ground.guard }], guard := some (13, false) }, { dst := some 66, op := Op.load 26 (Operand.tmp 65), type := 26, pos := "law.go:279", after := #[{ on := 18, ground := Ground.data }, { on := 13, ground := Ground.guard }], guard := some (13, false) }, { dst := some 67, op := Op.fieldAddr 29 (Operand.tmp 3) 5, type := 0, pos := "law.go:279", after := #[{ on := 13, ground := Ground.guard }], guard := some (13, false) }, { dst := some 68, op := Op.load 27 (Operand.tmp 67), type := 27, pos := "law.go:279", after := #[{ on := 20, ground := Ground.data }, { on := 13, ground := Ground.guard }], guard := some (13, false) }, { dst := some 69, op := Op.move (Operand.tmp 5), type := 3, pos := "law.go:279", after := #[{ on := 13, ground := Ground.guard }], guard := some (13, false) }, { dst := some 70, op := Op.indexAddr 27 (Operand.tmp 68) (Operand.tmp 69), type := 0, pos := "law.go:279", after := #[{ on := 21, ground := Ground.data }, { on := 22, ground := Ground.data }, { on := 13, ground := Ground.guard }], guard := some (13, false) }, { dst := some 71, op := Op.fieldAddr 44 (Operand.tmp 70) 1, type := 0, pos := "law.go:279", after := #[{ on := 23, ground := Ground.data }, { on := 13, ground := Ground.guard }], guard := some (13, false) }, { dst := some 72, op := Op.load 26 (Operand.tmp 71), type := 26, pos := "law.go:279", after := #[{ on := 24, ground := Ground.data }, { on := 13, ground := Ground.guard }], guard := some (13, false) }, { dst := some 73, op := Op.call { callee := Callee.value (Operand.func 47), args := #[Operand.tmp 66, Operand.tmp 72], argTypes := #[26, 26] }, type := 4, pos := "law.go:279", after := #[{ on := 19, ground := Ground.data }, { on := 25, ground := Ground.data }, { on := 13, ground := Ground.chain }, { on := 13, ground := Ground.guard }], guard := some (13, false) }, { dst := some 74, op := Op.unOp UnOp.not 4 (Operand.tmp 73), type := 4, pos := "law.go:279", after := #[{ on := 26, ground := Ground.data }, { on := 13, ground := Ground.guard }], guard := some (13, false) }, { dst := some 75, op := Op.pick (Operand.tmp 60) (Operand.const (Value.bool true)) (Operand.tmp 74), type := 4, pos := "law.go:279", after := #[{ on := 13, ground := Ground.data }, { on := 27, ground := Ground.data }], guard := none }] true).wp Tryd.prog Q a0 W := by
  refine start_ (n := 29) (S := fun w' => True) (ds := []) #[false, false, false, false, false, false, false, false, false, false, false, false, false, false, false, false, false, false, false, false, false, false, false, false, false, false, false, false, false] (by kernel_rfl) rfl rfl trivial (fun hHeld => ?_)
  refine with_tabW as21d.tab as21d.bits (fun HT_ HW_ => ?_)
  refine inv_at [0, 1, 2, 3, 4, 5, 6, 7, 8, 9, 10, 11, 12, 13, 14, 15, 16, 17, 18, 19, 20, 21, 22, 23, 24, 25, 26, 27, 28] (fun a0_ b a w' => a = putSel a0_ b [(0, 47, .pointer (some ⟨w0.heap.size, 5, none⟩)), (1, 48, .slice (some ⟨b1, o1, none⟩) n cv1), (2, 49, .int .i64 (i : Int)), (3, 50, .pointer (some ⟨b1, o1 + i * 2, none⟩)), (4, 51, .pointer (some ⟨b1, o1 + i * 2, none⟩)), (5, 52, .string t1), (6, 53, .pointer (some ⟨w0.heap.size + 1, 5, none⟩)), (7, 54, .slice (some ⟨b2, o2, none⟩) n cv2), (8, 55, .int .i64 (i : Int)), (9, 56, .pointer (some ⟨b2, o2 + i * 2, none⟩)), (10, 57, .pointer (some ⟨b2, o2 + i * 2, none⟩)), (11, 58, .string t2), (12, 59, .bool false), (13, 60, .bool false), (14, 61, .pointer (some ⟨w0.heap.size, 5, none⟩)), (15, 62, .slice (some ⟨b1, o1, none⟩) n cv1), (16, 63, .int .i64 (i : Int)), (17, 64, .pointer (some ⟨b1, o1 + i * 2, none⟩)), (18, 65, .pointer (some ⟨b1, o1 + i * 2 + 1, none⟩)), (19, 66, .slice B1 r1 f1), (20, 67, .pointer (some ⟨w0.heap.size + 1, 5, none⟩)), (21, 68, .slice (some ⟨b2, o2, none⟩) n cv2), (22, 69, .int .i64 (i : Int)), (23, 70, .pointer (some ⟨b2, o2 + i * 2, none⟩)), (24, 71, .pointer (some ⟨b2, o2 + i * 2 + 1, none⟩)), (25, 72, .slice B2 r2 f2), (26, 73, .bool s), (27, 74, .bool (!s)), (28, 75, .bool (!s))] ∧ (EnI w0 #[.int .i64 y1, .int .i64 l1, .string e1, .string m1, .slice A1 a1 ca1, .slice (some ⟨b1, o1, none⟩) n cv1, .int .i64 u1, .int .i64 v1] #[.int .i64 y2, .int .i64 l2, .string e2, .string m2, .slice A2 a2 ca2, .slice (some ⟨b2, o2, none⟩) n cv2, .int .i64 u2, .int .i64 v2] w')) HT_.out HW_.out (by kernel_rfl) (by kernel_rfl) ?_ ?_ ?_
  · exact ⟨(by simp only [putSel, Bool.false_eq_true, if_false]), hI⟩
  · clear hI hend hHeld
    refine steps_cons ?_ ?_
    · rintro b a w' ⟨ha, hI⟩ hb_ hon hoff
      refine ⟨_, rfl, fun K hK => ?_⟩
      have e2 : a.tmps[2]? = some (.pointer (some ⟨w0.heap.size, 0, none⟩)) := by rw [ha]; exact (putSel_off rfl).trans s2
      replace ha := Aside0.mk ha
      refine value_ (w1 := w') (v := .pointer (some ⟨w0.heap.size, 5, none⟩)) (by rfl) rfl ?_ ?_
      · go_simp; try rfl
        all_goals (try (simp only [IntKind.wrap_i64]; omega))
      exact hK.out _ _ ⟨(by rw [ha.out]; exact putSel_upk 0 hb_ rfl rfl rfl), hI⟩
    refine steps_cons ?_ ?_
    · rintro b a w' ⟨ha, hI⟩ hb_ hon hoff
      refine ⟨_, rfl, fun K hK => ?_⟩
      have e47 : a.tmps[47]? = some (.pointer (some ⟨w0.heap.size, 5, none⟩)) := by rw [ha]; exact putSel_on (e := (0, 47, .pointer (some ⟨w0.heap.size, 5, none⟩))) 0 rfl rfl (hon 0 (by kernel_rfl)) (by rw [hsz]; rfl)
      replace ha := Aside0.mk ha
      have m0 := Own.c hI 1 5 rfl rfl
      refine value_ (w1 := w') (v := .slice (some ⟨b1, o1, none⟩) n cv1) (by rfl) rfl ?_ ?_
      · go_simp; try rfl
        all_goals (try (simp only [IntKind.wrap_i64]; omega))
      exact hK.out _ _ ⟨(by rw [ha.out]; exact putSel_upk 1 hb_ rfl rfl rfl), hI⟩
    refine steps_cons ?_ ?_
    · rintro b a w' ⟨ha, hI⟩ hb_ hon hoff
      refine ⟨_, rfl, fun K hK => ?_⟩
      have e5 : a.tmps[5]? = some (.int .i64 (i : Int)) := by rw [ha]; exact (putSel_off rfl).trans s5
      replace ha := Aside0.mk ha
      refine value_ (w1 := w') (v := .int .i64 (i : Int)) (by rfl) rfl ?_ ?_
      · go_simp; try rfl
        all_goals (try (simp only [IntKind.wrap_i64]; omega))
      exact hK.out _ _ ⟨(by rw [ha.out]; exact putSel_upk 2 hb_ rfl rfl rfl), hI⟩
    refine steps_cons ?_ ?_
    · rintro b a w' ⟨ha, hI⟩ hb_ hon hoff
      refine ⟨_, rfl, fun K hK => ?_⟩
      have e48 : a.tmps[48]? = some (.slice (some ⟨b1, o1, none⟩) n cv1) := by rw [ha]; exact putSel_on (e := (1, 48, .slice (some ⟨b1, o1, none⟩) n cv1)) 1 rfl rfl (hon 1 (by kernel_rfl)) (by rw [hsz]; rfl)
      have e49 : a.tmps[49]? = some (.int .i64 (i : Int)) := by rw [ha]; exact putSel_on (e := (2, 49, .int .i64 (i : Int))) 2 rfl rfl (hon 2 (by kernel_rfl)) (by rw [hsz]; rfl)
      replace ha := Aside0.mk ha
      refine value_ (w1 := w') (v := .pointer (some ⟨b1, o1 + i * 2, none⟩)) (by rfl) rfl ?_ ?_
      · go_simp; try rfl
        all_goals (try (simp only [IntKind.wrap_i64]; omega))
      exact hK.out _ _ ⟨(by rw [ha.out]; exact putSel_upk 3 hb_ rfl rfl rfl), hI⟩
    refine steps_cons ?_ ?_
    · rintro b a w' ⟨ha, hI⟩ hb_ hon hoff
      refine ⟨_, rfl, fun K hK => ?_⟩
      have e50 : a.tmps[50]? = some (.pointer (some ⟨b1, o1 + i * 2, none⟩)) := by rw [ha]; exact putSel_on (e := (3, 50, .pointer (some ⟨b1, o1 + i * 2, none⟩))) 3 rfl rfl (hon 3 (by kernel_rfl)) (by rw [hsz]; rfl)
      replace ha := Aside0.mk ha
      refine value_ (w1 := w') (v := .pointer (some ⟨b1, o1 + i * 2, none⟩)) (by rfl) rfl ?_ ?_
      · go_simp; try rfl
        all_goals (try (simp only [IntKind.wrap_i64]; omega))
      exact hK.out _ _ ⟨(by rw [ha.out]; exact putSel_upk 4 hb_ rfl rfl rfl), hI⟩
    refine steps_cons ?_ ?_
    · rintro b a w' ⟨ha, hI⟩ hb_ hon hoff
      refine ⟨_, rfl, fun K hK => ?_⟩
      have e51 : a.tmps[51]? = some (.pointer (some ⟨b1, o1 + i * 2, none⟩)) := by rw [ha]; exact putSel_on (e := (4, 51, .pointer (some ⟨b1, o1 + i * 2, none⟩))) 4 rfl rfl (hon 4 (by kernel_rfl)) (by rw [hsz]; rfl)
      replace ha := Aside0.mk ha
      have m0 := Kept.of (Own.bel hI) _ _ _ d10
      refine value_ (w1 := w') (v := .string t1) (by rfl) rfl ?_ ?_
      · go_simp; try rfl
        all_goals (try (simp only [IntKind.wrap_i64]; omega))
      exact hK.out _ _ ⟨(by rw [ha.out]; exact putSel_upk 5 hb_ rfl rfl rfl), hI⟩
    refine steps_cons ?_ ?_
    · rintro b a w' ⟨ha, hI⟩ hb_ hon hoff
      refine ⟨_, rfl, fun K hK => ?_⟩
      have e3 : a.tmps[3]? = some (.pointer (some ⟨w0.heap.size + 1, 0, none⟩)) := by rw [ha]; exact (putSel_off rfl).trans s3
      replace ha := Aside0.mk ha
      refine value_ (w1 := w') (v := .pointer (some ⟨w0.heap.size + 1, 5, none⟩)) (by rfl) rfl ?_ ?_
      · go_simp; try rfl
        all_goals (try (simp only [IntKind.wrap_i64]; omega))
      exact hK.out _ _ ⟨(by rw [ha.out]; exact putSel_upk 6 hb_ rfl rfl rfl), hI⟩
    refine steps_cons ?_ ?_
    · rintro b a w' ⟨ha, hI⟩ hb_ hon hoff
      refine ⟨_, rfl, fun K hK => ?_⟩
      have e53 : a.tmps[53]? = some (.pointer (some ⟨w0.heap.size + 1, 5, none⟩)) := by rw [ha]; exact putSel_on (e := (6, 53, .pointer (some ⟨w0.heap.size + 1, 5, none⟩))) 6 rfl rfl (hon 6 (by kernel_rfl)) (by rw [hsz]; rfl)
      replace ha := Aside0.mk ha
      have m0 := Own.c hI 0 5 rfl rfl
      refine value_ (w1 := w') (v := .slice (some ⟨b2, o2, none⟩) n cv2) (by rfl) rfl ?_ ?_
      · go_simp; try rfl
        all_goals (try (simp only [IntKind.wrap_i64]; omega))
      exact hK.out _ _ ⟨(by rw [ha.out]; exact putSel_upk 7 hb_ rfl rfl rfl), hI⟩
    refine steps_cons ?_ ?_
    · rintro b a w' ⟨ha, hI⟩ hb_ hon hoff
      refine ⟨_, rfl, fun K hK => ?_⟩
      have e5 : a.tmps[5]? = some (.int .i64 (i : Int)) := by rw [ha]; exact (putSel_off rfl).trans s5
      replace ha := Aside0.mk ha
      refine value_ (w1 := w') (v := .int .i64 (i : Int)) (by rfl) rfl ?_ ?_
      · go_simp; try rfl
        all_goals (try (simp only [IntKind.wrap_i64]; omega))
      exact hK.out _ _ ⟨(by rw [ha.out]; exact putSel_upk 8 hb_ rfl rfl rfl), hI⟩
    refine steps_cons ?_ ?_
    · rintro b a w' ⟨ha, hI⟩ hb_ hon hoff
      refine ⟨_, rfl, fun K hK => ?_⟩
      have e54 : a.tmps[54]? = some (.slice (some ⟨b2, o2, none⟩) n cv2) := by rw [ha]; exact putSel_on (e := (7, 54, .slice (some ⟨b2, o2, none⟩) n cv2)) 7 rfl rfl (hon 7 (by kernel_rfl)) (by rw [hsz]; rfl)
      have e55 : a.tmps[55]? = some (.int .i64 (i : Int)) := by rw [ha]; exact putSel_on (e := (8, 55, .int .i64 (i : Int))) 8 rfl rfl (hon 8 (by kernel_rfl)) (by rw [hsz]; rfl)
      replace ha := Aside0.mk ha
      refine value_ (w1 := w') (v := .pointer (some ⟨b2, o2 + i * 2, none⟩)) (by rfl) rfl ?_ ?_
      · go_simp; try rfl
        all_goals (try (simp only [IntKind.wrap_i64]; omega))
      exact hK.out _ _ ⟨(by rw [ha.out]; exact putSel_upk 9 hb_ rfl rfl rfl), hI⟩
    refine steps_cons ?_ ?_
    · rintro b a w' ⟨ha, hI⟩ hb_ hon hoff
      refine ⟨_, rfl, fun K hK => ?_⟩
      have e56 : a.tmps[56]? = some (.pointer (some ⟨b2, o2 + i * 2, none⟩)) := by rw [ha]; exact putSel_on (e := (9, 56, .pointer (some ⟨b2, o2 + i * 2, none⟩))) 9 rfl rfl (hon 9 (by kernel_rfl)) (by rw [hsz]; rfl)
      replace ha := Aside0.mk ha
      refine value_ (w1 := w') (v := .pointer (some ⟨b2, o2 + i * 2, none⟩)) (by rfl) rfl ?_ ?_
      · go_simp; try rfl
        all_goals (try (simp only [IntKind.wrap_i64]; omega))
      exact hK.out _ _ ⟨(by rw [ha.out]; exact putSel_upk 10 hb_ rfl rfl rfl), hI⟩
    refine steps_cons ?_ ?_
    · rintro b a w' ⟨ha, hI⟩ hb_ hon hoff
      refine ⟨_, rfl, fun K hK => ?_⟩
      have e57 : a.tmps[57]? = some (.pointer (some ⟨b2, o2 + i * 2, none⟩)) := by rw [ha]; exact putSel_on (e := (10, 57, .pointer (some ⟨b2, o2 + i * 2, none⟩))) 10 rfl rfl (hon 10 (by kernel_rfl)) (by rw [hsz]; rfl)
      replace ha := Aside0.mk ha
      have m0 := Kept.of (Own.bel hI) _ _ _ d20
      refine value_ (w1 := w') (v := .string t2) (by rfl) rfl ?_ ?_
      · go_simp; try rfl
        all_goals (try (simp only [IntKind.wrap_i64]; omega))
      exact hK.out _ _ ⟨(by rw [ha.out]; exact putSel_upk 11 hb_ rfl rfl rfl), hI⟩
    refine steps_cons ?_ ?_
    · rintro b a w' ⟨ha, hI⟩ hb_ hon hoff
      refine ⟨_, rfl, fun K hK => ?_⟩
      have e52 : a.tmps[52]? = some (.string t1) := by rw [ha]; exact putSel_on (e := (5, 52, .string t1)) 5 rfl rfl (hon 5 (by kernel_rfl)) (by rw [hsz]; rfl)
      have e58 : a.tmps[58]? = some (.string t2) := by rw [ha]; exact putSel_on (e := (11, 58, .string t2)) 11 rfl rfl (hon 11 (by kernel_rfl)) (by rw [hsz]; rfl)
      replace ha := Aside0.mk ha
      refine value_ (w1 := w') (v := .bool false) (by rfl) rfl ?_ ?_
      · go_simp; try rfl
        all_goals (try (simp only [IntKind.wrap_i64]; omega))
      exact hK.out _ _ ⟨(by rw [ha.out]; exact putSel_upk 12 hb_ rfl rfl rfl), hI⟩
    refine steps_cons ?_ ?_
    · rintro b a w' ⟨ha, hI⟩ hb_ hon hoff
      refine ⟨_, rfl, fun K hK => ?_⟩
      have e59 : a.tmps[59]? = some (.bool false) := by rw [ha]; exact putSel_on (e := (12, 59, .bool false)) 12 rfl rfl (hon 12 (by kernel_rfl)) (by rw [hsz]; rfl)
      replace ha := Aside0.mk ha
      refine value_ (w1 := w') (v := .bool false) (by rfl) rfl ?_ ?_
      · go_simp; try rfl
        all_goals (try (simp only [IntKind.wrap_i64]; omega))
      exact hK.out _ _ ⟨(by rw [ha.out]; exact putSel_upk 13 hb_ rfl rfl rfl), hI⟩
    refine steps_cons ?_ ?_
    · rintro b a w' ⟨ha, hI⟩ hb_ hon hoff
      refine ⟨_, rfl, fun K hK => ?_⟩
      have e2 : a.tmps[2]? = some (.pointer (some ⟨w0.heap.size, 0, none⟩)) := by rw [ha]; exact (putSel_off rfl).trans s2
      have e60 : a.tmps[60]? = some (.bool false) := by rw [ha]; exact putSel_on (e := (13, 60, .bool false)) 13 rfl rfl (hon 13 (by kernel_rfl)) (by rw [hsz]; rfl)
      replace ha := Aside0.mk ha
      refine value_ (w1 := w') (v := .pointer (some ⟨w0.heap.size, 5, none⟩)) (wanted_on rfl rfl rfl e60) rfl ?_ ?_
      · go_simp; try rfl
        all_goals (try (simp only [IntKind.wrap_i64]; omega))
      exact hK.out _ _ ⟨(by rw [ha.out]; exact putSel_upk 14 hb_ rfl rfl rfl), hI⟩
    refine steps_cons ?_ ?_
    · rintro b a w' ⟨ha, hI⟩ hb_ hon hoff
      refine ⟨_, rfl, fun K hK => ?_⟩
      have e61 : a.tmps[61]? = some (.pointer (some ⟨w0.heap.size, 5, none⟩)) := by rw [ha]; exact putSel_on (e := (14, 61, .pointer (some ⟨w0.heap.size, 5, none⟩))) 14 rfl rfl (hon 14 (by kernel_rfl)) (by rw [hsz]; rfl)
      have e60 : a.tmps[60]? = some (.bool false) := by rw [ha]; exact putSel_on (e := (13, 60, .bool false)) 13 rfl rfl (hon 13 (by kernel_rfl)) (by rw [hsz]; rfl)
      replace ha := Aside0.mk ha
      have m0 := Own.c hI 1 5 rfl rfl
      refine value_ (w1 := w') (v := .slice (some ⟨b1, o1, none⟩) n cv1) (wanted_on rfl rfl rfl e60) rfl ?_ ?_
      · go_simp; try rfl
        all_goals (try (simp only [IntKind.wrap_i64]; omega))
      exact hK.out _ _ ⟨(by rw [ha.out]; exact putSel_upk 15 hb_ rfl rfl rfl), hI⟩
    refine steps_cons ?_ ?_
    · rintro b a w' ⟨ha, hI⟩ hb_ hon hoff
      refine ⟨_, rfl, fun K hK => ?_⟩
      have e5 : a.tmps[5]? = some (.int .i64 (i : Int)) := by rw [ha]; exact (putSel_off rfl).trans s5
      have e60 : a.tmps[60]? = some (.bool false) := by rw [ha]; exact putSel_on (e := (13, 60, .bool false)) 13 rfl rfl (hon 13 (by kernel_rfl)) (by rw [hsz]; rfl)
      replace ha := Aside0.mk ha
      refine value_ (w1 := w') (v := .int .i64 (i : Int)) (wanted_on rfl rfl rfl e60) rfl ?_ ?_
      · go_simp; try rfl
        all_goals (try (simp only [IntKind.wrap_i64]; omega))
      exact hK.out _ _ ⟨(by rw [ha.out]; exact putSel_upk 16 hb_ rfl rfl rfl), hI⟩
    refine steps_cons ?_ ?_
    · rintro b a w' ⟨ha, hI⟩ hb_ hon hoff
      refine ⟨_, rfl, fun K hK => ?_⟩
      have e62 : a.tmps[62]? = some (.slice (some ⟨b1, o1, none⟩) n cv1) := by rw [ha]; exact putSel_on (e := (15, 62, .slice (some ⟨b1, o1, none⟩) n cv1)) 15 rfl rfl (hon 15 (by kernel_rfl)) (by rw [hsz]; rfl)
      have e63 : a.tmps[63]? = some (.int .i64 (i : Int)) := by rw [ha]; exact putSel_on (e := (16, 63, .int .i64 (i : Int))) 16 rfl rfl (hon 16 (by kernel_rfl)) (by rw [hsz]; rfl)
      have e60 : a.tmps[60]? = some (.bool false) := by rw [ha]; exact putSel_on (e := (13, 60, .bool false)) 13 rfl rfl (hon 13 (by kernel_rfl)) (by rw [hsz]; rfl)
      replace ha := Aside0.mk ha
      refine value_ (w1 := w') (v := .pointer (some ⟨b1, o1 + i * 2, none⟩)) (wanted_on rfl rfl rfl e60) rfl ?_ ?_
      · go_simp; try rfl
        all_goals (try (simp only [IntKind.wrap_i64]; omega))
      exact hK.out _ _ ⟨(by rw [ha.out]; exact putSel_upk 17 hb_ rfl rfl rfl), hI⟩
    refine steps_cons ?_ ?_
    · rintro b a w' ⟨ha, hI⟩ hb_ hon hoff
      refine ⟨_, rfl, fun K hK => ?_⟩
      have e64 : a.tmps[64]? = some (.pointer (some ⟨b1, o1 + i * 2, none⟩)) := by rw [ha]; exact putSel_on (e := (17, 64, .pointer (some ⟨b1, o1 + i * 2, none⟩))) 17 rfl rfl (hon 17 (by kernel_rfl)) (by rw [hsz]; rfl)
      have e60 : a.tmps[60]? = some (.bool false) := by rw [ha]; exact putSel_on (e := (13, 60, .bool false)) 13 rfl rfl (hon 13 (by kernel_rfl)) (by rw [hsz]; rfl)
      replace ha := Aside0.mk ha
      refine value_ (w1 := w') (v := .pointer (some ⟨b1, o1 + i * 2 + 1, none⟩)) (wanted_on rfl rfl rfl e60) rfl ?_ ?_
      · go_simp; try rfl
        all_goals (try (simp only [IntKind.wrap_i64]; omega))
      exact hK.out _ _ ⟨(by rw [ha.out]; exact putSel_upk 18 hb_ rfl rfl rfl), hI⟩
    refine steps_cons ?_ ?_
    · rintro b a w' ⟨ha, hI⟩ hb_ hon hoff
      refine ⟨_, rfl, fun K hK => ?_⟩
      have e65 : a.tmps[65]? = some (.pointer (some ⟨b1, o1 + i * 2 + 1, none⟩)) := by rw [ha]; exact putSel_on (e := (18, 65, .pointer (some ⟨b1, o1 + i * 2 + 1, none⟩))) 18 rfl rfl (hon 18 (by kernel_rfl)) (by rw [hsz]; rfl)
      have e60 : a.tmps[60]? = some (.bool false) := by rw [ha]; exact putSel_on (e := (13, 60, .bool false)) 13 rfl rfl (hon 13 (by kernel_rfl)) (by rw [hsz]; rfl)
      replace ha := Aside0.mk ha
      have m0 := Kept.of (Own.bel hI) _ _ _ d11
      refine value_ (w1 := w') (v := .slice B1 r1 f1) (wanted_on rfl rfl rfl e60) rfl ?_ ?_
      · go_simp; try rfl
        all_goals (try (simp only [IntKind.wrap_i64]; omega))
      exact hK.out _ _ ⟨(by rw [ha.out]; exact putSel_upk 19 hb_ rfl rfl rfl), hI⟩
    refine steps_cons ?_ ?_
    · rintro b a w' ⟨ha, hI⟩ hb_ hon hoff
      refine ⟨_, rfl, fun K hK => ?_⟩
      have e3 : a.tmps[3]? = some (.pointer (some ⟨w0.heap.size + 1, 0, none⟩)) := by rw [ha]; exact (putSel_off rfl).trans s3
      have e60 : a.tmps[60]? = some (.bool false) := by rw [ha]; exact putSel_on (e := (13, 60, .bool false)) 13 rfl rfl (hon 13 (by kernel_rfl)) (by rw [hsz]; rfl)
      replace ha := Aside0.mk ha
      refine value_ (w1 := w') (v := .pointer (some ⟨w0.heap.size + 1, 5, none⟩)) (wanted_on rfl rfl rfl e60) rfl ?_ ?_
      · go_simp; try rfl
        all_goals (try (simp only [IntKind.wrap_i64]; omega))
      exact hK.out _ _ ⟨(by rw [ha.out]; exact putSel_upk 20 hb_ rfl rfl rfl), hI⟩
    refine steps_cons ?_ ?_
    · rintro b a w' ⟨ha, hI⟩ hb_ hon hoff
      refine ⟨_, rfl, fun K hK => ?_⟩
      have e67 : a.tmps[67]? = some (.pointer (some ⟨w0.heap.size + 1, 5, none⟩)) := by rw [ha]; exact putSel_on (e := (20, 67, .pointer (some ⟨w0.heap.size + 1, 5, none⟩))) 20 rfl rfl (hon 20 (by kernel_rfl)) (by rw [hsz]; rfl)
      have e60 : a.tmps[60]? = some (.bool false) := by rw [ha]; exact putSel_on (e := (13, 60, .bool false)) 13 rfl rfl (hon 13 (by kernel_rfl)) (by rw [hsz]; rfl)
      replace ha := Aside0.mk ha
      have m0 := Own.c hI 0 5 rfl rfl
      refine value_ (w1 := w') (v := .slice (some ⟨b2, o2, none⟩) n cv2) (wanted_on rfl rfl rfl e60) rfl ?_ ?_
      · go_simp; try rfl
        all_goals (try (simp only [IntKind.wrap_i64]; omega))
      exact hK.out _ _ ⟨(by rw [ha.out]; exact putSel_upk 21 hb_ rfl rfl rfl), hI⟩
    refine steps_cons ?_ ?_
    · rintro b a w' ⟨ha, hI⟩ hb_ hon hoff
      refine ⟨_, rfl, fun K hK => ?_⟩
      have e5 : a.tmps[5]? = some (.int .i64 (i : Int)) := by rw [ha]; exact (putSel_off rfl).trans s5
      have e60 : a.tmps[60]? = some (.bool false) := by rw [ha]; exact putSel_on (e := (13, 60, .bool false)) 13 rfl rfl (hon 13 (by kernel_rfl)) (by rw [hsz]; rfl)
      replace ha := Aside0.mk ha
      refine value_ (w1 := w') (v := .int .i64 (i : Int)) (wanted_on rfl rfl rfl e60) rfl ?_ ?_
      · go_simp; try rfl
        all_goals (try (simp only [IntKind.wrap_i64]; omega))
      exact hK.out _ _ ⟨(by rw [ha.out]; exact putSel_upk 22 hb_ rfl rfl rfl), hI⟩
    refine steps_cons ?_ ?_
    · rintro b a w' ⟨ha, hI⟩ hb_ hon hoff
      refine ⟨_, rfl, fun K hK => ?_⟩
      have e68 : a.tmps[68]? = some (.slice (some ⟨b2, o2, none⟩) n cv2) := by rw [ha]; exact putSel_on (e := (21, 68, .slice (some ⟨b2, o2, none⟩) n cv2)) 21 rfl rfl (hon 21 (by kernel_rfl)) (by rw [hsz]; rfl)
      have e69 : a.tmps[69]? = some (.int .i64 (i : Int)) := by rw [ha]; exact putSel_on (e := (22, 69, .int .i64 (i : Int))) 22 rfl rfl (hon 22 (by kernel_rfl)) (by rw [hsz]; rfl)
      have e60 : a.tmps[60]? = some (.bool false) := by rw [ha]; exact putSel_on (e := (13, 60, .bool false)) 13 rfl rfl (hon 13 (by kernel_rfl)) (by rw [hsz]; rfl)
      replace ha := Aside0.mk ha
      refine value_ (w1 := w') (v := .pointer (some ⟨b2, o2 + i * 2, none⟩)) (wanted_on rfl rfl rfl e60) rfl ?_ ?_
      · go_simp; try rfl
        all_goals (try (simp only [IntKind.wrap_i64]; omega))
      exact hK.out _ _ ⟨(by rw [ha.out]; exact putSel_upk 23 hb_ rfl rfl rfl), hI⟩
    refine steps_cons ?_ ?_
    · rintro b a w' ⟨ha, hI⟩ hb_ hon hoff
      refine ⟨_, rfl, fun K hK => ?_⟩
      have e70 : a.tmps[70]? = some (.pointer (some ⟨b2, o2 + i * 2, none⟩)) := by rw [ha]; exact putSel_on (e := (23, 70, .pointer (some ⟨b2, o2 + i * 2, none⟩))) 23 rfl rfl (hon 23 (by kernel_rfl)) (by rw [hsz]; rfl)
      have e60 : a.tmps[60]? = some (.bool false) := by rw [ha]; exact putSel_on (e := (13, 60, .bool false)) 13 rfl rfl (hon 13 (by kernel_rfl)) (by rw [hsz]; rfl)
      replace ha := Aside0.mk ha
      refine value_ (w1 := w') (v := .pointer (some ⟨b2, o2 + i * 2 + 1, none⟩)) (wanted_on rfl rfl rfl e60) rfl ?_ ?_
      · go_simp; try rfl
        all_goals (try (simp only [IntKind.wrap_i64]; omega))
      exact hK.out _ _ ⟨(by rw [ha.out]; exact putSel_upk 24 hb_ rfl rfl rfl), hI⟩
    refine steps_cons ?_ ?_
    · rintro b a w' ⟨ha, hI⟩ hb_ hon hoff
      refine ⟨_, rfl, fun K hK => ?_⟩
      have e71 : a.tmps[71]? = some (.pointer (some ⟨b2, o2 + i * 2 + 1, none⟩)) := by rw [ha]; exact putSel_on (e := (24, 71, .pointer (some ⟨b2, o2 + i * 2 + 1, none⟩))) 24 rfl rfl (hon 24 (by kernel_rfl)) (by rw [hsz]; rfl)
      have e60 : a.tmps[60]? = some (.bool false) := by rw [ha]; exact putSel_on (e := (13, 60, .bool false)) 13 rfl rfl (hon 13 (by kernel_rfl)) (by rw [hsz]; rfl)
      replace ha := Aside0.mk ha
      have m0 := Kept.of (Own.bel hI) _ _ _ d21
      refine value_ (w1 := w') (v := .slice B2 r2 f2) (wanted_on rfl rfl rfl e60) rfl ?_ ?_
      · go_simp; try rfl
        all_goals (try (simp only [IntKind.wrap_i64]; omega))
      exact hK.out _ _ ⟨(by rw [ha.out]; exact putSel_upk 25 hb_ rfl rfl rfl), hI⟩
    refine steps_cons ?_ ?_
    · rintro b a w' ⟨ha, hI⟩ hb_ hon hoff
      refine ⟨_, rfl, fun K hK => ?_⟩
      have e66 : a.tmps[66]? = some (.slice B1 r1 f1) := by rw [ha]; exact putSel_on (e := (19, 66, .slice B1 r1 f1)) 19 rfl rfl (hon 19 (by kernel_rfl)) (by rw [hsz]; rfl)
      have e72 : a.tmps[72]? = some (.slice B2 r2 f2) := by rw [ha]; exact putSel_on (e := (25, 72, .slice B2 r2 f2)) 25 rfl rfl (hon 25 (by kernel_rfl)) (by rw [hsz]; rfl)
      have e60 : a.tmps[60]? = some (.bool false) := by rw [ha]; exact putSel_on (e := (13, 60, .bool false)) 13 rfl rfl (hon 13 (by kernel_rfl)) (by rw [hsz]; rfl)
      replace ha := Aside0.mk ha
      refine goes_ Tryd.func47 (by kernel_rfl) rfl #[.slice B1 r1 f1, .slice B2 r2 f2] (wanted_on rfl rfl rfl e60) rfl rfl (by first | (simp only [List.map_toArray, List.map_cons, List.map_nil, Act.eval, Array.getD_eq_getD_getElem?, Option.getD_some, e66, e72]; done) | (simp only [List.map_toArray, List.map_cons, List.map_nil, Act.eval, Array.getD_eq_getD_getElem?, Option.getD_some, e66, e72]; rfl)) ?_
      refine (cS w' (Own.bel hI)).mono ?_
      rintro e w1 ⟨rfl, b1⟩; have hI1 := EnI.step hI b1
      exact ⟨_, rfl, hK.out _ _ ⟨(by rw [ha.out]; exact putSel_upk 26 hb_ rfl rfl rfl), hI1⟩⟩
    refine steps_cons ?_ ?_
    · rintro b a w' ⟨ha, hI⟩ hb_ hon hoff
      refine ⟨_, rfl, fun K hK => ?_⟩
      have e73 : a.tmps[73]? = some (.bool s) := by rw [ha]; exact putSel_on (e := (26, 73, .bool s)) 26 rfl rfl (hon 26 (by kernel_rfl)) (by rw [hsz]; rfl)
      have e60 : a.tmps[60]? = some (.bool false) := by rw [ha]; exact putSel_on (e := (13, 60, .bool false)) 13 rfl rfl (hon 13 (by kernel_rfl)) (by rw [hsz]; rfl)
      replace ha := Aside0.mk ha
      refine value_ (w1 := w') (v := .bool (!s)) (wanted_on rfl rfl rfl e60) rfl ?_ ?_
      · go_simp; try rfl
        all_goals (try (simp only [IntKind.wrap_i64]; omega))
      exact hK.out _ _ ⟨(by rw [ha.out]; exact putSel_upk 27 hb_ rfl rfl rfl), hI⟩
    refine steps_cons ?_ ?_
    · rintro b a w' ⟨ha, hI⟩ hb_ hon hoff
      refine ⟨_, rfl, fun K hK => ?_⟩
      have e60 : a.tmps[60]? = some (.bool false) := by rw [ha]; exact putSel_on (e := (13, 60, .bool false)) 13 rfl rfl (hon 13 (by kernel_rfl)) (by rw [hsz]; rfl)
      have e74 : a.tmps[74]? = some (.bool (!s)) := by rw [ha]; exact putSel_on (e := (27, 74, .bool (!s))) 27 rfl rfl (hon 27 (by kernel_rfl)) (by rw [hsz]; rfl)
      replace ha := Aside0.mk ha
      refine value_ (w1 := w') (v := .bool (!s)) (by rfl) rfl ?_ ?_
      · go_simp; try rfl
        all_goals (try (simp only [IntKind.wrap_i64]; omega))
      exact hK.out _ _ ⟨(by rw [ha.out]; exact putSel_upk 28 hb_ rfl rfl rfl), hI⟩
    exact steps_nil
  rintro b a w1 hall ⟨ha, hI1⟩
  exact hend a w1 hI1 (by rw [ha]; simp only [putSel, if_true, hall 0 (by kernel_rfl), hall 1 (by kernel_rfl), hall 2 (by kernel_rfl), hall 3 (by kernel_rfl), hall 4 (by kernel_rfl), hall 5 (by kernel_rfl), hall 6 (by kernel_rfl), hall 7 (by kernel_rfl), hall 8 (by kernel_rfl), hall 9 (by kernel_rfl), hall 10 (by kernel_rfl), hall 11 (by kernel_rfl), hall 12 (by kernel_rfl), hall 13 (by kernel_rfl), hall 14 (by kernel_rfl), hall 15 (by kernel_rfl), hall 16 (by kernel_rfl), hall 17 (by kernel_rfl), hall 18 (by kernel_rfl), hall 19 (by kernel_rfl), hall 20 (by kernel_rfl), hall 21 (by kernel_rfl), hall 22 (by kernel_rfl), hall 23 (by kernel_rfl), hall 24 (by kernel_rfl), hall 25 (by kernel_rfl), hall 26 (by kernel_rfl), hall 27 (by kernel_rfl), hall 28 (by kernel_rfl)]) (by rw [ha]; exact (putSel_size b _ a0).2) (by rw [ha]; exact putSel_on (e := (28, 75, .bool (!s))) 28 rfl rfl (hall 28 (by kernel_rfl)) (by rw [hsz]; rfl))
end Go.Proofs.YtipmphgkdomebaaDoor
namespace Go.Proofs.YtipmphgkdomebaaDoor
open Go.RowKit Go.Proofs.YtipmphgkdomebaaDoorW.PrintWords Go.Proofs.YtipmphgkdomebaaDoorW.PrintLast
set_option linter.unusedVariables false
set_option linter.unusedSimpArgs false
structure EN where
  ty : Int
  lv : Int
  text : ByteArray
  name : ByteArray
  nv : Nat
  vt : Nat → ByteArray
  vp : Nat → EX
  na : Nat
  an : Nat → ByteArray
  ae : Nat → Nat
  at_ : Nat → Nat → ByteArray
  ap : Nat → Nat → EX
  fr : Int
  ti : Int
structure EN.R (w : World) (e : EN) (A : Option Addr) (ca : Nat) (B : Option Addr) (cb : Nat) : Prop where
  lv : e.nv ≤ ca
  la : e.na ≤ cb
  val : Elems w A e.nv e.vt e.vp
  att : Attrs w B e.na e.an e.ae e.at_ e.ap
theorem EN.R.keep {w W : World} (k : Kept w W) {e : EN} {A B : Option Addr} {ca cb : Nat} (h : e.R w A ca B cb) : e.R W A ca B cb := ⟨h.lv, h.la, h.val.keep k, h.att.keep k⟩
structure EN.Fin (e : EN) : Prop where
  tx : e.text.size ≤ 281474976710656
  nm : e.name.size ≤ 281474976710656
  nv : e.nv ≤ 281474976710656
  na : e.na ≤ 281474976710656
  vs : ∀ i, i < e.nv → (e.vt i).size ≤ 281474976710656 ∧ (e.vp i).Fin
  ats : ∀ i, i < e.na → (e.an i).size ≤ 281474976710656 ∧ e.ae i ≤ 281474976710656 ∧ ∀ j, j < e.ae i → (e.at_ i j).size ≤ 281474976710656 ∧ (e.ap i j).Fin
def attS (x1 x2 : EN) (i : Nat) : Bool := ((x1.an i).toList == (x2.an i).toList) && patS (x1.ae i) (x2.ae i) (x1.at_ i) (x2.at_ i) (x1.ap i) (x2.ap i)
def EN.same (x1 x2 : EN) : Bool := (x1.ty == x2.ty) && ((x1.lv == x2.lv) && ((x1.text.toList == x2.text.toList) && ((x1.name.toList == x2.name.toList) && (patS x1.nv x2.nv x1.vt x2.vt x1.vp x2.vp && (decide (x1.na = x2.na) && allTo (attS x1 x2) x1.na)))))
set_option maxRecDepth 100000 in
set_option maxHeartbeats 4000000 in
theorem entry_same (x1 x2 : EN) (A1 A2 B1 B2 : Option Addr) (ca1 ca2 cb1 cb2 : Nat) (w : World) (f1 : x1.Fin) (f2 : x2.Fin) (h1 : x1.R w A1 ca1 B1 cb1) (h2 : x2.R w A2 ca2 B2 cb2) : Calls Tryd.prog 20 #[.agg #[.int .i64 x1.ty, .int .i64 x1.lv, .string x1.text, .string x1.name, .slice A1 x1.nv ca1, .slice (B1) x1.na cb1, .int .i64 x1.fr, .int .i64 x1.ti], .agg #[.int .i64 x2.ty, .int .i64 x2.lv, .string x2.text, .string x2.name, .slice A2 x2.nv ca2, .slice (B2) x2.na cb2, .int .i64 x2.fr, .int .i64 x2.ti]] w fun e w' => e = .returned (.bool (x1.same x2)) ∧ Below w.heap.size w w' := by
  have h0 : EnI w #[.int .i64 x1.ty, .int .i64 x1.lv, .string x1.text, .string x1.name, .slice A1 x1.nv ca1, .slice (B1) x1.na cb1, .int .i64 x1.fr, .int .i64 x1.ti] #[.int .i64 x2.ty, .int .i64 x2.lv, .string x2.text, .string x2.name, .slice A2 x2.nv ca2, .slice (B2) x2.na cb2, .int .i64 x2.fr, .int .i64 x2.ti] _ := Own.two w (.cells #[.int .i64 x1.ty, .int .i64 x1.lv, .string x1.text, .string x1.name, .slice A1 x1.nv ca1, .slice (B1) x1.na cb1, .int .i64 x1.fr, .int .i64 x1.ti] 29) (.cells #[.int .i64 x2.ty, .int .i64 x2.lv, .string x2.text, .string x2.name, .slice A2 x2.nv ca2, .slice (B2) x2.na cb2, .int .i64 x2.fr, .int .i64 x2.ti] 29)
  have cP := fun W (hW : Below w.heap.size w W) => pats_any A1 A2 x1.nv x2.nv ca1 ca2 x1.vt x2.vt x1.vp x2.vp W f1.nv f2.nv (h1.val.keep (Kept.of hW)) (h2.val.keep (Kept.of hW)) (fun e he he2 => ex_any _ _ (f1.vs e he).2 (f2.vs e he2).2)
  have cA := fun W (hW : Below w.heap.size w W) => eqf_attr (attS x1 x2) B1 B2 x1.na x2.na cb1 cb2 x1.an x1.ae x1.at_ x1.ap x2.an x2.ae x2.at_ x2.ap W f1.na f2.na (h1.att.keep (Kept.of hW)) (h2.att.keep (Kept.of hW)) (fun i hi hj B d B' d' lB KB lB' KB' W2 hW2 =>
    attr_any (x1.an i) (x2.an i) B B' (x1.ae i) (x2.ae i) d d' _ W2 (fun W3 hW3 => pats_any B B' (x1.ae i) (x2.ae i) d d' (x1.at_ i) (x2.at_ i) (x1.ap i) (x2.ap i) W3 (f1.ats i hi).2.1 (f2.ats i hj).2.1 (KB.keep ((Kept.of hW2).trans (Kept.of hW3))) (KB'.keep ((Kept.of hW2).trans (Kept.of hW3))) (fun e he he2 => ex_any _ _ ((f1.ats i hi).2.2 e he).2 ((f2.ats i hj).2.2 e he2).2)))
  unfold EN.same
  generalize patS x1.nv x2.nv x1.vt x2.vt x1.vp x2.vp = sP at *
  generalize (decide (x1.na = x2.na) && allTo (attS x1 x2) x1.na) = sA at *
  clear h1 h2 f1 f2
  cases q0 : (x1.ty == x2.ty) with
  | false =>
    clear cP cA
    go_enter Tryd.func20, Tryd.ntmps20
    go_upto_region 1 with (fail)
    generalize World.alloc (World.alloc w _) _ = W0 at *
    have aa0 := Own.c h0 1 0 rfl rfl
    have aa1 := Own.c h0 1 1 rfl rfl
    have aa2 := Own.c h0 1 2 rfl rfl
    have aa3 := Own.c h0 1 3 rfl rfl
    have aa4 := Own.c h0 1 4 rfl rfl
    have aa5 := Own.c h0 1 5 rfl rfl
    have bb0 := Own.c h0 0 0 rfl rfl
    have bb1 := Own.c h0 0 1 rfl rfl
    have bb2 := Own.c h0 0 2 rfl rfl
    have bb3 := Own.c h0 0 3 rfl rfl
    have bb4 := Own.c h0 0 4 rfl rfl
    have bb5 := Own.c h0 0 5 rfl rfl
    go_wp2
    go_ret
    exact ⟨by first | rfl | exact ret_b (by simp), Own.bel h0⟩
  | true =>
    cases q1 : (x1.lv == x2.lv) with
    | false =>
      clear cP cA
      go_enter Tryd.func20, Tryd.ntmps20
      go_upto_region 1 with (fail)
      generalize World.alloc (World.alloc w _) _ = W0 at *
      have aa0 := Own.c h0 1 0 rfl rfl
      have aa1 := Own.c h0 1 1 rfl rfl
      have aa2 := Own.c h0 1 2 rfl rfl
      have aa3 := Own.c h0 1 3 rfl rfl
      have aa4 := Own.c h0 1 4 rfl rfl
      have aa5 := Own.c h0 1 5 rfl rfl
      have bb0 := Own.c h0 0 0 rfl rfl
      have bb1 := Own.c h0 0 1 rfl rfl
      have bb2 := Own.c h0 0 2 rfl rfl
      have bb3 := Own.c h0 0 3 rfl rfl
      have bb4 := Own.c h0 0 4 rfl rfl
      have bb5 := Own.c h0 0 5 rfl rfl
      go_wp2
      go_ret
      exact ⟨by first | rfl | exact ret_b (by simp), Own.bel h0⟩
    | true =>
      cases q2 : (x1.text.toList == x2.text.toList) with
      | false =>
        clear cP cA
        go_enter Tryd.func20, Tryd.ntmps20
        go_upto_region 1 with (fail)
        generalize World.alloc (World.alloc w _) _ = W0 at *
        have aa0 := Own.c h0 1 0 rfl rfl
        have aa1 := Own.c h0 1 1 rfl rfl
        have aa2 := Own.c h0 1 2 rfl rfl
        have aa3 := Own.c h0 1 3 rfl rfl
        have aa4 := Own.c h0 1 4 rfl rfl
        have aa5 := Own.c h0 1 5 rfl rfl
        have bb0 := Own.c h0 0 0 rfl rfl
        have bb1 := Own.c h0 0 1 rfl rfl
        have bb2 := Own.c h0 0 2 rfl rfl
        have bb3 := Own.c h0 0 3 rfl rfl
        have bb4 := Own.c h0 0 4 rfl rfl
        have bb5 := Own.c h0 0 5 rfl rfl
        go_wp2
        go_ret
        exact ⟨by first | rfl | exact ret_b (by simp), Own.bel h0⟩
      | true =>
        cases q3 : (x1.name.toList == x2.name.toList) with
        | false =>
          clear cP cA
          go_enter Tryd.func20, Tryd.ntmps20
          go_upto_region 1 with (fail)
          generalize World.alloc (World.alloc w _) _ = W0 at *
          have aa0 := Own.c h0 1 0 rfl rfl
          have aa1 := Own.c h0 1 1 rfl rfl
          have aa2 := Own.c h0 1 2 rfl rfl
          have aa3 := Own.c h0 1 3 rfl rfl
          have aa4 := Own.c h0 1 4 rfl rfl
          have aa5 := Own.c h0 1 5 rfl rfl
          have bb0 := Own.c h0 0 0 rfl rfl
          have bb1 := Own.c h0 0 1 rfl rfl
          have bb2 := Own.c h0 0 2 rfl rfl
          have bb3 := Own.c h0 0 3 rfl rfl
          have bb4 := Own.c h0 0 4 rfl rfl
          have bb5 := Own.c h0 0 5 rfl rfl
          go_wp2
          go_ret
          exact ⟨by first | rfl | exact ret_b (by simp), Own.bel h0⟩
        | true =>
          cases sP with
          | false =>
            go_enter Tryd.func20, Tryd.ntmps20
            go_upto_region 1 with (fail)
            generalize World.alloc (World.alloc w _) _ = W0 at *
            have aa0 := Own.c h0 1 0 rfl rfl
            have aa1 := Own.c h0 1 1 rfl rfl
            have aa2 := Own.c h0 1 2 rfl rfl
            have aa3 := Own.c h0 1 3 rfl rfl
            have aa4 := Own.c h0 1 4 rfl rfl
            have aa5 := Own.c h0 1 5 rfl rfl
            have bb0 := Own.c h0 0 0 rfl rfl
            have bb1 := Own.c h0 0 1 rfl rfl
            have bb2 := Own.c h0 0 2 rfl rfl
            have bb3 := Own.c h0 0 3 rfl rfl
            have bb4 := Own.c h0 0 4 rfl rfl
            have bb5 := Own.c h0 0 5 rfl rfl
            go_wp2_with (go_at_call 44; refine (cP _ (Own.bel h0)).mono ?_; rintro e W1 ⟨rfl, b1⟩; have h3 := EnI.step h0 b1)
            go_ret
            exact ⟨by first | rfl | exact ret_b (by simp), Own.bel h3⟩
          | true =>
            go_enter Tryd.func20, Tryd.ntmps20
            go_upto_region 1 with (fail)
            generalize World.alloc (World.alloc w _) _ = W0 at *
            have aa0 := Own.c h0 1 0 rfl rfl
            have aa1 := Own.c h0 1 1 rfl rfl
            have aa2 := Own.c h0 1 2 rfl rfl
            have aa3 := Own.c h0 1 3 rfl rfl
            have aa4 := Own.c h0 1 4 rfl rfl
            have aa5 := Own.c h0 1 5 rfl rfl
            have bb0 := Own.c h0 0 0 rfl rfl
            have bb1 := Own.c h0 0 1 rfl rfl
            have bb2 := Own.c h0 0 2 rfl rfl
            have bb3 := Own.c h0 0 3 rfl rfl
            have bb4 := Own.c h0 0 4 rfl rfl
            have bb5 := Own.c h0 0 5 rfl rfl
            go_wp2_with (first
              | (go_at_call 44; refine (cP _ (Own.bel h0)).mono ?_; rintro e W1 ⟨rfl, b1⟩; have h3 := EnI.step h0 b1; have x5 := Own.c h3 1 5 rfl rfl; have y5 := Own.c h3 0 5 rfl rfl)
              | (go_at_call 45; refine (cA _ (Own.bel h3)).mono ?_; rintro e W2 ⟨rfl, b2⟩; have h4 := EnI.step h3 b2))
            go_ret
            exact ⟨by first | rfl | exact ret_b (by simp), Own.bel h4⟩
end Go.Proofs.YtipmphgkdomebaaDoor
namespace Go.Proofs.YtipmphgkdomebaaDoor
open Go.RowKit Go.Proofs.YtipmphgkdomebaaDoorW.PrintWords
set_option linter.unusedVariables false
set_option linter.unusedSimpArgs false
theorem idx_ge {r : Int} {b : Bool} (h : decide (r ≥ 0) = b) : decide (0 ≤ r) = b := h
set_option maxRecDepth 100000 in
set_option maxHeartbeats 4000000 in
theorem idx_attr (q : Nat → Bool) (A : Option Addr) (n ca : Nat) (nm : Nat → ByteArray) (ne : Nat → Nat) (et : Nat → Nat → ByteArray) (ep : Nat → Nat → EX) (w : World) (hn : n ≤ 281474976710656) (hA : Attrs w A n nm ne et ep)
    (hq : ∀ i, i < n → ∀ B d, ne i ≤ d → Elems w B (ne i) (et i) (ep i) → ∀ W, Below w.heap.size w W → Calls Tryd.prog 40 #[.agg #[.string (nm i), .slice B (ne i) d]] W fun e w' => e = .returned (.bool (!(q i))) ∧ Below W.heap.size W w') :
    Calls Tryd.prog 75 #[.slice A n ca, .func (.func 40) #[] #[]] w fun e w' => (∃ r : Int, e = .returned (.int .i64 r) ∧ decide (r ≥ 0) = !(allTo q n)) ∧ Below w.heap.size w w' := by
  have HA := Lib.hid hA; clear hA
  have HQ := Lib.hid hq; clear hq
  go_enter Tryd.func75, Tryd.ntmps75
  go_wp2
  go_loopg [8] n (fun gk v8 wx => ∃ i : Nat, v8 = .int .i64 i ∧ i + gk = n ∧ allTo q i = true ∧ Below w.heap.size w wx)
  case atStart => exact ⟨0, rfl, by omega, rfl, Below.refl _ _⟩
  case round =>
    obtain ⟨i, rfl, hi, hall, hb⟩ := hrel
    by_cases hp : i < n
    · obtain ⟨f, rfl⟩ : ∃ f, gk = f + 1 := ⟨gk - 1, by omega⟩
      have hs := allTo_succ q i
      rw [hall, Bool.true_and] at hs
      have hff := fun h : q i = false => allTo_false h hp
      have HS := Lib.hid hs; clear hs
      have HFF := Lib.hid hff; clear hff
      obtain ⟨b1, o1, B1, d1, rfl, c10, c11, l1, k1⟩ := HA.out i hp
      have cQ := HQ.out i hp B1 d1 l1 k1
      have hk := Kept.of hb
      replace c10 := hk _ _ _ c10
      replace c11 := hk _ _ _ c11
      have HI := Lib.hid hi; clear hi hall hk l1 k1 HA HQ
      have q0 : decide ((i : Int) < (n : Int)) = true := decide_eq_true (by omega)
      have q1 : (0 : Int) ≤ (i : Int) := by omega
      have q2 : (i : Int) < (n : Int) := by omega
      cases hz : q i with
      | true =>
        rw [hz] at cQ HS
        go_wp2_with (go_at_call 40; refine (cQ _ hb).mono ?_; rintro e W3 ⟨rfl, b3⟩; have h3 := below_on hb b3 hb.size)
        go_roundg f
        case measure => omega
        case rel => exact ⟨i + 1, by go_num, by have := HI.out; omega, HS.out, h3⟩
      | false =>
        rw [hz] at cQ
        have HF := Lib.hid (HFF.out hz)
        go_wp2_with (go_at_call 40; refine (cQ _ hb).mono ?_; rintro e W3 ⟨rfl, b3⟩; have h3 := below_on hb b3 hb.size)
        go_ret
        exact ⟨⟨(i : Int), rfl, by rw [HF.out]; exact decide_eq_true (by omega)⟩, h3⟩
    · obtain rfl : i = n := by omega
      have HL := Lib.hid hall; clear hall
      have q0 : decide ((i : Int) < (i : Int)) = false := decide_eq_false (by omega)
      go_wp2
      go_ret
      exact ⟨⟨-1, rfl, by rw [HL.out]; rfl⟩, hb⟩
set_option maxRecDepth 100000 in
set_option maxHeartbeats 4000000 in
theorem has_attr (q : Nat → Bool) (A : Option Addr) (n ca : Nat) (nm : Nat → ByteArray) (ne : Nat → Nat) (et : Nat → Nat → ByteArray) (ep : Nat → Nat → EX) (w : World) (hn : n ≤ 281474976710656) (hA : Attrs w A n nm ne et ep)
    (hq : ∀ i, i < n → ∀ B d, ne i ≤ d → Elems w B (ne i) (et i) (ep i) → ∀ W, Below w.heap.size w W → Calls Tryd.prog 40 #[.agg #[.string (nm i), .slice B (ne i) d]] W fun e w' => e = .returned (.bool (!(q i))) ∧ Below W.heap.size W w') :
    Calls Tryd.prog 39 #[.slice A n ca, .func (.func 40) #[] #[]] w fun e w' => e = .returned (.bool (!(allTo q n))) ∧ Below w.heap.size w w' := by
  have c := idx_attr q A n ca nm ne et ep w hn hA hq
  clear hA hq
  generalize (!(allTo q n)) = s at *
  go_enter Tryd.func39, Tryd.ntmps39
  go_wp2_with (go_at_call 75; refine c.mono ?_; rintro e W1 ⟨⟨r, rfl, hr⟩, b1⟩; have HR := Lib.hid hr; clear hr)
  go_ret
  exact ⟨by have := HR.out; first | exact ret_b this | exact ret_b (idx_ge this), b1⟩
set_option maxRecDepth 100000 in
set_option maxHeartbeats 4000000 in
theorem right1_any (nm : ByteArray) (B : Option Addr) (n d : Nat) (pv : Bool) (w : World) (hz : nm.size ≤ 281474976710656)
    (cP : ∀ W, Below w.heap.size w W → Calls Tryd.prog 38 #[.slice B n d, .int .i64 0] W fun e w' => e = .returned (.bool pv) ∧ Below W.heap.size W w') :
    Calls Tryd.prog 40 #[.agg #[.string nm, .slice B n d]] w fun e w' => e = .returned (.bool (!(isNameB nm && (!(decide (n = 0)) && pv)))) ∧ Below w.heap.size w w' := by
  have h0 := Own.one w (.cells #[.string nm, .slice B n d] 44)
  have cN := fun W => IsName_any nm W (by omega)
  generalize isNameB nm = s at *
  cases s with
  | false =>
    go_enter Tryd.func40, Tryd.ntmps40
    go_upto_region 1 with (fail)
    generalize w.alloc _ = W0 at *
    have a0 := h0.c 0 0 rfl rfl
    have a1 := h0.c 0 1 rfl rfl
    go_wp2_with (go_at_call 37; refine (cN _).mono ?_; rintro e W1 ⟨rfl, b1⟩; have h1 := h0.step b1; have x0 := h1.c 0 0 rfl rfl; have x1 := h1.c 0 1 rfl rfl)
    go_ret
    exact ⟨by first | rfl | exact ret_b (by simp), h1.bel⟩
  | true =>
    by_cases hn : n = 0
    · subst hn
      go_enter Tryd.func40, Tryd.ntmps40
      go_upto_region 1 with (fail)
      generalize w.alloc _ = W0 at *
      have a0 := h0.c 0 0 rfl rfl
      have a1 := h0.c 0 1 rfl rfl
      go_wp2_with (go_at_call 37; refine (cN _).mono ?_; rintro e W1 ⟨rfl, b1⟩; have h1 := h0.step b1; have x0 := h1.c 0 0 rfl rfl; have x1 := h1.c 0 1 rfl rfl)
      go_ret
      exact ⟨by first | rfl | exact ret_b (by simp), h1.bel⟩
    · have q0 : ((n : Int) == 0) = false := beq_eq_false_iff_ne.2 (by omega)
      rw [decide_eq_false hn]
      clear hn
      go_enter Tryd.func40, Tryd.ntmps40
      go_upto_region 1 with (fail)
      generalize w.alloc _ = W0 at *
      have a0 := h0.c 0 0 rfl rfl
      have a1 := h0.c 0 1 rfl rfl
      go_wp2_with (first
        | (go_at_call 37; refine (cN _).mono ?_; rintro e W1 ⟨rfl, b1⟩; have h1 := h0.step b1; have x0 := h1.c 0 0 rfl rfl; have x1 := h1.c 0 1 rfl rfl)
        | (go_at_call 38; refine (cP _ h1.bel).mono ?_; rintro e W2 ⟨rfl, b2⟩; have h2 := h1.step b2))
      go_ret
      exact ⟨by first | rfl | exact ret_b (by simp), h2.bel⟩
def attOk (x : EN) (pa : Nat → Bool) (i : Nat) : Bool := isNameB (x.an i) && (!(decide (x.ae i = 0)) && pa i)
def msgOk (x : EN) (pv : Bool) (pa : Nat → Bool) : Bool := (x.lv == 0) && ((x.text.toList == []) && (isNameB x.name && (pv && (!(decide (x.nv = 0) && ((x.ty == 2) || decide (x.na = 0))) && allTo (attOk x pa) x.na))))
set_option maxRecDepth 100000 in
set_option maxHeartbeats 4000000 in
theorem right_msg (x : EN) (A B : Option Addr) (ca cb : Nat) (pv : Bool) (pa : Nat → Bool) (w : World) (f : x.Fin) (h : x.R w A ca B cb) (ht : x.ty = 1 ∨ x.ty = 2)
    (cP : ∀ W, Below w.heap.size w W → Calls Tryd.prog 38 #[.slice A x.nv ca, .int .i64 0] W fun e w' => e = .returned (.bool pv) ∧ Below W.heap.size W w')
    (cQ : ∀ i, i < x.na → ∀ B2 d W, Below w.heap.size w W → Elems W B2 (x.ae i) (x.at_ i) (x.ap i) → Calls Tryd.prog 38 #[.slice B2 (x.ae i) d, .int .i64 0] W fun e w' => e = .returned (.bool (pa i)) ∧ Below W.heap.size W w') :
    Calls Tryd.prog 18 #[.agg #[.int .i64 x.ty, .int .i64 x.lv, .string x.text, .string x.name, .slice A x.nv ca, .slice B x.na cb, .int .i64 x.fr, .int .i64 x.ti]] w fun e w' => e = .returned (.bool (msgOk x pv pa)) ∧ Below w.heap.size w w' := by
  have h0 := Own.one w (.cells #[.int .i64 x.ty, .int .i64 x.lv, .string x.text, .string x.name, .slice A x.nv ca, .slice B x.na cb, .int .i64 x.fr, .int .i64 x.ti] 29)
  have cN := fun W => IsName_any x.name W (by have := f.nm; omega)
  have cA := fun W (hW : Below w.heap.size w W) => has_attr (attOk x pa) B x.na cb x.an x.ae x.at_ x.ap W f.na (h.att.keep (Kept.of hW)) (fun i hi B2 d hd hE W2 hW2 => right1_any (x.an i) B2 (x.ae i) d (pa i) W2 (f.ats i hi).1 (fun W3 hW3 => cQ i hi B2 d W3 (below_on (below_on hW hW2 hW.size) hW3 (below_on hW hW2 hW.size).size) (hE.keep ((Kept.of hW2).trans (Kept.of hW3)))))
  unfold msgOk
  have n0 := f.nv
  have n1 := f.na
  generalize isNameB x.name = s at *
  generalize allTo (attOk x pa) x.na = sA at *
  clear cQ h f
  rcases ht with ht | ht
  · have t0 : (x.ty == 0) = false := by rw [ht]; rfl
    have t1 : (x.ty == 1) = true := by rw [ht]; rfl
    have t2 : (x.ty == 2) = false := by rw [ht]; rfl
    rw [t2]
    clear ht
    cases q1 : (x.lv == 0) with
    | false =>
      have q2 : (x.lv != 0) = true := by rw [bne, q1]; rfl
      clear cA cP cN
      go_enter Tryd.func18, Tryd.ntmps18
      go_upto_region 1 with (fail)
      generalize w.alloc _ = W0 at *
      have a0 := h0.c 0 0 rfl rfl
      have a1 := h0.c 0 1 rfl rfl
      have a2 := h0.c 0 2 rfl rfl
      have a3 := h0.c 0 3 rfl rfl
      have a4 := h0.c 0 4 rfl rfl
      have a5 := h0.c 0 5 rfl rfl
      go_wp2
      go_ret
      exact ⟨by first | rfl | exact ret_b (by simp), h0.bel⟩
    | true =>
      have q2 : (x.lv != 0) = false := by rw [bne, q1]; rfl
      cases q3 : (x.text.toList == []) with
      | false =>
        clear cA cP cN
        go_enter Tryd.func18, Tryd.ntmps18
        go_upto_region 1 with (fail)
        generalize w.alloc _ = W0 at *
        have a0 := h0.c 0 0 rfl rfl
        have a1 := h0.c 0 1 rfl rfl
        have a2 := h0.c 0 2 rfl rfl
        have a3 := h0.c 0 3 rfl rfl
        have a4 := h0.c 0 4 rfl rfl
        have a5 := h0.c 0 5 rfl rfl
        go_wp2
        go_ret
        exact ⟨by first | rfl | exact ret_b (by simp), h0.bel⟩
      | true =>
        cases s with
        | false =>
          clear cA cP
          go_enter Tryd.func18, Tryd.ntmps18
          go_upto_region 1 with (fail)
          generalize w.alloc _ = W0 at *
          have a0 := h0.c 0 0 rfl rfl
          have a1 := h0.c 0 1 rfl rfl
          have a2 := h0.c 0 2 rfl rfl
          have a3 := h0.c 0 3 rfl rfl
          have a4 := h0.c 0 4 rfl rfl
          have a5 := h0.c 0 5 rfl rfl
          go_wp2_with (go_at_call 37; refine (cN _).mono ?_; rintro e W1 ⟨rfl, b1⟩; have h1 := h0.step b1; have x0 := h1.c 0 0 rfl rfl; have x4 := h1.c 0 4 rfl rfl; have x5 := h1.c 0 5 rfl rfl)
          go_ret
          exact ⟨by first | rfl | exact ret_b (by simp), h1.bel⟩
        | true =>
          cases pv with
          | false =>
            clear cA
            go_enter Tryd.func18, Tryd.ntmps18
            go_upto_region 1 with (fail)
            generalize w.alloc _ = W0 at *
            have a0 := h0.c 0 0 rfl rfl
            have a1 := h0.c 0 1 rfl rfl
            have a2 := h0.c 0 2 rfl rfl
            have a3 := h0.c 0 3 rfl rfl
            have a4 := h0.c 0 4 rfl rfl
            have a5 := h0.c 0 5 rfl rfl
            go_wp2_with (first
              | (go_at_call 37; refine (cN _).mono ?_; rintro e W1 ⟨rfl, b1⟩; have h1 := h0.step b1; have x0 := h1.c 0 0 rfl rfl; have x4 := h1.c 0 4 rfl rfl; have x5 := h1.c 0 5 rfl rfl)
              | (go_at_call 38; refine (cP _ h1.bel).mono ?_; rintro e W2 ⟨rfl, b2⟩; have h2 := h1.step b2; have y0 := h2.c 0 0 rfl rfl; have y4 := h2.c 0 4 rfl rfl; have y5 := h2.c 0 5 rfl rfl))
            go_ret
            exact ⟨by first | rfl | exact ret_b (by simp), h2.bel⟩
          | true =>
            by_cases z0 : x.nv = 0
            · have q5 : ((x.nv : Int) == 0) = true := beq_iff_eq.2 (by omega)
              rw [decide_eq_true z0]
              clear z0
              by_cases z1 : x.na = 0
              · have q6 : ((x.na : Int) == 0) = true := beq_iff_eq.2 (by omega)
                rw [decide_eq_true z1]
                clear z1
                clear cA
                go_enter Tryd.func18, Tryd.ntmps18
                go_upto_region 1 with (fail)
                generalize w.alloc _ = W0 at *
                have a0 := h0.c 0 0 rfl rfl
                have a1 := h0.c 0 1 rfl rfl
                have a2 := h0.c 0 2 rfl rfl
                have a3 := h0.c 0 3 rfl rfl
                have a4 := h0.c 0 4 rfl rfl
                have a5 := h0.c 0 5 rfl rfl
                go_wp2_with (first
                  | (go_at_call 37; refine (cN _).mono ?_; rintro e W1 ⟨rfl, b1⟩; have h1 := h0.step b1; have x0 := h1.c 0 0 rfl rfl; have x4 := h1.c 0 4 rfl rfl; have x5 := h1.c 0 5 rfl rfl)
                  | (go_at_call 38; refine (cP _ h1.bel).mono ?_; rintro e W2 ⟨rfl, b2⟩; have h2 := h1.step b2; have y0 := h2.c 0 0 rfl rfl; have y4 := h2.c 0 4 rfl rfl; have y5 := h2.c 0 5 rfl rfl))
                go_ret
                exact ⟨by first | rfl | exact ret_b (by simp), h2.bel⟩
              · have q6 : ((x.na : Int) == 0) = false := beq_eq_false_iff_ne.2 (by omega)
                rw [decide_eq_false z1]
                clear z1
                go_enter Tryd.func18, Tryd.ntmps18
                go_upto_region 1 with (fail)
                generalize w.alloc _ = W0 at *
                have a0 := h0.c 0 0 rfl rfl
                have a1 := h0.c 0 1 rfl rfl
                have a2 := h0.c 0 2 rfl rfl
                have a3 := h0.c 0 3 rfl rfl
                have a4 := h0.c 0 4 rfl rfl
                have a5 := h0.c 0 5 rfl rfl
                go_wp2_with (first
                  | (go_at_call 37; refine (cN _).mono ?_; rintro e W1 ⟨rfl, b1⟩; have h1 := h0.step b1; have x0 := h1.c 0 0 rfl rfl; have x4 := h1.c 0 4 rfl rfl; have x5 := h1.c 0 5 rfl rfl)
                  | (go_at_call 38; refine (cP _ h1.bel).mono ?_; rintro e W2 ⟨rfl, b2⟩; have h2 := h1.step b2; have y0 := h2.c 0 0 rfl rfl; have y4 := h2.c 0 4 rfl rfl; have y5 := h2.c 0 5 rfl rfl)
                  | (go_at_call 39; refine (cA _ h2.bel).mono ?_; rintro e W3 ⟨rfl, b3⟩; have h3 := h2.step b3))
                go_ret
                exact ⟨by first | rfl | exact ret_b (by simp), h3.bel⟩
            · have q5 : ((x.nv : Int) == 0) = false := beq_eq_false_iff_ne.2 (by omega)
              rw [decide_eq_false z0]
              clear z0
              go_enter Tryd.func18, Tryd.ntmps18
              go_upto_region 1 with (fail)
              generalize w.alloc _ = W0 at *
              have a0 := h0.c 0 0 rfl rfl
              have a1 := h0.c 0 1 rfl rfl
              have a2 := h0.c 0 2 rfl rfl
              have a3 := h0.c 0 3 rfl rfl
              have a4 := h0.c 0 4 rfl rfl
              have a5 := h0.c 0 5 rfl rfl
              go_wp2_with (first
                | (go_at_call 37; refine (cN _).mono ?_; rintro e W1 ⟨rfl, b1⟩; have h1 := h0.step b1; have x0 := h1.c 0 0 rfl rfl; have x4 := h1.c 0 4 rfl rfl; have x5 := h1.c 0 5 rfl rfl)
                | (go_at_call 38; refine (cP _ h1.bel).mono ?_; rintro e W2 ⟨rfl, b2⟩; have h2 := h1.step b2; have y0 := h2.c 0 0 rfl rfl; have y4 := h2.c 0 4 rfl rfl; have y5 := h2.c 0 5 rfl rfl)
                | (go_at_call 39; refine (cA _ h2.bel).mono ?_; rintro e W3 ⟨rfl, b3⟩; have h3 := h2.step b3))
              go_ret
              exact ⟨by first | rfl | exact ret_b (by simp), h3.bel⟩
  · have t0 : (x.ty == 0) = false := by rw [ht]; rfl
    have t1 : (x.ty == 1) = false := by rw [ht]; rfl
    have t2 : (x.ty == 2) = true := by rw [ht]; rfl
    rw [t2]
    clear ht
    cases q1 : (x.lv == 0) with
    | false =>
      have q2 : (x.lv != 0) = true := by rw [bne, q1]; rfl
      clear cA cP cN
      go_enter Tryd.func18, Tryd.ntmps18
      go_upto_region 1 with (fail)
      generalize w.alloc _ = W0 at *
      have a0 := h0.c 0 0 rfl rfl
      have a1 := h0.c 0 1 rfl rfl
      have a2 := h0.c 0 2 rfl rfl
      have a3 := h0.c 0 3 rfl rfl
      have a4 := h0.c 0 4 rfl rfl
      have a5 := h0.c 0 5 rfl rfl
      go_wp2
      go_ret
      exact ⟨by first | rfl | exact ret_b (by simp), h0.bel⟩
    | true =>
      have q2 : (x.lv != 0) = false := by rw [bne, q1]; rfl
      cases q3 : (x.text.toList == []) with
      | false =>
        clear cA cP cN
        go_enter Tryd.func18, Tryd.ntmps18
        go_upto_region 1 with (fail)
        generalize w.alloc _ = W0 at *
        have a0 := h0.c 0 0 rfl rfl
        have a1 := h0.c 0 1 rfl rfl
        have a2 := h0.c 0 2 rfl rfl
        have a3 := h0.c 0 3 rfl rfl
        have a4 := h0.c 0 4 rfl rfl
        have a5 := h0.c 0 5 rfl rfl
        go_wp2
        go_ret
        exact ⟨by first | rfl | exact ret_b (by simp), h0.bel⟩
      | true =>
        cases s with
        | false =>
          clear cA cP
          go_enter Tryd.func18, Tryd.ntmps18
          go_upto_region 1 with (fail)
          generalize w.alloc _ = W0 at *
          have a0 := h0.c 0 0 rfl rfl
          have a1 := h0.c 0 1 rfl rfl
          have a2 := h0.c 0 2 rfl rfl
          have a3 := h0.c 0 3 rfl rfl
          have a4 := h0.c 0 4 rfl rfl
          have a5 := h0.c 0 5 rfl rfl
          go_wp2_with (go_at_call 37; refine (cN _).mono ?_; rintro e W1 ⟨rfl, b1⟩; have h1 := h0.step b1; have x0 := h1.c 0 0 rfl rfl; have x4 := h1.c 0 4 rfl rfl; have x5 := h1.c 0 5 rfl rfl)
          go_ret
          exact ⟨by first | rfl | exact ret_b (by simp), h1.bel⟩
        | true =>
          cases pv with
          | false =>
            clear cA
            go_enter Tryd.func18, Tryd.ntmps18
            go_upto_region 1 with (fail)
            generalize w.alloc _ = W0 at *
            have a0 := h0.c 0 0 rfl rfl
            have a1 := h0.c 0 1 rfl rfl
            have a2 := h0.c 0 2 rfl rfl
            have a3 := h0.c 0 3 rfl rfl
            have a4 := h0.c 0 4 rfl rfl
            have a5 := h0.c 0 5 rfl rfl
            go_wp2_with (first
              | (go_at_call 37; refine (cN _).mono ?_; rintro e W1 ⟨rfl, b1⟩; have h1 := h0.step b1; have x0 := h1.c 0 0 rfl rfl; have x4 := h1.c 0 4 rfl rfl; have x5 := h1.c 0 5 rfl rfl)
              | (go_at_call 38; refine (cP _ h1.bel).mono ?_; rintro e W2 ⟨rfl, b2⟩; have h2 := h1.step b2; have y0 := h2.c 0 0 rfl rfl; have y4 := h2.c 0 4 rfl rfl; have y5 := h2.c 0 5 rfl rfl))
            go_ret
            exact ⟨by first | rfl | exact ret_b (by simp), h2.bel⟩
          | true =>
            by_cases z0 : x.nv = 0
            · have q5 : ((x.nv : Int) == 0) = true := beq_iff_eq.2 (by omega)
              rw [decide_eq_true z0]
              clear z0
              clear cA
              go_enter Tryd.func18, Tryd.ntmps18
              go_upto_region 1 with (fail)
              generalize w.alloc _ = W0 at *
              have a0 := h0.c 0 0 rfl rfl
              have a1 := h0.c 0 1 rfl rfl
              have a2 := h0.c 0 2 rfl rfl
              have a3 := h0.c 0 3 rfl rfl
              have a4 := h0.c 0 4 rfl rfl
              have a5 := h0.c 0 5 rfl rfl
              go_wp2_with (first
                | (go_at_call 37; refine (cN _).mono ?_; rintro e W1 ⟨rfl, b1⟩; have h1 := h0.step b1; have x0 := h1.c 0 0 rfl rfl; have x4 := h1.c 0 4 rfl rfl; have x5 := h1.c 0 5 rfl rfl)
                | (go_at_call 38; refine (cP _ h1.bel).mono ?_; rintro e W2 ⟨rfl, b2⟩; have h2 := h1.step b2; have y0 := h2.c 0 0 rfl rfl; have y4 := h2.c 0 4 rfl rfl; have y5 := h2.c 0 5 rfl rfl))
              go_ret
              exact ⟨by first | rfl | exact ret_b (by simp), h2.bel⟩
            · have q5 : ((x.nv : Int) == 0) = false := beq_eq_false_iff_ne.2 (by omega)
              rw [decide_eq_false z0]
              clear z0
              go_enter Tryd.func18, Tryd.ntmps18
              go_upto_region 1 with (fail)
              generalize w.alloc _ = W0 at *
              have a0 := h0.c 0 0 rfl rfl
              have a1 := h0.c 0 1 rfl rfl
              have a2 := h0.c 0 2 rfl rfl
              have a3 := h0.c 0 3 rfl rfl
              have a4 := h0.c 0 4 rfl rfl
              have a5 := h0.c 0 5 rfl rfl
              go_wp2_with (first
                | (go_at_call 37; refine (cN _).mono ?_; rintro e W1 ⟨rfl, b1⟩; have h1 := h0.step b1; have x0 := h1.c 0 0 rfl rfl; have x4 := h1.c 0 4 rfl rfl; have x5 := h1.c 0 5 rfl rfl)
                | (go_at_call 38; refine (cP _ h1.bel).mono ?_; rintro e W2 ⟨rfl, b2⟩; have h2 := h1.step b2; have y0 := h2.c 0 0 rfl rfl; have y4 := h2.c 0 4 rfl rfl; have y5 := h2.c 0 5 rfl rfl)
                | (go_at_call 39; refine (cA _ h2.bel).mono ?_; rintro e W3 ⟨rfl, b3⟩; have h3 := h2.step b3))
              go_ret
              exact ⟨by first | rfl | exact ret_b (by simp), h3.bel⟩
end Go.Proofs.YtipmphgkdomebaaDoor
namespace Go.Proofs.YtipmphgkdomebaaDoor.K
open Go.RowKit Go.Proofs.YtipmphgkdomebaaDoor.G Go.Proofs.YtipmphgkdomebaaDoorW.PrintWords Go.Proofs.YtipmphgkdomebaaDoorW.PrintLast Go.Proofs.YtipmphgkdomebaaDoorW.PrintMore
attribute [local go_sem] max2_int min2_int max_two min_two max_three min_three max_four min_four
set_option linter.unusedVariables false
set_option linter.unusedSimpArgs false
mutual
def ast_lines.j0 : Nat → ByteArray → Bool → Option (Bool)
  | 0, _, _ => none
  | k + 1, x0, x20 => if x20 = true then (some false) else ((strings_Split.f x0 (⟨#[10]⟩ : ByteArray)).bind fun t106 => (ast_lines.l0 k x0 1 0 t106 (t106.length : Int) 0))
def ast_lines.l0 : Nat → ByteArray → Int → Int → List ByteArray → Int → Int → Option (Bool)
  | 0, _, _, _, _, _, _ => none
  | k + 1, x0, x3, x4, x22, x23, x24 => if x24 < x23 then (if 0 ≤ x24 then (if x24 < (x22.length : Int) then ((strings_TrimLeft.f (rdOf ByteArray.empty x22 x24) (⟨#[32]⟩ : ByteArray)).bind fun t111 => (if x24 = 0 then (ast_lines.j2 k x0 x3 x4 (rdOf ByteArray.empty x22 x24) t111 x22 x23 x24 true) else (ast_lines.j2 k x0 x3 x4 (rdOf ByteArray.empty x22 x24) t111 x22 x23 x24 ((rdOf ByteArray.empty x22 x24).toList == ([] : List UInt8))))) else (none)) else (none)) else (if x4 = 0 then (some true) else (if x3 = 0 then (some true) else (if 0 ≤ 1 then (if 1 ≤ (x0.size : Int) then ((strings_Trim.f (x0.extract 0 1) (⟨#[46, 42, 91]⟩ : ByteArray)).bind fun t109 => (some (t109.toList != ([] : List UInt8)))) else (none)) else (none))))
def ast_lines.j2 : Nat → ByteArray → Int → Int → ByteArray → ByteArray → List ByteArray → Int → Int → Bool → Option (Bool)
  | 0, _, _, _, _, _, _, _, _, _ => none
  | k + 1, x0, x3, x4, x6, x7, x22, x23, x24, x31 => if x31 = true then (ast_lines.l0 k x0 x3 x4 x22 x23 (wrap64 (x24 + 1))) else (if x7.toList = ([] : List UInt8) then (ast_lines.j3 k x0 x3 x4 x6 x7 x22 x23 x24 true) else (if 0 ≤ 1 then (if 1 ≤ (x7.size : Int) then ((strings_Trim.f (x7.extract 0 1) (⟨#[46, 42, 91]⟩ : ByteArray)).bind fun t112 => (ast_lines.j3 k x0 x3 x4 x6 x7 x22 x23 x24 (t112.toList == ([] : List UInt8)))) else (none)) else (none)))
def ast_lines.j3 : Nat → ByteArray → Int → Int → ByteArray → ByteArray → List ByteArray → Int → Int → Bool → Option (Bool)
  | 0, _, _, _, _, _, _, _, _, _ => none
  | k + 1, x0, x3, x4, x6, x7, x22, x23, x24, x38 => if x38 = true then (some false) else (if x4 = 0 then (ast_lines.l0 k x0 (wrap64 ((x6.size : Int) - (x7.size : Int))) (wrap64 (x4 + 1)) x22 x23 (wrap64 (x24 + 1))) else (if (wrap64 ((x6.size : Int) - (x7.size : Int))) < x3 then (ast_lines.l0 k x0 (wrap64 ((x6.size : Int) - (x7.size : Int))) (wrap64 (x4 + 1)) x22 x23 (wrap64 (x24 + 1))) else (ast_lines.l0 k x0 x3 (wrap64 (x4 + 1)) x22 x23 (wrap64 (x24 + 1)))))
end
def ast_lines.f (k : Nat) (a0 : ByteArray) : Option (Bool) := if 0 ≤ 1 then (if 1 ≤ (a0.size : Int) then ((strings_Trim.f (a0.extract 0 1) (⟨#[32, 10]⟩ : ByteArray)).bind fun t104 => (if t104.toList = ([] : List UInt8) then (ast_lines.j0 k a0 true) else (if 0 ≤ (wrap64 ((a0.size : Int) - 1)) then (if (wrap64 ((a0.size : Int) - 1)) ≤ (a0.size : Int) then ((strings_Trim.f (a0.extract ((wrap64 ((a0.size : Int) - 1)) : Int).toNat a0.size) (⟨#[32, 10]⟩ : ByteArray)).bind fun t105 => (ast_lines.j0 k a0 (t105.toList == ([] : List UInt8)))) else (none)) else (none)))) else (none)) else (none)
set_option maxHeartbeats 8000000 in
set_option maxRecDepth 100000 in
theorem ast_lines.calls (k : Nat) (a0 : ByteArray) (r : Bool) (w : World) (h : ast_lines.f k a0 = some r) (HT0_ : Tab_ w := by exact Tab_.step HT0_ (by repeat (first | (with_reducible first | exact HB.out | apply below_alloc | apply pw_below_drewN | apply below_drew1 | refine below_set ?_ (Aside0.out (by assumption))) | exact HB.out))) :
    Calls Tryd.prog 74 #[.string a0] w fun e w' => e = .returned (.bool r) ∧ Below w.heap.size w w' := by
  have HB := Aside0.mk (Below.refl w.heap.size w)
  have H : (if 0 ≤ 1 then (if 1 ≤ (a0.size : Int) then ((strings_Trim.f (a0.extract 0 1) (⟨#[32, 10]⟩ : ByteArray)).bind fun t104 => (if t104.toList = ([] : List UInt8) then (ast_lines.j0 k a0 true) else (if 0 ≤ (wrap64 ((a0.size : Int) - 1)) then (if (wrap64 ((a0.size : Int) - 1)) ≤ (a0.size : Int) then ((strings_Trim.f (a0.extract ((wrap64 ((a0.size : Int) - 1)) : Int).toNat a0.size) (⟨#[32, 10]⟩ : ByteArray)).bind fun t105 => (ast_lines.j0 k a0 (t105.toList == ([] : List UInt8)))) else (none)) else (none)))) else (none)) else (none)) = some r := h
  clear h
  have HC2 := Aside0.mk H
  clear H
  go_enter Tryd.func74, Tryd.ntmps74
  go_upto_region 1 with (fail)
  go_cut [20] (fun v20 wc => ∃ (kq : Nat) (x20_1 : Bool), v20 = .bool x20_1 ∧ Aside0 (ast_lines.j0 kq a0 x20_1 = some r) ∧ Aside0 (kq ≤ k) ∧ Aside0 (Below w.heap.size w wc))
  case first =>
    have H := HC2.out
    clear HC2
    by_cases c3 : 0 ≤ 1
    · rw [if_pos c3] at H
      have c3b0 := eq_true c3
      have c3b1 : decide (0 ≤ 1) = true := decide_eq_true c3
      clear c3
      by_cases c4 : 1 ≤ (a0.size : Int)
      · rw [if_pos c4] at H
        have c4b0 := eq_true c4
        have c4b1 : decide (1 ≤ (a0.size : Int)) = true := decide_eq_true c4
        clear c4
        replace H := Option.bind_eq_some_iff.mp H
        obtain ⟨t104, A50, H⟩ := H
        replace H : (if t104.toList = ([] : List UInt8) then (ast_lines.j0 k a0 true) else (if 0 ≤ (wrap64 ((a0.size : Int) - 1)) then (if (wrap64 ((a0.size : Int) - 1)) ≤ (a0.size : Int) then ((strings_Trim.f (a0.extract ((wrap64 ((a0.size : Int) - 1)) : Int).toNat a0.size) (⟨#[32, 10]⟩ : ByteArray)).bind fun t105 => (ast_lines.j0 k a0 (t105.toList == ([] : List UInt8)))) else (none)) else (none))) = some r := H
        have A5 := Aside0.mk A50
        clear A50
        by_cases c6 : t104.toList = ([] : List UInt8)
        · rw [if_pos c6] at H
          have c6b0 : (t104.toList == ([] : List UInt8)) = true := beq_iff_eq.mpr c6
          have c6b1 : (t104.toList != ([] : List UInt8)) = false := bne_eq_false_iff_eq.mpr c6
          clear c6
          (first | rw [c6b0] | (simp only [i64_w, i32_w]; rw [c6b0]) | skip)
          have H' := Aside0.mk H
          clear H
          go_wp2_with (first | ((with_reducible refine gate_callee (f := 114) rfl ?_); refine goesL_ (some 10) rfl rfl Tryd.func114 (by kernel_rfl) rfl #[.string (a0.extract 0 1), .string (⟨#[32, 10]⟩ : ByteArray)] rfl (by (try simp only [List.map_toArray, List.map_cons, List.map_nil]); first | done | rfl | (simp only [List.length_drop, List.length_take]; rfl)) ?_; (with_reducible refine (strings_Trim.calls (a0.extract 0 1) (⟨#[32, 10]⟩ : ByteArray) t104 _ A5.out).mono ?_); rintro e w7 ⟨rfl, hb⟩; refine ⟨_, rfl, ?_⟩; have n0_ := Aside0.mk (below_step (by repeat (first | (with_reducible first | exact HB.out | apply below_alloc | apply pw_below_drewN | apply below_drew1) | exact HB.out)) hb); clear HB; have HB := n0_; clear n0_; (try clear hb); (try clear hb2); (try clear hk); (try clear hi)))
          go_meet
          case rel => exact ⟨_, (true), (by first | rfl | (simp; done) | (simp [*]; done)), H', ⟨by first | omega | exact Nat.le_refl _⟩, ⟨by repeat (first | (with_reducible first | exact HB.out | apply below_alloc | apply pw_below_drewN | apply below_drew1) | exact HB.out)⟩⟩
        · rw [if_neg c6] at H
          have c6b0 : (t104.toList == ([] : List UInt8)) = false := beq_eq_false_iff_ne.mpr c6
          have c6b1 : (t104.toList != ([] : List UInt8)) = true := bne_iff_ne.mpr c6
          (first | rw [c6b0] | (simp only [i64_w, i32_w]; rw [c6b0]) | skip)
          obtain ⟨ji8, hji8⟩ : ∃ j_ : Int, (wrap64 ((a0.size : Int) - 1)) = j_ := ⟨_, rfl⟩
          replace H : (if 0 ≤ (ji8) then (if (ji8) ≤ (a0.size : Int) then ((strings_Trim.f (a0.extract ((ji8) : Int).toNat a0.size) (⟨#[32, 10]⟩ : ByteArray)).bind fun t105 => (ast_lines.j0 k a0 (t105.toList == ([] : List UInt8)))) else (none)) else (none)) = some r := by first | (rw [hji8] at H; exact H) | (simp only [hji8] at H ⊢; exact H)
          (try rw [hji8] at A5)
          have hji8w : (IntKind.i64.wrap ((a0.size : Int) - 1)) = ji8 := (i64_w _).trans hji8
          by_cases c9 : 0 ≤ (ji8)
          · rw [if_pos c9] at H
            have c9b0 := eq_true c9
            have c9b1 : decide (0 ≤ (ji8)) = true := decide_eq_true c9
            clear c9
            by_cases c10 : (ji8) ≤ (a0.size : Int)
            · rw [if_pos c10] at H
              have c10b0 := eq_true c10
              have c10b1 : decide ((ji8) ≤ (a0.size : Int)) = true := decide_eq_true c10
              clear c10
              replace H := Option.bind_eq_some_iff.mp H
              obtain ⟨t105, A110, H⟩ := H
              replace H : (ast_lines.j0 k a0 (t105.toList == ([] : List UInt8))) = some r := H
              have A11 := Aside0.mk A110
              clear A110
              have H' := Aside0.mk H
              clear H
              go_wp2_with (first | ((with_reducible refine gate_callee (f := 114) rfl ?_); refine goesL_ (some 10) rfl rfl Tryd.func114 (by kernel_rfl) rfl #[.string (a0.extract 0 1), .string (⟨#[32, 10]⟩ : ByteArray)] rfl (by (try simp only [List.map_toArray, List.map_cons, List.map_nil]); first | done | rfl | (simp only [List.length_drop, List.length_take]; rfl)) ?_; (with_reducible refine (strings_Trim.calls (a0.extract 0 1) (⟨#[32, 10]⟩ : ByteArray) t104 _ A5.out).mono ?_); rintro e w12 ⟨rfl, hb⟩; refine ⟨_, rfl, ?_⟩; have n0_ := Aside0.mk (below_step (by repeat (first | (with_reducible first | exact HB.out | apply below_alloc | apply pw_below_drewN | apply below_drew1) | exact HB.out)) hb); clear HB; have HB := n0_; clear n0_; (try clear hb); (try clear hb2); (try clear hk); (try clear hi)) | (go_at_call 114; (with_reducible refine (strings_Trim.calls (a0.extract ((ji8) : Int).toNat a0.size) (⟨#[32, 10]⟩ : ByteArray) t105 _ A11.out).mono ?_); rintro e w13 ⟨rfl, hb⟩; have n0_ := Aside0.mk (below_step (by repeat (first | (with_reducible first | exact HB.out | apply below_alloc | apply pw_below_drewN | apply below_drew1) | exact HB.out)) hb); clear HB; have HB := n0_; clear n0_; (try clear hb); (try clear hb2); (try clear hk); (try clear hi)))
              go_meet
              case rel => exact ⟨_, ((t105.toList == ([] : List UInt8))), (by first | rfl | (simp; done) | (simp [*]; done)), H', ⟨by first | omega | exact Nat.le_refl _⟩, ⟨by repeat (first | (with_reducible first | exact HB.out | apply below_alloc | apply pw_below_drewN | apply below_drew1) | exact HB.out)⟩⟩
            · rw [if_neg c10] at H
              exact absurd H (by simp)
          · rw [if_neg c9] at H
            exact absurd H (by simp)
      · rw [if_neg c4] at H
        exact absurd H (by simp)
    · rw [if_neg c3] at H
      exact absurd H (by simp)
  case rest =>
    clear HC2
    try clear c1
    try clear p2
    try clear c3
    try clear c3b0
    try clear c3b1
    try clear c4
    try clear c4b0
    try clear c4b1
    try clear c6
    try clear c6b0
    try clear c6b1
    try clear p6
    try clear c7
    try clear c9
    try clear c9b0
    try clear c9b1
    try clear c10
    try clear c10b0
    try clear c10b1
    try clear c11
    obtain ⟨kq, x20_1, rfl, HA, HJ1, HB⟩ := hcut
    cases kq with
    | zero => exact absurd HA.out (by simp [ast_lines.j0])
    | succ kj1 =>
      have H := HA.out
      clear HA
      simp only [ast_lines.j0] at H
      by_cases c14 : x20_1 = true
      · subst c14
        have H1 : (some false) = some r := by rw [if_pos rfl] at H; exact H
        clear H
        have H := H1
        clear H1
        obtain rfl := Option.some.inj H
        go_wp2
        go_ret
        exact ⟨by first | rfl | (simp [errW_none, errW_some] <;> rfl) | (simp [*, errW_none, errW_some] <;> rfl), by repeat (first | (with_reducible first | exact HB.out | apply below_alloc | apply pw_below_drewN | apply below_drew1) | exact HB.out)⟩
      · replace c14 := Bool.eq_false_iff.mpr c14
        subst c14
        have H1 : ((strings_Split.f a0 (⟨#[10]⟩ : ByteArray)).bind fun t106 => (ast_lines.l0 kj1 a0 1 0 t106 (t106.length : Int) 0)) = some r := by rw [if_neg (show ¬ (false = true) by decide)] at H; exact H
        clear H
        have H := H1
        clear H1
        replace H := Option.bind_eq_some_iff.mp H
        obtain ⟨t106, A150, H⟩ := H
        replace H : (ast_lines.l0 kj1 a0 1 0 t106 (t106.length : Int) 0) = some r := H
        have A15 := Aside0.mk A150
        clear A150
        have H' := Aside0.mk H
        clear H
        go_wp2_with (first | ((with_reducible refine gate_callee (f := 27) rfl ?_); refine goesL_ (some 22) rfl rfl Tryd.func27 (by kernel_rfl) rfl #[.string a0, .string (⟨#[10]⟩ : ByteArray)] rfl (by (try simp only [List.map_toArray, List.map_cons, List.map_nil]); first | done | rfl | (simp only [List.length_drop, List.length_take]; rfl)) ?_; (with_reducible refine (strings_Split.calls a0 (⟨#[10]⟩ : ByteArray) t106 _ A15.out).mono ?_); rintro e w16 ⟨v107, rfl, ho0, hb⟩; refine ⟨_, rfl, ?_⟩; have n0_ := Aside0.mk (Kd.R_lower ho0 (below_size (by repeat (first | (with_reducible first | exact HB.out | apply below_alloc | apply pw_below_drewN | apply below_drew1) | exact HB.out)))); have n1_ := Aside0.mk (below_step (by repeat (first | (with_reducible first | exact HB.out | apply below_alloc | apply pw_below_drewN | apply below_drew1) | exact HB.out)) hb); clear HB; have HO108 := n0_; have HB := n1_; clear n0_ n1_; (try clear hb); (try clear hb2); (try clear hk); (try clear hi); (try clear ho0); obtain ⟨Ao17, co17, eo17⟩ := Kd.R_slice HO108.out; subst eo17))
        go_loopg [3, 4, 24] kj1 (fun kq v3 v4 v24 w' => ∃ (x3_2 : Int) (x4_2 : Int) (x24_2 : Int), v3 = .int .i64 x3_2 ∧ v4 = .int .i64 x4_2 ∧ v24 = .int .i64 x24_2 ∧ Aside0 (ast_lines.l0 kq a0 x3_2 x4_2 t106 (t106.length : Int) x24_2 = some r) ∧ Aside0 (kq ≤ kj1) ∧ Aside0 (Kd.R Kd.string 9 w' w.heap.size (fun _ => True) (.slice Ao17 t106.length co17) t106) ∧ Aside0 (Below w.heap.size w w'))
        case atStart => exact ⟨(1), (0), (0), (by first | rfl | (simp; done) | (simp [*]; done)), (by first | rfl | (simp; done) | (simp [*]; done)), (by first | rfl | (simp; done) | (simp [*]; done)), H', ⟨Nat.le_refl _⟩, ⟨by (with_reducible repeat (first | apply Kd.R_alloc | apply Kd.R_drewN | apply Kd.R_drew)); exact HO108.out⟩, ⟨by repeat (first | (with_reducible first | exact HB.out | apply below_alloc | apply pw_below_drewN | apply below_drew1) | exact HB.out)⟩⟩
        case round =>
          clear H'
          try clear c1
          try clear c2
          try clear p2
          try clear c3
          try clear c3b0
          try clear c3b1
          try clear c4
          try clear c4b0
          try clear c4b1
          try clear c6
          try clear c6b0
          try clear c6b1
          try clear p6
          try clear c7
          try clear c9
          try clear c9b0
          try clear c9b1
          try clear c10
          try clear c10b0
          try clear c10b1
          try clear c11
          try clear c14
          try clear p2
          try clear p6
          obtain ⟨x3_2, x4_2, x24_2, rfl, rfl, rfl, HA, HK2, HO_22, HB⟩ := hrel
          cases gk with
          | zero => exact absurd HA.out (by simp [ast_lines.l0])
          | succ k2 =>
            have H := HA.out
            clear HA
            simp only [ast_lines.l0] at H
            by_cases c18 : x24_2 < (t106.length : Int)
            · rw [if_pos c18] at H
              have c18b0 : decide (x24_2 < (t106.length : Int)) = true := decide_eq_true c18
              clear c18
              by_cases c19 : 0 ≤ x24_2
              · rw [if_pos c19] at H
                have c19b0 : decide (0 ≤ x24_2) = true := decide_eq_true c19
                clear c19
                by_cases c20 : x24_2 < (t106.length : Int)
                · rw [if_pos c20] at H
                  have c20b0 : decide (x24_2 < (t106.length : Int)) = true := decide_eq_true c20
                  clear c20
                  replace H := Option.bind_eq_some_iff.mp H
                  obtain ⟨t111, A210, H⟩ := H
                  replace H : (if x24_2 = 0 then (ast_lines.j2 k2 a0 x3_2 x4_2 (rdOf ByteArray.empty t106 x24_2) t111 t106 (t106.length : Int) x24_2 true) else (ast_lines.j2 k2 a0 x3_2 x4_2 (rdOf ByteArray.empty t106 x24_2) t111 t106 (t106.length : Int) x24_2 ((rdOf ByteArray.empty t106 x24_2).toList == ([] : List UInt8)))) = some r := H
                  have A21 := Aside0.mk A210
                  clear A210
                  have HC22 := Aside0.mk H
                  clear H
                  have p110 : 0 ≤ (x24_2 : Int) := of_decide_eq_true (by first | (with_reducible assumption) | assumption)
                  have q110 : x24_2 < (t106.length : Int) := of_decide_eq_true (by first | (with_reducible assumption) | assumption)
                  obtain ⟨ad110, e110, hx110_0⟩ := Kd.at_string (Kd.R_reads' HO_22.out).2.2 x24_2 p110 q110
                  cases e110
                  replace p110 := eq_true p110
                  replace q110 := eq_true q110
                  go_upto_region 8 with (first | ((with_reducible refine gate_callee (f := 115) rfl ?_); refine goesL_ (some 30) rfl rfl Tryd.func115 (by kernel_rfl) rfl #[.string (rdOf ByteArray.empty t106 x24_2), .string (⟨#[32]⟩ : ByteArray)] rfl (by (try simp only [List.map_toArray, List.map_cons, List.map_nil]); first | done | rfl | (simp only [List.length_drop, List.length_take]; rfl)) ?_; (with_reducible refine (strings_TrimLeft.calls (rdOf ByteArray.empty t106 x24_2) (⟨#[32]⟩ : ByteArray) t111 _ A21.out).mono ?_); rintro e w23 ⟨rfl, hb⟩; refine ⟨_, rfl, ?_⟩; have n0_ := Aside0.mk (Kd.R_below (by (with_reducible repeat (first | apply Kd.R_alloc | apply Kd.R_drewN | apply Kd.R_drew)); exact HO_22.out) hb); have n1_ := Aside0.mk (below_step (by repeat (first | (with_reducible first | exact HB.out | apply below_alloc | apply pw_below_drewN | apply below_drew1) | exact HB.out)) hb); clear HO_22; clear HB; have HO_22 := n0_; have HB := n1_; clear n0_ n1_; (try clear hb); (try clear hb2); (try clear hk); (try clear hi)))
                  (try simp only [Act.put, List.setIfInBounds_toArray, List.set_cons_zero, List.set_cons_succ])
                  go_cut [31] (fun v31 wc => ∃ (kq : Nat) (x31_21 : Bool), v31 = .bool x31_21 ∧ Aside0 (ast_lines.j2 kq a0 x3_2 x4_2 (rdOf ByteArray.empty t106 x24_2) t111 t106 (t106.length : Int) x24_2 x31_21 = some r) ∧ Aside0 (kq ≤ k2) ∧ Aside0 (Kd.R Kd.string 9 wc w.heap.size (fun _ => True) (.slice (some ad110) t106.length co17) t106) ∧ Aside0 (Below w.heap.size w wc))
                  case first =>
                    have H := HC22.out
                    clear HC22
                    by_cases c24 : x24_2 = 0
                    · rw [if_pos c24] at H
                      have c24b0 : (x24_2 == 0) = true := beq_iff_eq.mpr c24
                      have c24b1 : (x24_2 != 0) = false := bne_eq_false_iff_eq.mpr c24
                      clear c24
                      (first | rw [c24b0] | (simp only [i64_w, i32_w]; rw [c24b0]) | skip)
                      have H' := Aside0.mk H
                      clear H
                      go_wp2
                      go_meet
                      case rel => exact ⟨_, (true), (by first | rfl | (simp; done) | (simp [*]; done)), H', ⟨by have := HJ1.out; have := HK2.out; first | omega | exact Nat.le_refl _⟩, ⟨by (with_reducible repeat (first | apply Kd.R_alloc | apply Kd.R_drewN | apply Kd.R_drew)); exact HO_22.out⟩, ⟨by repeat (first | (with_reducible first | exact HB.out | apply below_alloc | apply pw_below_drewN | apply below_drew1) | exact HB.out)⟩⟩
                    · rw [if_neg c24] at H
                      have c24b0 : (x24_2 == 0) = false := beq_eq_false_iff_ne.mpr c24
                      have c24b1 : (x24_2 != 0) = true := bne_iff_ne.mpr c24
                      (first | rw [c24b0] | (simp only [i64_w, i32_w]; rw [c24b0]) | skip)
                      have H' := Aside0.mk H
                      clear H
                      go_wp2
                      go_meet
                      case rel => exact ⟨_, (((rdOf ByteArray.empty t106 x24_2).toList == ([] : List UInt8))), (by first | rfl | (simp; done) | (simp [*]; done)), H', ⟨by have := HJ1.out; have := HK2.out; first | omega | exact Nat.le_refl _⟩, ⟨by (with_reducible repeat (first | apply Kd.R_alloc | apply Kd.R_drewN | apply Kd.R_drew)); exact HO_22.out⟩, ⟨by repeat (first | (with_reducible first | exact HB.out | apply below_alloc | apply pw_below_drewN | apply below_drew1) | exact HB.out)⟩⟩
                  case rest =>
                    clear HC22
                    try clear c1
                    try clear p1
                    try clear q1
                    try clear hx1
                    try clear c2
                    try clear p2
                    try clear c3
                    try clear c3b0
                    try clear c3b1
                    try clear c4
                    try clear c4b0
                    try clear c4b1
                    try clear c6
                    try clear c6b0
                    try clear c6b1
                    try clear p6
                    try clear c7
                    try clear c9
                    try clear c9b0
                    try clear c9b1
                    try clear c10
                    try clear c10b0
                    try clear c10b1
                    try clear c11
                    try clear p11
                    try clear q11
                    try clear hx11
                    try clear c14
                    try clear c18
                    try clear c18b0
                    try clear c19
                    try clear c19b0
                    try clear c20
                    try clear c20b0
                    try clear c24
                    try clear c24b0
                    try clear c24b1
                    try clear hx110_0
                    try clear p110
                    try clear p2
                    try clear p6
                    try clear q110
                    obtain ⟨kq, x31_21, rfl, HA, HJ21, HO_22, HB⟩ := hcut
                    cases kq with
                    | zero => exact absurd HA.out (by simp [ast_lines.j2])
                    | succ kj21 =>
                      have H := HA.out
                      clear HA
                      simp only [ast_lines.j2] at H
                      by_cases c25 : x31_21 = true
                      · subst c25
                        have H1 : (ast_lines.l0 kj21 a0 x3_2 x4_2 t106 (t106.length : Int) (wrap64 (x24_2 + 1))) = some r := by rw [if_pos rfl] at H; exact H
                        clear H
                        have H := H1
                        clear H1
                        have H' := Aside0.mk H
                        clear H
                        go_wp2
                        go_roundg kj21
                        case measure => have := HJ1.out; have := HK2.out; have := HJ21.out; omega
                        case rel => exact ⟨(x3_2), (x4_2), (wrap64 (x24_2 + 1)), (by first | rfl | (simp; done) | (simp [*]; done)), (by first | rfl | (simp; done) | (simp [*]; done)), (by first | rfl | (simp; done) | (simp [*]; done)), H', ⟨by have := HJ1.out; have := HK2.out; have := HJ21.out; omega⟩, ⟨by (with_reducible repeat (first | apply Kd.R_alloc | apply Kd.R_drewN | apply Kd.R_drew)); exact HO_22.out⟩, ⟨by repeat (first | (with_reducible first | exact HB.out | apply below_alloc | apply pw_below_drewN | apply below_drew1) | exact HB.out)⟩⟩
                      · replace c25 := Bool.eq_false_iff.mpr c25
                        subst c25
                        have H1 : (if t111.toList = ([] : List UInt8) then (ast_lines.j3 kj21 a0 x3_2 x4_2 (rdOf ByteArray.empty t106 x24_2) t111 t106 (t106.length : Int) x24_2 true) else (if 0 ≤ 1 then (if 1 ≤ (t111.size : Int) then ((strings_Trim.f (t111.extract 0 1) (⟨#[46, 42, 91]⟩ : ByteArray)).bind fun t112 => (ast_lines.j3 kj21 a0 x3_2 x4_2 (rdOf ByteArray.empty t106 x24_2) t111 t106 (t106.length : Int) x24_2 (t112.toList == ([] : List UInt8)))) else (none)) else (none))) = some r := by rw [if_neg (show ¬ (false = true) by decide)] at H; exact H
                        clear H
                        have H := H1
                        clear H1
                        have HC26 := Aside0.mk H
                        clear H
                        go_upto_region 9 with (fail)
                        go_cut [38] (fun v38 wc => ∃ (kq : Nat) (x38_25 : Bool), v38 = .bool x38_25 ∧ Aside0 (ast_lines.j3 kq a0 x3_2 x4_2 (rdOf ByteArray.empty t106 x24_2) t111 t106 (t106.length : Int) x24_2 x38_25 = some r) ∧ Aside0 (kq ≤ kj21) ∧ Aside0 (Kd.R Kd.string 9 wc w.heap.size (fun _ => True) (.slice (some ad110) t106.length co17) t106) ∧ Aside0 (Below w.heap.size w wc))
                        case first =>
                          have H := HC26.out
                          clear HC26
                          by_cases c27 : t111.toList = ([] : List UInt8)
                          · rw [if_pos c27] at H
                            have c27b0 : (t111.toList == ([] : List UInt8)) = true := beq_iff_eq.mpr c27
                            have c27b1 : (t111.toList != ([] : List UInt8)) = false := bne_eq_false_iff_eq.mpr c27
                            clear c27
                            (first | rw [c27b0] | (simp only [i64_w, i32_w]; rw [c27b0]) | skip)
                            have H' := Aside0.mk H
                            clear H
                            go_wp2
                            go_meet
                            case rel => exact ⟨_, (true), (by first | rfl | (simp; done) | (simp [*]; done)), H', ⟨by have := HJ1.out; have := HK2.out; have := HJ21.out; first | omega | exact Nat.le_refl _⟩, ⟨by (with_reducible repeat (first | apply Kd.R_alloc | apply Kd.R_drewN | apply Kd.R_drew)); exact HO_22.out⟩, ⟨by repeat (first | (with_reducible first | exact HB.out | apply below_alloc | apply pw_below_drewN | apply below_drew1) | exact HB.out)⟩⟩
                          · rw [if_neg c27] at H
                            have c27b0 : (t111.toList == ([] : List UInt8)) = false := beq_eq_false_iff_ne.mpr c27
                            have c27b1 : (t111.toList != ([] : List UInt8)) = true := bne_iff_ne.mpr c27
                            (first | rw [c27b0] | (simp only [i64_w, i32_w]; rw [c27b0]) | skip)
                            by_cases c28 : 0 ≤ 1
                            · rw [if_pos c28] at H
                              have c28b0 := eq_true c28
                              have c28b1 : decide (0 ≤ 1) = true := decide_eq_true c28
                              clear c28
                              by_cases c29 : 1 ≤ (t111.size : Int)
                              · rw [if_pos c29] at H
                                have c29b0 := eq_true c29
                                have c29b1 : decide (1 ≤ (t111.size : Int)) = true := decide_eq_true c29
                                clear c29
                                replace H := Option.bind_eq_some_iff.mp H
                                obtain ⟨t112, A300, H⟩ := H
                                replace H : (ast_lines.j3 kj21 a0 x3_2 x4_2 (rdOf ByteArray.empty t106 x24_2) t111 t106 (t106.length : Int) x24_2 (t112.toList == ([] : List UInt8))) = some r := H
                                have A30 := Aside0.mk A300
                                clear A300
                                have H' := Aside0.mk H
                                clear H
                                go_wp2_with (first | (go_at_call 114; (with_reducible refine (strings_Trim.calls (t111.extract 0 1) (⟨#[46, 42, 91]⟩ : ByteArray) t112 _ A30.out).mono ?_); rintro e w31 ⟨rfl, hb⟩; have n0_ := Aside0.mk (Kd.R_below (by (with_reducible repeat (first | apply Kd.R_alloc | apply Kd.R_drewN | apply Kd.R_drew)); exact HO_22.out) hb); have n1_ := Aside0.mk (below_step (by repeat (first | (with_reducible first | exact HB.out | apply below_alloc | apply pw_below_drewN | apply below_drew1) | exact HB.out)) hb); clear HO_22; clear HB; have HO_22 := n0_; have HB := n1_; clear n0_ n1_; (try clear hb); (try clear hb2); (try clear hk); (try clear hi)))
                                go_meet
                                case rel => exact ⟨_, ((t112.toList == ([] : List UInt8))), (by first | rfl | (simp; done) | (simp [*]; done)), H', ⟨by have := HJ1.out; have := HK2.out; have := HJ21.out; first | omega | exact Nat.le_refl _⟩, ⟨by (with_reducible repeat (first | apply Kd.R_alloc | apply Kd.R_drewN | apply Kd.R_drew)); exact HO_22.out⟩, ⟨by repeat (first | (with_reducible first | exact HB.out | apply below_alloc | apply pw_below_drewN | apply below_drew1) | exact HB.out)⟩⟩
                              · rw [if_neg c29] at H
                                exact absurd H (by simp)
                            · rw [if_neg c28] at H
                              exact absurd H (by simp)
                        case rest =>
                          clear HC26
                          try clear c1
                          try clear p1
                          try clear q1
                          try clear hx1
                          try clear c2
                          try clear p2
                          try clear c3
                          try clear c3b0
                          try clear c3b1
                          try clear c4
                          try clear c4b0
                          try clear c4b1
                          try clear c6
                          try clear c6b0
                          try clear c6b1
                          try clear p6
                          try clear c7
                          try clear c9
                          try clear c9b0
                          try clear c9b1
                          try clear c10
                          try clear c10b0
                          try clear c10b1
                          try clear c11
                          try clear p11
                          try clear q11
                          try clear hx11
                          try clear c14
                          try clear c18
                          try clear c18b0
                          try clear c19
                          try clear c19b0
                          try clear c20
                          try clear c20b0
                          try clear c24
                          try clear c24b0
                          try clear c24b1
                          try clear c25
                          try clear c27
                          try clear c27b0
                          try clear c27b1
                          try clear c28
                          try clear c28b0
                          try clear c28b1
                          try clear c29
                          try clear c29b0
                          try clear c29b1
                          try clear hx110_0
                          try clear p1
                          try clear p11
                          try clear p110
                          try clear p2
                          try clear p6
                          try clear q1
                          try clear q11
                          try clear q110
                          obtain ⟨kq, x38_25, rfl, HA, HJ25, HO_22, HB⟩ := hcut
                          cases kq with
                          | zero => exact absurd HA.out (by simp [ast_lines.j3])
                          | succ kj25 =>
                            have H := HA.out
                            clear HA
                            simp only [ast_lines.j3] at H
                            by_cases c32 : x38_25 = true
                            · subst c32
                              have H1 : (some false) = some r := by rw [if_pos rfl] at H; exact H
                              clear H
                              have H := H1
                              clear H1
                              obtain rfl := Option.some.inj H
                              go_wp2
                              go_ret
                              exact ⟨by first | rfl | (simp [errW_none, errW_some] <;> rfl) | (simp [*, errW_none, errW_some] <;> rfl), by repeat (first | (with_reducible first | exact HB.out | apply below_alloc | apply pw_below_drewN | apply below_drew1) | exact HB.out)⟩
                            · replace c32 := Bool.eq_false_iff.mpr c32
                              subst c32
                              have H1 : (if x4_2 = 0 then (ast_lines.l0 kj25 a0 (wrap64 (((rdOf ByteArray.empty t106 x24_2).size : Int) - (t111.size : Int))) (wrap64 (x4_2 + 1)) t106 (t106.length : Int) (wrap64 (x24_2 + 1))) else (if (wrap64 (((rdOf ByteArray.empty t106 x24_2).size : Int) - (t111.size : Int))) < x3_2 then (ast_lines.l0 kj25 a0 (wrap64 (((rdOf ByteArray.empty t106 x24_2).size : Int) - (t111.size : Int))) (wrap64 (x4_2 + 1)) t106 (t106.length : Int) (wrap64 (x24_2 + 1))) else (ast_lines.l0 kj25 a0 x3_2 (wrap64 (x4_2 + 1)) t106 (t106.length : Int) (wrap64 (x24_2 + 1))))) = some r := by rw [if_neg (show ¬ (false = true) by decide)] at H; exact H
                              clear H
                              have H := H1
                              clear H1
                              by_cases c33 : x4_2 = 0
                              · rw [if_pos c33] at H
                                have c33b0 : (x4_2 == 0) = true := beq_iff_eq.mpr c33
                                have c33b1 : (x4_2 != 0) = false := bne_eq_false_iff_eq.mpr c33
                                clear c33
                                have H' := Aside0.mk H
                                clear H
                                go_wp2
                                go_roundg kj25
                                case measure => have := HJ1.out; have := HK2.out; have := HJ21.out; have := HJ25.out; omega
                                case rel => exact ⟨(wrap64 (((rdOf ByteArray.empty t106 x24_2).size : Int) - (t111.size : Int))), (wrap64 (x4_2 + 1)), (wrap64 (x24_2 + 1)), (by first | rfl | (simp; done) | (simp [*]; done)), (by first | rfl | (simp; done) | (simp [*]; done)), (by first | rfl | (simp; done) | (simp [*]; done)), H', ⟨by have := HJ1.out; have := HK2.out; have := HJ21.out; have := HJ25.out; omega⟩, ⟨by (with_reducible repeat (first | apply Kd.R_alloc | apply Kd.R_drewN | apply Kd.R_drew)); exact HO_22.out⟩, ⟨by repeat (first | (with_reducible first | exact HB.out | apply below_alloc | apply pw_below_drewN | apply below_drew1) | exact HB.out)⟩⟩
                              · rw [if_neg c33] at H
                                have c33b0 : (x4_2 == 0) = false := beq_eq_false_iff_ne.mpr c33
                                have c33b1 : (x4_2 != 0) = true := bne_iff_ne.mpr c33
                                by_cases c34 : (wrap64 (((rdOf ByteArray.empty t106 x24_2).size : Int) - (t111.size : Int))) < x3_2
                                · rw [if_pos c34] at H
                                  have c34b0 : decide ((wrap64 (((rdOf ByteArray.empty t106 x24_2).size : Int) - (t111.size : Int))) < x3_2) = true := decide_eq_true c34
                                  clear c34
                                  have H' := Aside0.mk H
                                  clear H
                                  go_wp2
                                  go_roundg kj25
                                  case measure => have := HJ1.out; have := HK2.out; have := HJ21.out; have := HJ25.out; omega
                                  case rel => exact ⟨(wrap64 (((rdOf ByteArray.empty t106 x24_2).size : Int) - (t111.size : Int))), (wrap64 (x4_2 + 1)), (wrap64 (x24_2 + 1)), (by first | rfl | (simp; done) | (simp [*]; done)), (by first | rfl | (simp; done) | (simp [*]; done)), (by first | rfl | (simp; done) | (simp [*]; done)), H', ⟨by have := HJ1.out; have := HK2.out; have := HJ21.out; have := HJ25.out; omega⟩, ⟨by (with_reducible repeat (first | apply Kd.R_alloc | apply Kd.R_drewN | apply Kd.R_drew)); exact HO_22.out⟩, ⟨by repeat (first | (with_reducible first | exact HB.out | apply below_alloc | apply pw_below_drewN | apply below_drew1) | exact HB.out)⟩⟩
                                · rw [if_neg c34] at H
                                  have c34b0 : decide ((wrap64 (((rdOf ByteArray.empty t106 x24_2).size : Int) - (t111.size : Int))) < x3_2) = false := decide_eq_false c34
                                  clear c34
                                  have H' := Aside0.mk H
                                  clear H
                                  go_wp2
                                  go_roundg kj25
                                  case measure => have := HJ1.out; have := HK2.out; have := HJ21.out; have := HJ25.out; omega
                                  case rel => exact ⟨(x3_2), (wrap64 (x4_2 + 1)), (wrap64 (x24_2 + 1)), (by first | rfl | (simp; done) | (simp [*]; done)), (by first | rfl | (simp; done) | (simp [*]; done)), (by first | rfl | (simp; done) | (simp [*]; done)), H', ⟨by have := HJ1.out; have := HK2.out; have := HJ21.out; have := HJ25.out; omega⟩, ⟨by (with_reducible repeat (first | apply Kd.R_alloc | apply Kd.R_drewN | apply Kd.R_drew)); exact HO_22.out⟩, ⟨by repeat (first | (with_reducible first | exact HB.out | apply below_alloc | apply pw_below_drewN | apply below_drew1) | exact HB.out)⟩⟩
                · rw [if_neg c20] at H
                  exact absurd H (by simp)
              · rw [if_neg c19] at H
                exact absurd H (by simp)
            · rw [if_neg c18] at H
              have c18b0 : decide (x24_2 < (t106.length : Int)) = false := decide_eq_false c18
              clear c18
              by_cases c35 : x4_2 = 0
              · rw [if_pos c35] at H
                have c35b0 : (x4_2 == 0) = true := beq_iff_eq.mpr c35
                have c35b1 : (x4_2 != 0) = false := bne_eq_false_iff_eq.mpr c35
                clear c35
                obtain rfl := Option.some.inj H
                go_wp2
                go_ret
                exact ⟨by first | rfl | (simp [errW_none, errW_some] <;> rfl) | (simp [*, errW_none, errW_some] <;> rfl), by repeat (first | (with_reducible first | exact HB.out | apply below_alloc | apply pw_below_drewN | apply below_drew1) | exact HB.out)⟩
              · rw [if_neg c35] at H
                have c35b0 : (x4_2 == 0) = false := beq_eq_false_iff_ne.mpr c35
                have c35b1 : (x4_2 != 0) = true := bne_iff_ne.mpr c35
                by_cases c36 : x3_2 = 0
                · rw [if_pos c36] at H
                  have c36b0 : (x3_2 == 0) = true := beq_iff_eq.mpr c36
                  have c36b1 : (x3_2 != 0) = false := bne_eq_false_iff_eq.mpr c36
                  clear c36
                  obtain rfl := Option.some.inj H
                  go_wp2
                  go_ret
                  exact ⟨by first | rfl | (simp [errW_none, errW_some] <;> rfl) | (simp [*, errW_none, errW_some] <;> rfl), by repeat (first | (with_reducible first | exact HB.out | apply below_alloc | apply pw_below_drewN | apply below_drew1) | exact HB.out)⟩
                · rw [if_neg c36] at H
                  have c36b0 : (x3_2 == 0) = false := beq_eq_false_iff_ne.mpr c36
                  have c36b1 : (x3_2 != 0) = true := bne_iff_ne.mpr c36
                  by_cases c37 : 0 ≤ 1
                  · rw [if_pos c37] at H
                    have c37b0 := eq_true c37
                    have c37b1 : decide (0 ≤ 1) = true := decide_eq_true c37
                    clear c37
                    by_cases c38 : 1 ≤ (a0.size : Int)
                    · rw [if_pos c38] at H
                      have c38b0 := eq_true c38
                      have c38b1 : decide (1 ≤ (a0.size : Int)) = true := decide_eq_true c38
                      clear c38
                      replace H := Option.bind_eq_some_iff.mp H
                      obtain ⟨t109, A390, H⟩ := H
                      replace H : (some (t109.toList != ([] : List UInt8))) = some r := H
                      have A39 := Aside0.mk A390
                      clear A390
                      obtain rfl := Option.some.inj H
                      go_wp2_with (first | (go_at_call 114; (with_reducible refine (strings_Trim.calls (a0.extract 0 1) (⟨#[46, 42, 91]⟩ : ByteArray) t109 _ A39.out).mono ?_); rintro e w40 ⟨rfl, hb⟩; have n0_ := Aside0.mk (Kd.R_below (by (with_reducible repeat (first | apply Kd.R_alloc | apply Kd.R_drewN | apply Kd.R_drew)); exact HO_22.out) hb); have n1_ := Aside0.mk (below_step (by repeat (first | (with_reducible first | exact HB.out | apply below_alloc | apply pw_below_drewN | apply below_drew1) | exact HB.out)) hb); clear HO_22; clear HB; have HO_22 := n0_; have HB := n1_; clear n0_ n1_; (try clear hb); (try clear hb2); (try clear hk); (try clear hi)))
                      go_ret
                      exact ⟨by first | rfl | (cases ht_ : t109.toList <;> simp [ht_]; done) | (cases ht_ : t109.toList <;> rfl) | (refine congrArg Ending.returned (congrArg Value.bool ?_); cases ht_ : t109.toList <;> simp_all; done) | (simp [errW_none, errW_some] <;> rfl) | (simp [*, errW_none, errW_some] <;> rfl), by repeat (first | (with_reducible first | exact HB.out | apply below_alloc | apply pw_below_drewN | apply below_drew1) | exact HB.out)⟩
                    · rw [if_neg c38] at H
                      exact absurd H (by simp)
                  · rw [if_neg c37] at H
                    exact absurd H (by simp)
end Go.Proofs.YtipmphgkdomebaaDoor.K
namespace Go.Proofs.YtipmphgkdomebaaDoor
open Go.RowKit
set_option linter.unusedVariables false
set_option linter.unusedSimpArgs false
def setAll (b : Nat) : World → Nat → List Value → World
  | W, _, [] => W
  | W, i, v :: vs => setAll b (W.setCell ⟨b, i, none⟩ v) (i + 1) vs
def over : Array Value → Nat → List Value → Array Value
  | cs, _, [] => cs
  | cs, i, v :: vs => over (cs.setIfInBounds i v) (i + 1) vs
theorem over_at : ∀ (vs : List Value) (cs : Array Value) (i j : Nat), i + vs.length ≤ cs.size → (over cs i vs)[j]? = if i ≤ j ∧ j < i + vs.length then vs[j - i]? else cs[j]?
  | [], cs, i, j, _ => by rw [over, if_neg (fun h => absurd h.2 (by have := h.1; rw [List.length_nil]; omega))]
  | v :: vs, cs, i, j, h => by
    have hl : (v :: vs).length = vs.length + 1 := rfl
    rw [over, over_at vs _ (i + 1) j (by rw [Array.size_setIfInBounds]; omega), hl]
    by_cases h1 : i + 1 ≤ j ∧ j < i + 1 + vs.length
    · rw [if_pos h1, if_pos (by omega), show j - i = (j - (i + 1)) + 1 by omega, List.getElem?_cons_succ]
    · rw [if_neg h1, Array.getElem?_setIfInBounds]
      by_cases h2 : i = j
      · subst h2
        rw [if_pos rfl, if_pos (by omega), if_pos (by omega), Nat.sub_self]
        rfl
      · rw [if_neg h2, if_neg (by omega)]
theorem over_all (vs : List Value) (cs : Array Value) (h : vs.length = cs.size) : over cs 0 vs = vs.toArray := by
  apply Array.ext_getElem?
  intro j
  rw [over_at vs cs 0 j (by omega)]
  by_cases hj : j < vs.length
  · rw [if_pos (by omega), Nat.sub_zero, List.getElem?_toArray]
  · rw [if_neg (by omega), Array.getElem?_eq_none (by omega), Array.getElem?_eq_none (by rw [List.size_toArray]; omega)]
theorem setAll_at {b : Nat} {T : TypeId} {fr : Nat × Nat} : ∀ (vs : List Value) (W : World) (cs : Array Value) (i : Nat), W.heap[b]? = some (.cells cs T fr) → (setAll b W i vs).heap[b]? = some (.cells (over cs i vs) T fr)
  | [], _, _, _, h => h
  | v :: vs, W, cs, i, h => setAll_at vs _ _ _ (heap_set h)
theorem setAll_far {b k : Nat} (h : k ≠ b) : ∀ (vs : List Value) (W : World) (i : Nat), (setAll b W i vs).heap[k]? = W.heap[k]?
  | [], _, _ => rfl
  | v :: vs, W, i => (setAll_far h vs _ _).trans (heap_far h)
theorem setAll_below {b : Nat} : ∀ (vs : List Value) (W : World) (i : Nat), Below b W (setAll b W i vs)
  | [], W, _ => Below.refl b W
  | v :: vs, W, i => ((Below.refl b W).setCell (p := ⟨b, i, none⟩) (Nat.le_refl b) v).trans (setAll_below vs _ _)
theorem Own.setAll {w W : World} {L : List (Nat × Obj)} (h : Own w L W) (i : Nat) {b : Nat} {cs : Array Value} {T : TypeId} {fr : Nat × Nat} (vs : List Value) (hi : L[i]? = some (b, .cells cs T fr)) (hl : vs.length = cs.size) :
    Own w (L.set i (b, .cells vs.toArray T fr)) (Go.Proofs.YtipmphgkdomebaaDoor.setAll b W 0 vs) :=
  h.put i hi ((setAll_at vs W cs 0 (h.at hi)).trans (by rw [over_all vs cs hl])) (fun k hk => setAll_far hk vs W 0) (setAll_below vs W 0)
end Go.Proofs.YtipmphgkdomebaaDoor
namespace Go.Proofs.YtipmphgkdomebaaDoor
open Go.RowKit Go.Proofs.YtipmphgkdomebaaDoorW.PrintWords
set_option linter.unusedVariables false
set_option linter.unusedSimpArgs false
abbrev Tabs (w : World) : Prop := Lib.Utf8Tabs 0 1 w
theorem Tabs_step {w W : World} (h : Tabs w) (b : Below w.heap.size w W) : Tabs W := Utf8Tabs_below h b
theorem valid_any (s : ByteArray) (w : World) (hs : s.size ≤ 9223372036854775807) (hT : Tabs w) :
    Calls Tryd.prog 35 #[.string s] w fun e w' => e = .returned (.bool (Lib.validD s.data.toList)) ∧ Below w.heap.size w w' := Any.utf8_ValidString Tryd.laysx196 s w hs hT
set_option maxRecDepth 100000 in
set_option maxHeartbeats 4000000 in
theorem cont_any (s c : ByteArray) (w : World) (hs : s.size < 4294967281) (hc : c.size < 1000) (has : ∀ (j : Nat) b, s.data.toList[j]? = some b → b.toNat < 128) (hac : ∀ (j : Nat) b, c.data.toList[j]? = some b → b.toNat < 128) :
    Calls Tryd.prog 73 #[.string s, .string c] w fun e w' => e = .returned (.bool (decide (0 ≤ Lib.indexAny s.data.toList c.data.toList))) ∧ Below w.heap.size w w' := by
  have cI := Tryd.strings_IndexAny_laid s c w hs (by omega) has hac
  generalize Lib.indexAny s.data.toList c.data.toList = r at *
  go_enter Tryd.func73, Tryd.ntmps73
  go_wp2_with (go_at_call 113; refine cI.mono ?_; rintro e W1 ⟨rfl, b1⟩)
  go_ret
  exact ⟨rfl, b1⟩
def msgE (s : ByteArray) : EN := ⟨1, 0, ⟨#[]⟩, ⟨#[109]⟩, 1, fun _ => s, fun _ => .no, 0, fun _ => ⟨#[]⟩, fun _ => 0, fun _ _ => ⟨#[]⟩, fun _ _ => .no, 0, 0⟩
set_option maxRecDepth 100000 in
set_option maxHeartbeats 4000000 in
theorem message_any (s : ByteArray) (w : World) : Calls Tryd.prog 33 #[.string s] w fun e w' => (∃ g, e = .returned (.agg #[.int .i64 1, .int .i64 0, .string ⟨#[]⟩, .string ⟨#[109]⟩, .slice (some ⟨g, 0, none⟩) 1 1, .slice none 0 0, .int .i64 0, .int .i64 0]) ∧ (msgE s).R w' (some ⟨g, 0, none⟩) 1 none 0) ∧ Below w.heap.size w w' := by
  have h0 := Own.one w (.cells #[.int .i64 0, .int .i64 0, .string ⟨#[]⟩, .string ⟨#[]⟩, .slice none 0 0, .slice none 0 0, .int .i64 0, .int .i64 0] 29)
  go_enter Tryd.func33, Tryd.ntmps33
  go_upto_region 1 with (fail)
  generalize w.alloc _ = W0 at *
  have h1 := h0.alloc (.cells #[.string s, .pointer none] 42)
  have r0 := h1.c 1 0 rfl rfl
  have f0 := h1.fz 1 0 rfl
  have r1 := h1.c 1 1 rfl rfl
  have f1 := h1.fz 1 1 rfl
  have r2 := h1.c 1 2 rfl rfl
  have f2 := h1.fz 1 2 rfl
  have r3 := h1.c 1 3 rfl rfl
  have f3 := h1.fz 1 3 rfl
  have r4 := h1.c 1 4 rfl rfl
  have f4 := h1.fz 1 4 rfl
  have r5 := h1.c 1 5 rfl rfl
  have f5 := h1.fz 1 5 rfl
  have r6 := h1.c 1 6 rfl rfl
  have f6 := h1.fz 1 6 rfl
  have r7 := h1.c 1 7 rfl rfl
  have f7 := h1.fz 1 7 rfl
  go_upto_region 2 with (fail)
  have h2 : Own w _ (((((((((W0.alloc (.cells #[.string s, .pointer none] 42)).setCell ⟨w.heap.size, 0, none⟩ (.int .i64 1)).setCell ⟨w.heap.size, 1, none⟩ (.int .i64 0)).setCell ⟨w.heap.size, 2, none⟩ (.string ⟨#[]⟩)).setCell ⟨w.heap.size, 3, none⟩ (.string ⟨#[109]⟩)).setCell ⟨w.heap.size, 4, none⟩ (.slice (some ⟨W0.heap.size, 0, none⟩) 1 1)).setCell ⟨w.heap.size, 5, none⟩ (.slice none 0 0)).setCell ⟨w.heap.size, 6, none⟩ (.int .i64 0)).setCell ⟨w.heap.size, 7, none⟩ (.int .i64 0)) := Own.setAll h1 1 [.int .i64 1, .int .i64 0, .string ⟨#[]⟩, .string ⟨#[109]⟩, .slice (some ⟨W0.heap.size, 0, none⟩) 1 1, .slice none 0 0, .int .i64 0, .int .i64 0] rfl rfl
  clear h0 h1 r0 f0 r1 f1 r2 f2 r3 f3 r4 f4 r5 f5 r6 f6 r7 f7
  generalize (((((((((W0.alloc (.cells #[.string s, .pointer none] 42)).setCell ⟨w.heap.size, 0, none⟩ (.int .i64 1)).setCell ⟨w.heap.size, 1, none⟩ (.int .i64 0)).setCell ⟨w.heap.size, 2, none⟩ (.string ⟨#[]⟩)).setCell ⟨w.heap.size, 3, none⟩ (.string ⟨#[109]⟩)).setCell ⟨w.heap.size, 4, none⟩ (.slice (some ⟨W0.heap.size, 0, none⟩) 1 1)).setCell ⟨w.heap.size, 5, none⟩ (.slice none 0 0)).setCell ⟨w.heap.size, 6, none⟩ (.int .i64 0)).setCell ⟨w.heap.size, 7, none⟩ (.int .i64 0)) = W1 at *
  have q0 := h2.c 1 0 rfl rfl
  have q1 := h2.c 1 1 rfl rfl
  have q2 := h2.c 1 2 rfl rfl
  have q3 := h2.c 1 3 rfl rfl
  have q4 := h2.c 1 4 rfl rfl
  have q5 := h2.c 1 5 rfl rfl
  have q6 := h2.c 1 6 rfl rfl
  have q7 := h2.c 1 7 rfl rfl
  have y0 := h2.c 0 0 rfl rfl
  have y1 := h2.c 0 1 rfl rfl
  have bel := h2.bel
  refine bodyPost_ret (v := .agg #[.int .i64 1, .int .i64 0, .string ⟨#[]⟩, .string ⟨#[109]⟩, .slice (some ⟨W0.heap.size, 0, none⟩) 1 1, .slice none 0 0, .int .i64 0, .int .i64 0]) (by simp [results, Tryd.results33, go_sem, q0, q1, q2, q3, q4, q5, q6, q7]) rfl ?_
  refine ⟨⟨W0.heap.size, rfl, Nat.le_refl _, Nat.le_refl _, ?_, ?_⟩, bel⟩
  · intro e he
    obtain rfl : e = 0 := Nat.lt_one_iff.1 he
    exact ⟨W0.heap.size, 0, none, rfl, y0, y1, .inl ⟨rfl, rfl⟩⟩
  · intro v hv
    exact absurd hv (Nat.not_lt_zero _)
theorem msgE_fin (s : ByteArray) (hz : s.size ≤ 281474976710656) : (msgE s).Fin :=
  ⟨Nat.zero_le _, (by show 1 ≤ 281474976710656; decide), (by show 1 ≤ 281474976710656; decide), Nat.zero_le _, fun i _ => ⟨hz, trivial⟩, fun i hi => absurd hi (Nat.not_lt_zero _)⟩
def msgB (s : ByteArray) (va an lv : Bool) : Bool := msgOk (msgE s) (allTo (okE (fun _ => s) (fun _ => .no) (fun _ => va) (fun _ => an) (fun _ => false)) 1 && (decide (1 = 0) || lv)) (fun _ => false)
theorem cat_one (s : ByteArray) : catP (fun _ => s) (fun _ => .no) 1 = s.data.toList := by
  unfold catP catP
  rw [List.nil_append]
  rfl
theorem msg_right (s : ByteArray) (g : Nat) (w : World) (hT : Tabs w) (hM : G.Tab_ w) (hR : (msgE s).R w (some ⟨g, 0, none⟩) 1 none 0) (hz : s.size ≤ 1000) (has : ∀ (j : Nat) b, s.data.toList[j]? = some b → b.toNat < 128) (k : Nat) (lv : Bool) (hl : K.ast_lines.f k s = some lv) (r : Bool)
    (hr : msgB s (Lib.validD s.data.toList) (decide (0 ≤ Lib.indexAny s.data.toList [123, 125, 13])) lv = r) :
    Calls Tryd.prog 18 #[.agg #[.int .i64 1, .int .i64 0, .string ⟨#[]⟩, .string ⟨#[109]⟩, .slice (some ⟨g, 0, none⟩) 1 1, .slice none 0 0, .int .i64 0, .int .i64 0]] w fun e w' => e = .returned (.bool r) ∧ Below w.heap.size w w' := by
  rw [← hr]
  have hz2 := Lib.size_eq s
  refine right_msg (msgE s) (some ⟨g, 0, none⟩) none 1 0 _ (fun _ => false) w (msgE_fin s (by omega)) hR (.inl rfl) ?_ (fun i hi => absurd hi (Nat.not_lt_zero _))
  intro W hW
  refine pattern_any (some ⟨g, 0, none⟩) 1 1 (fun _ => s) (fun _ => .no) 0 (fun _ => Lib.validD s.data.toList) (fun _ => decide (0 ≤ Lib.indexAny s.data.toList [123, 125, 13])) (fun _ => false) lv W (by decide) (hR.val.keep (Kept.of hW)) (by rw [cat_one]; omega) ⟨by decide, by decide⟩ ?_ ?_ ?_ ?_
  · intro i hi W2 hW2
    exact valid_any s W2 (by omega) (Tabs_step (Tabs_step hT hW) hW2)
  · intro i hi W2 hW2
    exact cont_any s ⟨#[123, 125, 13]⟩ W2 (by omega) (by decide) has (G.ascii_at (by kernel_rfl))
  · intro i hi r hr2
    exact hr2.elim
  · intro h0 W2 hW2
    have e : (⟨(catP (fun _ => s) (fun _ => .no) 1).toArray⟩ : ByteArray) = s := by
      rw [cat_one]
    rw [e]
    exact K.ast_lines.calls k s lv W2 hl ((hM.step hW).step hW2)
theorem asc_list {s : ByteArray} (h : G.asciiB s = true) : ∀ (j : Nat) b, s.data.toList[j]? = some b → b.toNat < 128 := G.ascii_at h
set_option maxRecDepth 100000 in
set_option maxHeartbeats 4000000 in
theorem head7_any (w : World) (hT : Tabs w) (hM : G.Tab_ w) : Calls Tryd.prog 16 #[] w fun e w' => e = .returned (.bool true) ∧ Below w.heap.size w w' := by
  have cM1 := message_any ⟨#[46, 97, 10, 98]⟩
  have cM2 := message_any ⟨#[97, 10, 32, 98]⟩
  have cM3 := message_any ⟨#[46, 97, 10, 32, 98]⟩
  have cMx := message_any ⟨#[120]⟩
  have cMy := message_any ⟨#[121]⟩
  have cR1 := fun g W (hW : Below w.heap.size w W) hR => msg_right ⟨#[46, 97, 10, 98]⟩ g W (Tabs_step hT hW) (hM.step hW) hR (by decide) (asc_list (by kernel_rfl)) 20 true (by kernel_rfl) true (by kernel_rfl)
  have cR2 := fun g W (hW : Below w.heap.size w W) hR => msg_right ⟨#[97, 10, 32, 98]⟩ g W (Tabs_step hT hW) (hM.step hW) hR (by decide) (asc_list (by kernel_rfl)) 20 true (by kernel_rfl) true (by kernel_rfl)
  have cR3 := fun g W (hW : Below w.heap.size w W) hR => msg_right ⟨#[46, 97, 10, 32, 98]⟩ g W (Tabs_step hT hW) (hM.step hW) hR (by decide) (asc_list (by kernel_rfl)) 20 false (by kernel_rfl) false (by kernel_rfl)
  have e1 : (msgE ⟨#[120]⟩).same (msgE ⟨#[120]⟩) = true := by kernel_rfl
  have e2 : (msgE ⟨#[120]⟩).same (msgE ⟨#[121]⟩) = false := by kernel_rfl
  have cE1 : ∀ (g1 g2 : Nat) (W : World), (msgE ⟨#[120]⟩).R W (some ⟨g1, 0, none⟩) 1 none 0 → (msgE ⟨#[120]⟩).R W (some ⟨g2, 0, none⟩) 1 none 0 → Calls Tryd.prog 20 #[.agg #[.int .i64 1, .int .i64 0, .string ⟨#[]⟩, .string ⟨#[109]⟩, .slice (some ⟨g1, 0, none⟩) 1 1, .slice none 0 0, .int .i64 0, .int .i64 0], .agg #[.int .i64 1, .int .i64 0, .string ⟨#[]⟩, .string ⟨#[109]⟩, .slice (some ⟨g2, 0, none⟩) 1 1, .slice none 0 0, .int .i64 0, .int .i64 0]] W fun e w' => e = .returned (.bool true) ∧ Below W.heap.size W w' := fun g1 g2 W hR1 hR2 => by
    have h := entry_same (msgE ⟨#[120]⟩) (msgE ⟨#[120]⟩) (some ⟨g1, 0, none⟩) (some ⟨g2, 0, none⟩) none none 1 1 0 0 W (msgE_fin _ (by decide)) (msgE_fin _ (by decide)) hR1 hR2
    rw [e1] at h
    exact h
  have cE2 : ∀ (g1 g2 : Nat) (W : World), (msgE ⟨#[120]⟩).R W (some ⟨g1, 0, none⟩) 1 none 0 → (msgE ⟨#[121]⟩).R W (some ⟨g2, 0, none⟩) 1 none 0 → Calls Tryd.prog 20 #[.agg #[.int .i64 1, .int .i64 0, .string ⟨#[]⟩, .string ⟨#[109]⟩, .slice (some ⟨g1, 0, none⟩) 1 1, .slice none 0 0, .int .i64 0, .int .i64 0], .agg #[.int .i64 1, .int .i64 0, .string ⟨#[]⟩, .string ⟨#[109]⟩, .slice (some ⟨g2, 0, none⟩) 1 1, .slice none 0 0, .int .i64 0, .int .i64 0]] W fun e w' => e = .returned (.bool false) ∧ Below W.heap.size W w' := fun g1 g2 W hR1 hR2 => by
    have h := entry_same (msgE ⟨#[120]⟩) (msgE ⟨#[121]⟩) (some ⟨g1, 0, none⟩) (some ⟨g2, 0, none⟩) none none 1 1 0 0 W (msgE_fin _ (by decide)) (msgE_fin _ (by decide)) hR1 hR2
    rw [e2] at h
    exact h
  clear e1 e2
  go_enter Tryd.func16, Tryd.ntmps16
  go_wp2_with (first
    | (go_at_call 33; have need_ := t9; clear need_; (with_reducible refine (cMx _).mono ?_); rintro e W10 ⟨⟨g6, rfl, R6⟩, b10⟩; have t10 := below_on t9 b10 t9.size)
    | (go_at_call 33; have need_ := R4; clear need_; (with_reducible refine (cMx _).mono ?_); rintro e W8 ⟨⟨g5, rfl, R5⟩, b8⟩; have t8 := below_on t7 b8 t7.size)
    | (go_at_call 33; have need_ := t6; clear need_; (with_reducible refine (cMx _).mono ?_); rintro e W7 ⟨⟨g4, rfl, R4⟩, b7⟩; have t7 := below_on t6 b7 t6.size)
    | (go_at_call 33; (with_reducible refine (cM1 _).mono ?_); rintro e W1 ⟨⟨g1, rfl, R1⟩, b1⟩)
    | (go_at_call 18; (with_reducible refine (cR1 _ _ b1 R1).mono ?_); rintro e W2 ⟨rfl, b2⟩; have t2 := below_on b1 b2 b1.size)
    | (go_at_call 33; (with_reducible refine (cM2 _).mono ?_); rintro e W3 ⟨⟨g2, rfl, R2⟩, b3⟩; have t3 := below_on t2 b3 t2.size)
    | (go_at_call 18; (with_reducible refine (cR2 _ _ t3 R2).mono ?_); rintro e W4 ⟨rfl, b4⟩; have t4 := below_on t3 b4 t3.size)
    | (go_at_call 33; (with_reducible refine (cM3 _).mono ?_); rintro e W5 ⟨⟨g3, rfl, R3⟩, b5⟩; have t5 := below_on t4 b5 t4.size)
    | (go_at_call 18; (with_reducible refine (cR3 _ _ t5 R3).mono ?_); rintro e W6 ⟨rfl, b6⟩; have t6 := below_on t5 b6 t5.size)
    | (go_at_call 20; (with_reducible refine (cE1 _ _ _ (R4.keep (Kept.of b8)) R5).mono ?_); rintro e W9 ⟨rfl, b9⟩; have t9 := below_on t8 b9 t8.size)
    | (go_at_call 33; (with_reducible refine (cMy _).mono ?_); rintro e W11 ⟨⟨g7, rfl, R7⟩, b11⟩; have t11 := below_on t10 b11 t10.size)
    | (go_at_call 20; (with_reducible refine (cE2 _ _ _ (R6.keep (Kept.of b11)) R7).mono ?_); rintro e W12 ⟨rfl, b12⟩; have t12 := below_on t11 b12 t11.size))
  go_ret
  exact ⟨rfl, t12⟩
end Go.Proofs.YtipmphgkdomebaaDoor
namespace Go.Proofs.YtipmphgkdomebaaDoor
open Go.RowKit
set_option linter.unusedVariables false
set_option linter.unusedSimpArgs false
theorem all_true {q : Nat → Bool} : ∀ {n : Nat}, (∀ i, q i = true) → allTo q n = true
  | 0, _ => rfl
  | n + 1, h => by unfold allTo; rw [all_true h, h n]; rfl
theorem self_step (x : EX) (hx : x.isNo = false) (ha : ∀ i, (x.av i).same (x.av i) = true) (hi : x.inner.same x.inner = true) (hp : ∀ v e, (x.ep v e).same (x.ep v e) = true) : x.same x = true := by
  rw [same_eq hx hx, all_true (fun i => by unfold argS; rw [ha i]; simp), all_true (fun v => by unfold varS patS; rw [all_true (fun e => by unfold elS; rw [hp v e]; simp)]; simp), hi]
  simp
theorem same_self : ∀ x : EX, x.same x = true := by
  intro x
  induction x with
  | no => rfl
  | mk kd tx nm at_ na an av inner nv vk vd ne et ep iha ihi ihp => exact self_step _ rfl iha ihi ihp
theorem patS_self (n : Nat) (t : Nat → ByteArray) (x : Nat → EX) : patS n n t t x x = true := by
  unfold patS
  rw [all_true (fun e => by unfold elS; rw [same_self]; simp)]
  simp
theorem ent_self (x : EN) (u v : Int) : x.same { x with fr := u, ti := v } = true := by
  unfold EN.same
  have h : allTo (attS x { x with fr := u, ti := v }) x.na = true := all_true (fun i => by unfold attS; rw [patS_self]; simp)
  rw [h, patS_self]
  simp
end Go.Proofs.YtipmphgkdomebaaDoor
namespace Go.Proofs.YtipmphgkdomebaaDoor
open Go.RowKit Go.Proofs.YtipmphgkdomebaaDoorW.PrintWords
set_option linter.unusedVariables false
set_option linter.unusedSimpArgs false
def chE : Nat → EX
  | 0 => .mk 2 ⟨#[]⟩ ⟨#[120]⟩ ⟨#[]⟩ 0 (fun _ => ⟨#[]⟩) (fun _ => .no) .no 0 (fun _ => ⟨#[]⟩) (fun _ => false) (fun _ => 0) (fun _ _ => ⟨#[]⟩) (fun _ _ => .no)
  | k + 1 => .mk 6 ⟨#[]⟩ ⟨#[]⟩ ⟨#[]⟩ 0 (fun _ => ⟨#[]⟩) (fun _ => .no) (chE k) 0 (fun _ => ⟨#[]⟩) (fun _ => false) (fun _ => 0) (fun _ _ => ⟨#[]⟩) (fun _ _ => .no)
def chK : Nat → Int
  | 0 => 2
  | _ + 1 => 6
def chN : Nat → ByteArray
  | 0 => ⟨#[120]⟩
  | _ + 1 => ⟨#[]⟩
theorem chE_kind : ∀ k, (chE k).kind = chK k
  | 0 => rfl
  | _ + 1 => rfl
theorem chE_name : ∀ k, (chE k).name = chN k
  | 0 => rfl
  | _ + 1 => rfl
theorem chE_text : ∀ k, (chE k).text = ⟨#[]⟩
  | 0 => rfl
  | _ + 1 => rfl
theorem chE_attr : ∀ k, (chE k).attr = ⟨#[]⟩
  | 0 => rfl
  | _ + 1 => rfl
theorem chE_na : ∀ k, (chE k).na = 0
  | 0 => rfl
  | _ + 1 => rfl
theorem chE_nv : ∀ k, (chE k).nv = 0
  | 0 => rfl
  | _ + 1 => rfl
theorem chE_no : ∀ k, (chE k).isNo = false
  | 0 => rfl
  | _ + 1 => rfl
theorem chE_fin : ∀ k, (chE k).Fin
  | 0 => ⟨by decide, by decide, by decide, Nat.zero_le _, Nat.zero_le _, fun i hi => absurd hi (Nat.not_lt_zero _), trivial, fun i hi => absurd hi (Nat.not_lt_zero _)⟩
  | k + 1 => ⟨by decide, by decide, by decide, Nat.zero_le _, Nat.zero_le _, fun i hi => absurd hi (Nat.not_lt_zero _), chE_fin k, fun i hi => absurd hi (Nat.not_lt_zero _)⟩
def chQ (p : Option Addr) : Tri := ⟨none, 0, p, none, 0⟩
def ChP (g : Nat) (w : World) : Nat → Option Addr → Prop
  | 0, p => p = none
  | k + 1, p => ∃ b p', g < b ∧ p = some ⟨b, 0, none⟩ ∧ ExAt w ⟨b, 0, none⟩ (chE k) (chQ p') ∧ ChP g w k p'
theorem ChP.R {g : Nat} {w : World} : ∀ {k : Nat} {p : Option Addr}, ChP g w k p → (chE k).R w (chQ p)
  | 0, p, h => EX.R_of (fun e => by cases e) (Nat.le_refl _) (Nat.le_refl _) (fun i hi => absurd hi (Nat.not_lt_zero _)) (.inl ⟨rfl, h⟩) (fun i hi => absurd hi (Nat.not_lt_zero _))
  | k + 1, p, ⟨b, p', _, e, c, r⟩ => EX.R_of (fun e => by cases e) (Nat.le_refl _) (Nat.le_refl _) (fun i hi => absurd hi (Nat.not_lt_zero _)) (.inr ⟨b, 0, chQ p', e, c, r.R⟩) (fun i hi => absurd hi (Nat.not_lt_zero _))
def KeptBut (g : Nat) (w W : World) : Prop := ∀ (b o : Nat) (v : Value), b ≠ g → w.cell? ⟨b, o, none⟩ = some v → W.cell? ⟨b, o, none⟩ = some v
theorem KeptBut.of {g : Nat} {w W : World} (k : Kept w W) : KeptBut g w W := fun b o v _ h => k b o v h
theorem KeptBut.far {g : Nat} {w W : World} (h : ∀ b, b ≠ g → W.heap[b]? = w.heap[b]?) : KeptBut g w W := fun b o v hb hv => by
  rw [← hv]
  simp only [World.cell?, h b hb]
theorem ChP.keep {g : Nat} {w W : World} (k : KeptBut g w W) : ∀ {n : Nat} {p : Option Addr}, ChP g w n p → ChP g W n p
  | 0, p, h => h
  | n + 1, p, ⟨b, p', hb, e, c, r⟩ => ⟨b, p', hb, e, ⟨k _ _ _ (by show b ≠ g; omega) c.c0, k _ _ _ (by show b ≠ g; omega) c.c1, k _ _ _ (by show b ≠ g; omega) c.c2, k _ _ _ (by show b ≠ g; omega) c.c3, k _ _ _ (by show b ≠ g; omega) c.c4, k _ _ _ (by show b ≠ g; omega) c.c5, k _ _ _ (by show b ≠ g; omega) c.c6⟩, r.keep k⟩
theorem ret_of {e : Ending} {a b : Bool} (h : e = .returned (.bool a)) (hab : a = b) : e = .returned (.bool b) := by rw [h, hab]
theorem empB : ((⟨#[]⟩ : ByteArray).toList == []) = true := by kernel_rfl
theorem nameX : isNameB ⟨#[120]⟩ = true := by kernel_rfl
theorem nameM : isNameB ⟨#[109]⟩ = true := by kernel_rfl
theorem nameA : isNameB ⟨#[97]⟩ = true := by kernel_rfl
theorem place_chain : ∀ (k : Nat) (d : Int) (w : World) (q : Tri), (chE k).R w q → -1000 ≤ d → d + k ≤ 900 →
    Calls Tryd.prog 71 #[.agg #[.int .i64 (chE k).kind, .string (chE k).text, .string (chE k).name, .string (chE k).attr, .slice q.A (chE k).na q.ca, .pointer q.P, .slice q.V (chE k).nv q.cv], .int .i64 d] w fun e w' => e = .returned (.bool (decide (d + (k : Int) ≤ 20))) ∧ Below w.heap.size w w'
  | 0, d, w, q, hR, h1, h2 => by
    have hP : q.P = none := by
      rcases (EX.R_mk hR).2.2.2.2.1 with ⟨_, h⟩ | ⟨_, _, _, _, _, h⟩
      · exact h
      · exact h.elim
    refine (place_inl (chE 0) q d w (by decide) _ (fun W hW => inl_var (chE 0) q d W rfl (by decide))).mono ?_
    rintro e W ⟨he, hb⟩
    refine ⟨ret_of he ?_, hb⟩
    show (decide (d ≤ 20) && (bareV false true false false ⟨#[]⟩ ⟨#[120]⟩ ⟨#[]⟩ 0 q.P 0 && isNameB ⟨#[120]⟩)) = _
    rw [hP, nameX, (show bareV false true false false ⟨#[]⟩ ⟨#[120]⟩ ⟨#[]⟩ 0 none 0 = true by unfold bareV; rw [empB]; rfl), Bool.and_true, Bool.and_true]
    exact decide_eq_decide.2 (by omega)
  | k + 1, d, w, q, hR, h1, h2 => by
    have hk : ((k + 1 : Nat) : Int) = (k : Int) + 1 := by omega
    have hP := (EX.R_mk hR).2.2.2.2.1
    refine (place_inl (chE (k + 1)) q d w (show (6 : Int) ≠ 7 by decide) _ (fun W hW => inl_nest (chE (k + 1)) q d W rfl (hP.keep (Kept.of hW)) ⟨h1, by omega⟩ _ (fun r hr W2 hW2 => place_chain k (d + 1) W2 r (EX.keep (Kept.of hW2) hr) (by omega) (by omega)))).mono ?_
    rintro e W ⟨he, hb⟩
    refine ⟨ret_of he ?_, hb⟩
    show (decide (d ≤ 20) && (!(chE k).isNo && (decide (d + 1 + (k : Int) ≤ 20) && bareV false false false false ⟨#[]⟩ ⟨#[]⟩ ⟨#[]⟩ 0 none 0))) = _
    rw [chE_no, (show bareV false false false false ⟨#[]⟩ ⟨#[]⟩ ⟨#[]⟩ 0 none 0 = true by unfold bareV; rw [empB]; rfl), Bool.not_false, Bool.true_and, Bool.and_true]
    by_cases h : d + 1 + (k : Int) ≤ 20
    · rw [decide_eq_true h, decide_eq_true (by omega : d ≤ 20), decide_eq_true (by omega)]
      rfl
    · rw [decide_eq_false h, Bool.and_false, decide_eq_false (by omega)]
theorem cat_chain (k : Nat) : catP (fun _ => ⟨#[]⟩) (fun _ => chE k) 1 = [123] := by
  unfold catP catP
  rw [chE_no]
  rfl
theorem pat_chain (A : Option Addr) (ca k : Nat) (w : World) (hk : k ≤ 100) (hT : Tabs w) (hM : G.Tab_ w) (hA : Elems w A 1 (fun _ => ⟨#[]⟩) (fun _ => chE k)) :
    Calls Tryd.prog 38 #[.slice A (1 : Nat) ca, .int .i64 0] w fun e w' => e = .returned (.bool (decide (1 + (k : Int) ≤ 20))) ∧ Below w.heap.size w w' := by
  refine (pattern_any A 1 ca (fun _ => ⟨#[]⟩) (fun _ => chE k) 0 (fun _ => Lib.validD []) (fun _ => decide (0 ≤ Lib.indexAny [] [123, 125, 13])) (fun _ => decide (1 + (k : Int) ≤ 20)) true w (by decide) hA (by rw [cat_chain]; decide) ⟨by decide, by decide⟩ ?_ ?_ ?_ ?_).mono ?_
  · intro i hi W hW
    exact valid_any ⟨#[]⟩ W (by decide) (Tabs_step hT hW)
  · intro i hi W hW
    exact cont_any ⟨#[]⟩ ⟨#[123, 125, 13]⟩ W (by decide) (by decide) (asc_list (by kernel_rfl)) (asc_list (by kernel_rfl))
  · intro i hi r hr W hW
    exact place_chain k (0 + 1) W r (EX.keep (Kept.of hW) hr) (by decide) (by omega)
  · intro h0 W hW
    have e : (⟨(catP (fun _ => ⟨#[]⟩) (fun _ => chE k) 1).toArray⟩ : ByteArray) = ⟨#[123]⟩ := by rw [cat_chain]
    rw [e]
    exact K.ast_lines.calls 20 ⟨#[123]⟩ true W (by kernel_rfl) (hM.step hW)
  · rintro e W ⟨he, hb⟩
    refine ⟨ret_of he ?_, hb⟩
    unfold allTo allTo okE
    rw [chE_no, if_neg (by decide)]
    show (true && (((⟨#[]⟩ : ByteArray).toList == []) && decide (1 + (k : Int) ≤ 20)) && (decide (1 = 0) || true)) = _
    rw [empB]
    cases decide (1 + (k : Int) ≤ 20) <;> rfl
def deepX (k : Nat) : EN := ⟨1, 0, ⟨#[]⟩, ⟨#[109]⟩, 1, fun _ => ⟨#[]⟩, fun _ => chE k, 0, fun _ => ⟨#[]⟩, fun _ => 0, fun _ _ => ⟨#[]⟩, fun _ _ => .no, 0, 0⟩
def deepY (k : Nat) : EN := ⟨1, 0, ⟨#[]⟩, ⟨#[109]⟩, 0, fun _ => ⟨#[]⟩, fun _ => .no, 1, fun _ => ⟨#[97]⟩, fun _ => 1, fun _ _ => ⟨#[]⟩, fun _ _ => chE k, 0, 0⟩
theorem deepX_fin (k : Nat) : (deepX k).Fin := ⟨by show (0 : Nat) ≤ _; decide, by show (1 : Nat) ≤ _; decide, by show (1 : Nat) ≤ _; decide, Nat.zero_le _, fun i _ => ⟨by show (0 : Nat) ≤ _; decide, chE_fin k⟩, fun i hi => absurd hi (Nat.not_lt_zero _)⟩
theorem deepY_fin (k : Nat) : (deepY k).Fin := ⟨by show (0 : Nat) ≤ _; decide, by show (1 : Nat) ≤ _; decide, Nat.zero_le _, by show (1 : Nat) ≤ _; decide, fun i hi => absurd hi (Nat.not_lt_zero _), fun i _ => ⟨by show (1 : Nat) ≤ _; decide, by show (1 : Nat) ≤ _; decide, fun j _ => ⟨by show (0 : Nat) ≤ _; decide, chE_fin k⟩⟩⟩
theorem deepX_R {w : World} {k b : Nat} {p : Option Addr} (c0 : w.cell? ⟨b, 0, none⟩ = some (.string ⟨#[]⟩)) (c1 : w.cell? ⟨b, 1, none⟩ = some (.pointer p)) (hp : (chE k).Ptr w p) : (deepX k).R w (some ⟨b, 0, none⟩) 1 none 0 := by
  refine ⟨Nat.le_refl _, Nat.le_refl _, ?_, fun v hv => absurd hv (Nat.not_lt_zero _)⟩
  intro e he
  obtain rfl : e = 0 := Nat.lt_one_iff.1 he
  exact ⟨b, 0, p, rfl, c0, c1, hp⟩
theorem deepY_R {w : World} {k b a : Nat} {p : Option Addr} (c0 : w.cell? ⟨b, 0, none⟩ = some (.string ⟨#[]⟩)) (c1 : w.cell? ⟨b, 1, none⟩ = some (.pointer p)) (hp : (chE k).Ptr w p) (a0 : w.cell? ⟨a, 0, none⟩ = some (.string ⟨#[97]⟩)) (a1 : w.cell? ⟨a, 1, none⟩ = some (.slice (some ⟨b, 0, none⟩) (1 : Nat) 1)) : (deepY k).R w none 0 (some ⟨a, 0, none⟩) 1 := by
  refine ⟨Nat.le_refl _, Nat.le_refl _, fun v hv => absurd hv (Nat.not_lt_zero _), ?_⟩
  intro v hv
  obtain rfl : v = 0 := Nat.lt_one_iff.1 hv
  refine ⟨a, 0, some ⟨b, 0, none⟩, 1, rfl, a0, a1, Nat.le_refl _, ?_⟩
  intro e he
  obtain rfl : e = 0 := Nat.lt_one_iff.1 he
  exact ⟨b, 0, p, rfl, c0, c1, hp⟩
theorem right_x (k g : Nat) (w : World) (hk : k ≤ 100) (hT : Tabs w) (hM : G.Tab_ w) (hR : (deepX k).R w (some ⟨g, 0, none⟩) 1 none 0) :
    Calls Tryd.prog 18 #[.agg #[.int .i64 1, .int .i64 0, .string ⟨#[]⟩, .string ⟨#[109]⟩, .slice (some ⟨g, 0, none⟩) 1 1, .slice none 0 0, .int .i64 0, .int .i64 0]] w fun e w' => e = .returned (.bool (decide (1 + (k : Int) ≤ 20))) ∧ Below w.heap.size w w' := by
  refine (right_msg (deepX k) (some ⟨g, 0, none⟩) none 1 0 _ (fun _ => false) w (deepX_fin k) hR (.inl rfl) (fun W hW => pat_chain (some ⟨g, 0, none⟩) 1 k W hk (Tabs_step hT hW) (hM.step hW) (hR.val.keep (Kept.of hW))) (fun i hi => absurd hi (Nat.not_lt_zero _))).mono ?_
  rintro e W ⟨he, hb⟩
  refine ⟨ret_of he ?_, hb⟩
  cases decide (1 + (k : Int) ≤ 20) with
  | true =>
    show (((0 : Int) == 0) && (((⟨#[]⟩ : ByteArray).toList == []) && (isNameB ⟨#[109]⟩ && (true && (!(decide (1 = 0) && (((1 : Int) == 2) || decide (0 = 0))) && allTo (attOk (deepX k) fun _ => false) 0))))) = true
    rw [nameM, empB]
    rfl
  | false =>
    show (((0 : Int) == 0) && (((⟨#[]⟩ : ByteArray).toList == []) && (isNameB ⟨#[109]⟩ && (false && (!(decide (1 = 0) && (((1 : Int) == 2) || decide (0 = 0))) && allTo (attOk (deepX k) fun _ => false) 0))))) = false
    rw [nameM, empB]
    rfl
theorem right_y (k g : Nat) (w : World) (hk : k ≤ 100) (hT : Tabs w) (hM : G.Tab_ w) (hR : (deepY k).R w none 0 (some ⟨g, 0, none⟩) 1) :
    Calls Tryd.prog 18 #[.agg #[.int .i64 1, .int .i64 0, .string ⟨#[]⟩, .string ⟨#[109]⟩, .slice none 0 0, .slice (some ⟨g, 0, none⟩) 1 1, .int .i64 0, .int .i64 0]] w fun e w' => e = .returned (.bool (decide (1 + (k : Int) ≤ 20))) ∧ Below w.heap.size w w' := by
  refine (right_msg (deepY k) none (some ⟨g, 0, none⟩) 0 1 true (fun _ => decide (1 + (k : Int) ≤ 20)) w (deepY_fin k) hR (.inl rfl) ?_ (fun i hi B2 d W hW hE => pat_chain B2 d k W hk (Tabs_step hT hW) (hM.step hW) hE)).mono ?_
  · intro W hW
    refine (pattern_any none 0 0 (fun _ => ⟨#[]⟩) (fun _ => .no) 0 (fun _ => true) (fun _ => true) (fun _ => true) true W (by decide) (fun v hv => absurd hv (Nat.not_lt_zero _)) (by show (0 : Nat) ≤ _; decide) ⟨by decide, by decide⟩ (fun i hi => absurd hi (Nat.not_lt_zero _)) (fun i hi => absurd hi (Nat.not_lt_zero _)) (fun i hi => absurd hi (Nat.not_lt_zero _)) (fun h => absurd h (Nat.lt_irrefl _))).mono ?_
    rintro e W2 ⟨he, hb⟩
    exact ⟨ret_of he rfl, hb⟩
  rintro e W ⟨he, hb⟩
  refine ⟨ret_of he ?_, hb⟩
  cases decide (1 + (k : Int) ≤ 20) with
  | true =>
    show (((0 : Int) == 0) && (((⟨#[]⟩ : ByteArray).toList == []) && (isNameB ⟨#[109]⟩ && (true && (!(decide (0 = 0) && (((1 : Int) == 2) || decide (1 = 0))) && (true && (isNameB ⟨#[97]⟩ && (!(decide (1 = 0)) && true)))))))) = true
    rw [nameM, nameA, empB]
    rfl
  | false =>
    show (((0 : Int) == 0) && (((⟨#[]⟩ : ByteArray).toList == []) && (isNameB ⟨#[109]⟩ && (true && (!(decide (0 = 0) && (((1 : Int) == 2) || decide (1 = 0))) && (true && (isNameB ⟨#[97]⟩ && (!(decide (1 = 0)) && false)))))))) = false
    rw [nameM, nameA, empB]
    rfl
theorem same_x (k g : Nat) (w : World) (hR : (deepX k).R w (some ⟨g, 0, none⟩) 1 none 0) :
    Calls Tryd.prog 20 #[.agg #[.int .i64 1, .int .i64 0, .string ⟨#[]⟩, .string ⟨#[109]⟩, .slice (some ⟨g, 0, none⟩) 1 1, .slice none 0 0, .int .i64 0, .int .i64 0], .agg #[.int .i64 1, .int .i64 0, .string ⟨#[]⟩, .string ⟨#[109]⟩, .slice (some ⟨g, 0, none⟩) 1 1, .slice none 0 0, .int .i64 0, .int .i64 0]] w fun e w' => e = .returned (.bool true) ∧ Below w.heap.size w w' := by
  have h := entry_same (deepX k) (deepX k) (some ⟨g, 0, none⟩) (some ⟨g, 0, none⟩) none none 1 1 0 0 w (deepX_fin k) (deepX_fin k) hR hR
  rw [show (deepX k).same (deepX k) = true from ent_self (deepX k) 0 0] at h
  exact h
theorem and31_ (n : Int) : ∃ r : Nat, r ≤ 31 ∧ bits .and .i64 n 31 = (r : Int) := by
  have h : (BitVec.ofInt 64 n).toNat &&& 31 ≤ 31 := Nat.and_le_right
  refine ⟨(BitVec.ofInt 64 n).toNat &&& 31, h, ?_⟩
  show IntKind.i64.wrap ((BitVec.ofInt 64 n &&& BitVec.ofInt 64 31).toNat : Int) = _
  rw [BitVec.toNat_and, IntKind.wrap_i64, show (BitVec.ofInt 64 31).toNat = 31 from rfl]
  omega
end Go.Proofs.YtipmphgkdomebaaDoor
namespace Go.Proofs.YtipmphgkdomebaaDoor
open Go.RowKit Go.Proofs.YtipmphgkdomebaaDoorW.PrintWords
set_option linter.unusedVariables false
set_option linter.unusedSimpArgs false
set_option maxRecDepth 100000 in
set_option maxHeartbeats 1000000 in
theorem deep_walk (n : Int) (w : World) (hT : Tabs w) (hM : G.Tab_ w) :
    Calls Tryd.prog 6 #[.int .i64 n] w fun e w' => e = .returned (.bool true) ∧ Below w.heap.size w w' := by
  obtain ⟨m, hm, he⟩ := and31_ n
  have cH := head7_any w hT hM
  have w1 : wrap64 (1 + bits .and .i64 n 31) = ((m + 1 : Nat) : Int) := by rw [he]; unfold wrap64; omega
  have w1' : wrap64 (1 + (m : Int)) = ((m + 1 : Nat) : Int) := by unfold wrap64; omega
  go_enter Tryd.func6, Tryd.ntmps6
  go_upto_region 3 with (go_at_call 16; refine cH.mono ?_; rintro e W1 ⟨rfl, b1⟩; have h1 := Own.of b1)
  go_upto_region 5 with (fail)
  have h2 : Own w [(W1.heap.size, .cells #[.int .i64 (chK 0), .string ⟨#[]⟩, .string (chN 0), .string ⟨#[]⟩, .slice none 0 0, .pointer none, .slice none 0 0] 40 (0, 0))] _ := h1.alloc (.cells #[.int .i64 2, .string ⟨#[]⟩, .string ⟨#[120]⟩, .string ⟨#[]⟩, .slice none 0 0, .pointer none, .slice none 0 0] 40)
  have hgw := b1.size
  clear h1 b1
  generalize W1.alloc _ = W2 at *
  generalize W1.heap.size = g at *
  go_wp2
  go_loopg [4] m (fun gk v4 wx => ∃ (i : Nat) (p : Option Addr), v4 = .int .i64 ((i : Int) + 1) ∧ i + gk = m ∧ Own w [(g, .cells #[.int .i64 (chK i), .string ⟨#[]⟩, .string (chN i), .string ⟨#[]⟩, .slice none 0 0, .pointer p, .slice none 0 0] 40 (0, 0))] wx ∧ ChP g wx i p)
  case atStart => exact ⟨0, none, rfl, by omega, h2, rfl⟩
  case round =>
    obtain ⟨i, p, rfl, hi, h3, hc⟩ := hrel
    have HC := Lib.hid hc; clear hc
    have c0 := h3.c 0 0 rfl rfl
    have c1 := h3.c 0 1 rfl rfl
    have c2 := h3.c 0 2 rfl rfl
    have c3 := h3.c 0 3 rfl rfl
    have c4 := h3.c 0 4 rfl rfl
    have c5 := h3.c 0 5 rfl rfl
    have c6 := h3.c 0 6 rfl rfl
    clear h2
    have HI := Lib.hid hi; clear hi
    by_cases hp : i < m
    · have q0 : decide ((i : Int) + 1 < 1 + (m : Int)) = true := decide_eq_true (by omega)
      have w2 : wrap64 ((i : Int) + 1 + 1) = ((i + 1 : Nat) : Int) + 1 := by unfold wrap64; omega
      obtain ⟨f, rfl⟩ : ∃ f, gk = f + 1 := ⟨gk - 1, by have := HI.out; omega⟩
      go_upto_region 9 with (fail)
      have h4 := h3.alloc (.cells #[.int .i64 (chK i), .string ⟨#[]⟩, .string (chN i), .string ⟨#[]⟩, .slice none 0 0, .pointer p, .slice none 0 0] 40)
      have kb := Kept.of (((Own.nil wr).alloc (.cells #[.int .i64 (chK i), .string ⟨#[]⟩, .string (chN i), .string ⟨#[]⟩, .slice none 0 0, .pointer p, .slice none 0 0] 40)).bel)
      have hgr := h3.lt 0 rfl
      clear h3 c0 c1 c2 c3 c4 c5 c6
      generalize wr.alloc _ = W3 at *
      generalize wr.heap.size = g2 at *
      have KB := Lib.hid kb; clear kb
      have y0 := h4.c 1 0 rfl rfl
      have y1 := h4.c 1 1 rfl rfl
      have y2 := h4.c 1 2 rfl rfl
      have y3 := h4.c 1 3 rfl rfl
      have y4 := h4.c 1 4 rfl rfl
      have y5 := h4.c 1 5 rfl rfl
      have y6 := h4.c 1 6 rfl rfl
      have f0 := h4.fz 1 0 rfl
      have f1 := h4.fz 1 1 rfl
      have f2 := h4.fz 1 2 rfl
      have f3 := h4.fz 1 3 rfl
      have f4 := h4.fz 1 4 rfl
      have f5 := h4.fz 1 5 rfl
      have f6 := h4.fz 1 6 rfl
      go_upto_region 7 with (fail)
      have h5 : Own w [(g2, .cells #[.int .i64 (chK i), .string ⟨#[]⟩, .string (chN i), .string ⟨#[]⟩, .slice none 0 0, .pointer p, .slice none 0 0] 40 (0, 0)), (g, .cells #[.int .i64 (chK (i + 1)), .string ⟨#[]⟩, .string (chN (i + 1)), .string ⟨#[]⟩, .slice none 0 0, .pointer (some ⟨g2, 0, none⟩), .slice none 0 0] 40 (0, 0))] _ := h4.setAll 1 [.int .i64 6, .string ⟨#[]⟩, .string ⟨#[]⟩, .string ⟨#[]⟩, .slice none 0 0, .pointer (some ⟨g2, 0, none⟩), .slice none 0 0] rfl rfl
      have kc : KeptBut g W3 (setAll g W3 0 [.int .i64 6, .string ⟨#[]⟩, .string ⟨#[]⟩, .string ⟨#[]⟩, .slice none 0 0, .pointer (some ⟨g2, 0, none⟩), .slice none 0 0]) := KeptBut.far fun b hb => setAll_far hb _ _ _
      simp only [setAll] at h5 kc
      clear h4 y0 y1 y2 y3 y4 y5 y6 f0 f1 f2 f3 f4 f5 f6
      have HC2 := Lib.hid ((HC.out.keep (KeptBut.of KB.out)).keep kc)
      have hE : ExAt _ ⟨g2, 0, none⟩ (chE i) (chQ p) := ⟨by rw [chE_kind]; exact h5.c 0 0 rfl rfl, by rw [chE_text]; exact h5.c 0 1 rfl rfl, by rw [chE_name]; exact h5.c 0 2 rfl rfl, by rw [chE_attr]; exact h5.c 0 3 rfl rfl, by rw [chE_na]; exact h5.c 0 4 rfl rfl, h5.c 0 5 rfl rfl, by rw [chE_nv]; exact h5.c 0 6 rfl rfl⟩
      have HE := Lib.hid hE
      clear KB HC kc hE
      go_wp2
      go_roundg f
      case measure => omega
      case rel => exact ⟨i + 1, some ⟨g2, 0, none⟩, by go_num, by have := HI.out; omega, h5.tail, g2, p, hgr, rfl, HE.out, HC2.out⟩
    · have q0 : decide ((i : Int) + 1 < 1 + (m : Int)) = false := decide_eq_false (by omega)
      obtain rfl : i = m := by have := HI.out; omega
      go_upto_region 12 with (fail)
      have h4 := (((h3.alloc (.cells #[.string ⟨#[]⟩, .pointer (some ⟨g, 0, none⟩)] 42)).alloc (.cells #[.int .i64 1, .int .i64 0, .string ⟨#[]⟩, .string ⟨#[109]⟩, .slice (some ⟨wr.heap.size, 0, none⟩) 1 1, .slice none 0 0, .int .i64 0, .int .i64 0] 29)).alloc (.cells #[.string ⟨#[97]⟩, .slice (some ⟨wr.heap.size, 0, none⟩) 1 1] 44)).alloc (.cells #[.int .i64 1, .int .i64 0, .string ⟨#[]⟩, .string ⟨#[109]⟩, .slice none 0 0, .slice (some ⟨wr.heap.size + 1 + 1, 0, none⟩) 1 1, .int .i64 0, .int .i64 0] 29)
      have kb := Kept.of (((((Own.nil wr).alloc (.cells #[.string ⟨#[]⟩, .pointer (some ⟨g, 0, none⟩)] 42)).alloc (.cells #[.int .i64 1, .int .i64 0, .string ⟨#[]⟩, .string ⟨#[109]⟩, .slice (some ⟨wr.heap.size, 0, none⟩) 1 1, .slice none 0 0, .int .i64 0, .int .i64 0] 29)).alloc (.cells #[.string ⟨#[97]⟩, .slice (some ⟨wr.heap.size, 0, none⟩) 1 1] 44)).alloc (.cells #[.int .i64 1, .int .i64 0, .string ⟨#[]⟩, .string ⟨#[109]⟩, .slice none 0 0, .slice (some ⟨wr.heap.size + 1 + 1, 0, none⟩) 1 1, .int .i64 0, .int .i64 0] 29)).bel
      simp only [size_alloc] at h4
      clear h3 c0 c1 c2 c3 c4 c5 c6
      generalize (((wr.alloc _).alloc _).alloc _).alloc _ = W3 at *
      generalize wr.heap.size = g2 at *
      have hR := (HC.out.keep (KeptBut.of kb)).R
      have hP : (chE i).Ptr W3 (some ⟨g, 0, none⟩) := .inr ⟨g, 0, chQ p, rfl, ⟨by rw [chE_kind]; exact h4.c 4 0 rfl rfl, by rw [chE_text]; exact h4.c 4 1 rfl rfl, by rw [chE_name]; exact h4.c 4 2 rfl rfl, by rw [chE_attr]; exact h4.c 4 3 rfl rfl, by rw [chE_na]; exact h4.c 4 4 rfl rfl, h4.c 4 5 rfl rfl, by rw [chE_nv]; exact h4.c 4 6 rfl rfl⟩, hR⟩
      have hX := deepX_R (h4.c 3 0 rfl rfl) (h4.c 3 1 rfl rfl) hP
      have hY := deepY_R (h4.c 3 0 rfl rfl) (h4.c 3 1 rfl rfl) hP (h4.c 1 0 rfl rfl) (h4.c 1 1 rfl rfl)
      have hT3 := Tabs_step hT h4.bel
      have hM3 := hM.step h4.bel
      have cX := right_x i g2 W3 (by omega) hT3 hM3 hX
      have cY := fun W (hW : Below W3.heap.size W3 W) => right_y i (g2 + 1 + 1) W (by omega) (Tabs_step hT3 hW) (hM3.step hW) (hY.keep (Kept.of hW))
      have cS := fun W (hW : Below W3.heap.size W3 W) => same_x i g2 W (hX.keep (Kept.of hW))
      clear hR hP hX hY hT3 hM3 HC kb hT hM HI
      have x0 := h4.c 2 0 rfl rfl
      have x1 := h4.c 2 1 rfl rfl
      have x2 := h4.c 2 2 rfl rfl
      have x3 := h4.c 2 3 rfl rfl
      have x4 := h4.c 2 4 rfl rfl
      have x5 := h4.c 2 5 rfl rfl
      have x6 := h4.c 2 6 rfl rfl
      have x7 := h4.c 2 7 rfl rfl
      cases hd : decide (1 + (i : Int) ≤ 20) with
      | true =>
        rw [hd] at cX
        simp only [hd] at cY
        go_wp2_with (first
          | (go_at_call 20; (with_reducible refine (cS _ k2).mono ?_); rintro e W6 ⟨rfl, b6⟩; have h6 := h5.step b6)
          | (go_at_call 18; have need_ := b4; clear need_; (with_reducible refine (cY _ b4).mono ?_); rintro e W5 ⟨rfl, b5⟩; have k2 := below_on b4 b5 b4.size; have h5 := h4.step k2; have z0 := h5.c 2 0 rfl rfl; have z1 := h5.c 2 1 rfl rfl; have z2 := h5.c 2 2 rfl rfl; have z3 := h5.c 2 3 rfl rfl; have z4 := h5.c 2 4 rfl rfl; have z5 := h5.c 2 5 rfl rfl; have z6 := h5.c 2 6 rfl rfl; have z7 := h5.c 2 7 rfl rfl)
          | (go_at_call 18; (with_reducible refine cX.mono ?_); rintro e W4 ⟨rfl, b4⟩; have hb := h4.step b4; have y0 := hb.c 0 0 rfl rfl; have y1 := hb.c 0 1 rfl rfl; have y2 := hb.c 0 2 rfl rfl; have y3 := hb.c 0 3 rfl rfl; have y4 := hb.c 0 4 rfl rfl; have y5 := hb.c 0 5 rfl rfl; have y6 := hb.c 0 6 rfl rfl; have y7 := hb.c 0 7 rfl rfl))
        go_ret
        exact ⟨rfl, h6.bel⟩
      | false =>
        rw [hd] at cX
        simp only [hd] at cY
        go_wp2_with (first
          | (go_at_call 20; (with_reducible refine (cS _ k2).mono ?_); rintro e W6 ⟨rfl, b6⟩; have h6 := h5.step b6)
          | (go_at_call 18; have need_ := b4; clear need_; (with_reducible refine (cY _ b4).mono ?_); rintro e W5 ⟨rfl, b5⟩; have k2 := below_on b4 b5 b4.size; have h5 := h4.step k2; have z0 := h5.c 2 0 rfl rfl; have z1 := h5.c 2 1 rfl rfl; have z2 := h5.c 2 2 rfl rfl; have z3 := h5.c 2 3 rfl rfl; have z4 := h5.c 2 4 rfl rfl; have z5 := h5.c 2 5 rfl rfl; have z6 := h5.c 2 6 rfl rfl; have z7 := h5.c 2 7 rfl rfl)
          | (go_at_call 18; (with_reducible refine cX.mono ?_); rintro e W4 ⟨rfl, b4⟩; have hb := h4.step b4; have y0 := hb.c 0 0 rfl rfl; have y1 := hb.c 0 1 rfl rfl; have y2 := hb.c 0 2 rfl rfl; have y3 := hb.c 0 3 rfl rfl; have y4 := hb.c 0 4 rfl rfl; have y5 := hb.c 0 5 rfl rfl; have y6 := hb.c 0 6 rfl rfl; have y7 := hb.c 0 7 rfl rfl))
        go_ret
        exact ⟨rfl, h6.bel⟩
end Go.Proofs.YtipmphgkdomebaaDoor
namespace Go.Proofs.YtipmphgkdomebaaDoor.E
open Go.Proofs.YtipmphgkdomebaaDoor Go.ChangeShapes Go.WideShapes Go.ChangeAt Go.RowKit Go.Deep
set_option linter.unusedVariables false
section
variable {H : Type} {enc : TypeId × Value → H} {P : Program} {w : World} {base : Nat} {spare : Nat → Bool} {held : Bool}
end
end Go.Proofs.YtipmphgkdomebaaDoor.E
namespace Go.Proofs.YtipmphgkdomebaaDoor.E
open Go.Proofs.YtipmphgkdomebaaDoor Go.ChangeShapes Go.WideShapes Go.ChangeAt Go.RowKit Go.Deep
set_option linter.unusedVariables false
instance : Inhabited EX := ⟨.no⟩
section
variable {H : Type} {enc : TypeId × Value → H} {w : World} {base : Nat} {spare : Nat → Bool} {held : Bool}
variable (enc w base spare held) in
end
end Go.Proofs.YtipmphgkdomebaaDoor.E
namespace Go.Proofs.YtipmphgkdomebaaDoor.E
open Go.Proofs.YtipmphgkdomebaaDoor Go.ChangeShapes Go.WideShapes Go.ChangeAt Go.RowKit Go.Deep
set_option linter.unusedVariables false
theorem own : ownKnob Tryd.prog.godebug = none := by kernel_rfl
theorem laidOut : laidOutB Tryd.prog = true := by kernel_rfl
theorem args_below {P : Program} (hl : laidOutB P = true) {H : Type} {enc : TypeId × Value → H} {W W' : World} (hb : Below W.heap.size W W') : ∀ (ts : List TypeId) (vs : List Value) (ds : List (DataW H)) (ps : List MemPlace),
    (∀ t ∈ ts, P.readableRec t = true ∧ t < P.types.size) → DataW.TrodAll enc P W 0 (fun _ => true) true ts vs ds ps → (∀ x ∈ ps, x.block < W.heap.size) →
    DataW.TrodAll enc P W' 0 (fun b => decide (b < W.heap.size)) true ts vs ds ps
  | [], [], [], ps, _, h, _ => h
  | t :: ts, v :: vs, d :: ds, ps, hr, h, hlt => by
    obtain ⟨p, q, h0, h1, rfl⟩ := h
    exact ⟨p, q, Below.trod hl (hr t (.head _)).1 (hr t (.head _)).2 h0 hb (fun x hx => hlt x (List.mem_append.2 (Or.inl hx))), args_below hl hb ts vs ds q (fun t ht => hr t (.tail _ ht)) h1 (fun x hx => hlt x (List.mem_append.2 (Or.inr hx))), rfl⟩
  | [], _ :: _, _, _, _, h, _ => h.elim
  | _ :: _, [], _, _, _, h, _ => h.elim
  | [], [], _ :: _, _, _, h, _ => h.elim
  | _ :: _, _ :: _, [], _, _, h, _ => h.elim
noncomputable def laidWorld (os : Os) : World :=
  let w0 := World.holding Tryd.prog os ⟨#[], #[], []⟩
  let put (h : Array Obj) (g : Nat) (cs : Array Value) : Array Obj := h.modify g fun
    | .cells _ t frozen => .cells cs t frozen
    | o => o
  let h1 := put w0.heap 0 (Lib.firstTab.map fun z => Value.int .u8 z).toArray
  let h2 := put h1 1 ((List.range 16).flatMap fun i => [Value.int .u8 (Lib.accLo i), Value.int .u8 (Lib.accHi i)]).toArray
  { w0 with heap := h2 }
theorem tabs_of {W : World} (ha : Lib.VarReads Tryd.prog W "unicode/utf8.acceptRanges" Rows.laid_unicode_utf8_acceptRanges) (hf : Lib.VarReads Tryd.prog W "unicode/utf8.first" Rows.laid_unicode_utf8_first) : Tabs W := by
  have e1 : Rows.laid_unicode_utf8_first = Lib.firstData := Pinned.utf8First_eq
  have e2 : (Rows.laid_unicode_utf8_acceptRanges : DataW Unit) = Lib.acceptData := by kernel_rfl
  rw [e1] at hf
  rw [e2] at ha
  exact utf8Tabs_of_readsT (U8Types.of260 Tryd.lays260) ⟨by kernel_rfl, by kernel_rfl, by kernel_rfl, by kernel_rfl, by kernel_rfl, by kernel_rfl, by kernel_rfl⟩ hf ha
theorem tabs_laid {W : World} (hL : laidMetH Tryd.prog [("unicode/utf8.acceptRanges", Rows.laid_unicode_utf8_acceptRanges), ("unicode/utf8.first", Rows.laid_unicode_utf8_first)] W) : Tabs W :=
  tabs_of (Lib.laidMet.reads hL (.head _)) (Lib.laidMet.reads hL (.tail _ (.head _)))
theorem tab_of {W : World} (h : W.ShapedOpen Tryd.prog) : G.Tab_ W := Tryd.laysM146.s1_3 W h
end Go.Proofs.YtipmphgkdomebaaDoor.E
namespace Go.Proofs.YtipmphgkdomebaaDoor.astDeep
open Go.ChangeShapes Go.WideShapes Go.ChangeAt Go.RowKit Go.Proofs.YtipmphgkdomebaaDoor.E
open Go.ChangeMaps (open_string shut_string)
set_option linter.unusedVariables false
set_option linter.unusedSimpArgs false
theorem laid_met (os : Os) : laidMet Tryd.prog Rows.astDeepRow.laid ((laidWorld os).forCall (fun _ _ => 0) ⟨#[], #[.int .i64 0], []⟩).memory :=
  laidMet_of_run3 8 (by kernel_rfl) (by kernel_rfl) (by kernel_rfl)
set_option maxRecDepth 100000 in
theorem reads (os : Os) {H : Type} (enc : TypeId × Value → H) : ∃ places, DataW.whole enc Tryd.prog ((laidWorld os).forCall (fun _ _ => 0) ⟨#[], #[.int .i64 0], []⟩).memory Tryd.f6.params.toList Rows.astDeepSpec.vars false #[Value.int .i64 0].toList 8 = some ([.lit (.int .i64 0)], [], places) :=
  ⟨[], by kernel_rfl⟩
set_option maxRecDepth 100000 in
theorem contract (H : Type) (enc : TypeId × Value → H) (W : World) (base : Nat) (args : Array Value) (ds gs : List (DataW H)) (before : List MemPlace)
    (hval : ∀ (j : Nat) t v, Tryd.f6.params[j]? = some t → args[j]? = some v → Value.okWide Tryd.prog W .any base t v)
    (hW : DataW.Whole enc Tryd.prog Tryd.f6.params.toList Rows.astDeepSpec.vars false W args.toList ds gs before) (hL : laidMetH Tryd.prog Rows.astDeepRow.laid W) (hS : W.ShapedOpen Tryd.prog) (hsz : (DataW.weightsEach Tryd.prog (Tryd.f6.params.toList ++ (OpenSpec.ofChange Rows.astDeepSpec).bare.plain.varTypes Tryd.prog) (ds ++ gs)).all (· ≤ reachBytes) = true) :
    Calls Tryd.prog 6 args W fun e W' => ∃ v, e = .returned v ∧ Rows.astDeepSpec.post enc Tryd.prog Tryd.f6 false true false false W args v W' := by
  have hW' := hW
  obtain ⟨p, q, hA0, hV, rfl, hfz, hnd⟩ := hW
  have hA : DataW.TrodAll enc Tryd.prog W 0 (fun _ => true) true Tryd.f6.params.toList args.toList ds p := hA0
  rw [Tryd.params6] at hA hval
  have hAk := hA
  have hlt : ∀ x ∈ p, x.block < W.heap.size := fun x hx => by simpa using hW'.lt x (List.mem_append.2 (Or.inl hx))
  obtain ⟨v0, vs0, d0, ds0, p0, q0, hargs, rfl, rfl, h0, r0⟩ := trodAll_cons hA
  obtain ⟨rfl, rfl, rfl⟩ := trodAll_nil r0
  obtain rfl : args = #[v0] := by cases args; simp_all
  obtain ⟨rfl, rfl⟩ := trodVars_none hV
  obtain ⟨n0, rfl, rfl, rfl, hm0⟩ := open_int Tryd.underlying3 (hval 0 3 v0 rfl rfl) h0
  clear hA0
  simp only [List.append_nil] at hW' hAk hlt
  have hT := tabs_laid hL
  refine (deep_walk n0 W hT (tab_of hS)).mono fun e W' ⟨he, hb⟩ => ?_
  subst he
  exact ⟨_, rfl, _, _, _, [], _, [], hW', trodAll_mk1 (shut_bool Tryd.underlying4 _), args_below laidOut hb _ _ _ _ (by decide +kernel) hAk hlt, rfl, hb.frame _, fun h => by cases h⟩
set_option maxRecDepth 100000 in
theorem lifted (os : Os) (started : os.Started) (H : Type) (enc : TypeId × Value → H) (F : Stop.Interp) :
    ReturnsInHanded {} Tryd.checked os 6 .any ((OpenSpec.ofChange Rows.astDeepSpec).preRow enc Tryd.prog Tryd.f6 Rows.astDeepRow.domain false Rows.astDeepRow.laid) (((OpenSpec.ofChange Rows.astDeepSpec).at F).post enc Tryd.prog Tryd.f6 false true false false) := by
  obtain ⟨places, hx⟩ := reads os enc
  refine returnsInHanded_of_row (C := Tryd.checked) (s := OpenSpec.ofChange Rows.astDeepSpec) own started (by kernel_rfl) Tryd.func6
    (witness_row_atRef (enc := enc) (C := Tryd.checked) false (laidWorld os) #[.int .i64 0] rfl (by kernel_rfl) (by kernel_rfl) (by kernel_rfl)
      (OpenSpec.preRow_of_cond 8 hx (by kernel_rfl) (fun k hk => by cases hk) (by kernel_rfl) (laid_met os))) ?_
  intro W base args ds gs before hval hW _ _ hsz hL hS _
  exact contract H enc W base args ds gs before hval hW hL hS hsz
theorem said : Rows.AstDeepSaid :=
  OpenClaim.holds_of_cond 6 Tryd.f6 rfl rfl rfl rfl rfl rfl rfl ⟨rfl, rfl, rfl, rfl, rfl⟩ rfl rfl rfl rfl rfl (by kernel_rfl) Tryd.func6 (by kernel_rfl)
    (of_decide_eq_true (by kernel_rfl)) (by unfold Func.isWrapper; first | (rw [if_pos (by decide +kernel)]; kernel_rfl) | (rw [if_neg (by decide +kernel)]; exact ⟨rfl, rfl⟩))
    (fun os started H enc _ F => by rw [OpenClaim.pre_eq_preRow]; exact lifted os started H enc F)
theorem plain (f : FuncId) (fn : Func) (hf : Tryd.pinned.checked.prog.funcNamed "polyglot/polyglotlaw07.AstDeep" = some f) (hfn : Tryd.pinned.checked.prog.funcs[f]? = some fn) :
    false = Tryd.pinned.checked.prog.looks [] ∧ ∀ (j : Nat) t, fn.params[j]? = some t → Tryd.pinned.checked.prog.wantsStandIn t = false := by
  obtain rfl : f = 6 := Option.some.inj ((show Tryd.prog.funcNamed "polyglot/polyglotlaw07.AstDeep" = some 6 by kernel_rfl).symm.trans hf) |>.symm
  obtain rfl : fn = Tryd.f6 := (Option.some.inj (Tryd.func6.symm.trans hfn)).symm
  refine ⟨by kernel_rfl, fun j t ht => ?_⟩
  rw [Tryd.params6] at ht
  have hmem := Array.mem_of_getElem? ht
  have hall : ∀ t ∈ (#[3] : Array TypeId), Tryd.prog.wantsStandIn t = false := by
    intro t ht
    simp at ht
    subst ht
    kernel_rfl
  exact hall t hmem
end Go.Proofs.YtipmphgkdomebaaDoor.astDeep
namespace Go.Proofs.YtipmphgkdomebaaDoor
theorem astDeep_holds : Rows.AstDeepCardSaid :=
  Claim7.holds_tied_plain_at .later [] _ _ _ _ astDeep.said (fun _ h => by cases h) (by kernel_rfl) (fun _ h => by cases h) astDeep_row_tie rfl ⟨rfl, rfl⟩ (by kernel_rfl) rfl astDeep.plain (by kernel_rfl)
end Go.Proofs.YtipmphgkdomebaaDoor
