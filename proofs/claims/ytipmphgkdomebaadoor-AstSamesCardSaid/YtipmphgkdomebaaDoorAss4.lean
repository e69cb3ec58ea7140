/- Whatever two entries: whether they are the same, wherever they stand, as the page says; each is the same as itself; for every input. (Text 5 of 6: what the law's proof rests on, joined; walks printed by the kit's print over given contracts, walks and plain laws by hand.) -/
import Derived.Test.YtipmphgkdomebaaDoorProg
import Derived.Lib.FrozenHead2
import Derived.Lib.OthersKept
import Derived.Lib.Buffer
import Derived.WalkKit
import Derived.BigCall
import Derived.BigGuard
import Derived.RowKit
import Derived.KernelRfl
import Derived.Shelf.Strings.Builder1
import Derived.Shelf.Strings.Builder2
import Derived.Shelf.Strings.Trim
import Derived.Shelf.Small.Utf8
import Derived.Shelf.Small.Strs
import Derived.Shelf.Strings.BuilderF
import Derived.Shelf.Strings.BuilderK
import Derived.Shelf.Strings.BuilderRune
import Derived.Shelf.Utf8.AppendRunePlain
import Derived.Shelf.Utf8.RuneCount
import Derived.Shelf.Strings.Builder2Cap
import Derived.Shelf.Strings.Search1
import Derived.Shelf.Strings.Search2
import Derived.Shelf.Strings.Search3
import Derived.Shelf.Strings.Count
import Derived.Shelf.LaysM
import Derived.Shelf.Strings.Shaped
import Derived.Shelf.Strings.Prefix
import Derived.Shelf.Strings.Split
import Derived.Shelf.Strings.SplitShaped
import Derived.Shelf.Unicode.Decode
import Derived.Shelf.Strings.Runes
import Derived.Shelf.Strings.RuneCount
import Derived.Shelf.Strings.IndexAny
import Derived.Shelf.Strings.AsciiSet
import Derived.Shelf.Strings.IndexAnyAll
import Derived.Shelf.Strings.Explode
import Derived.Shelf.Bits.Mul64
import Derived.Shelf.Strings.Repeat
import Derived.Shelf.Unicode.DecodeSlow
import Derived.Shelf.Unicode.DecodeAny
import Derived.Shelf.Unicode.DecodeLast
import Derived.Shelf.Strings.BuilderCap
import Derived.Shelf.Unicode.ValidAny
import Derived.Shelf.Strings.SlTrimAscii
import Derived.Lib.SplitLaws
import Derived.Laws.StructEq
import Derived.Below
import Derived.Deep.Draws
import Derived.Deep.AppendLies
import Derived.Maps.AppendAt
import Derived.OwnWalk
import Derived.Laws.BytesArg
import Derived.Laws.MakeOwn
import Derived.Laws.OwnMore
import Derived.Deep.OwnRows
import Derived.Tactics
import Derived.Lib.ConvBytes
import Derived.Laws.Slices
import Derived.RowKit3
import Derived.Deep.LoopGhost
import Derived.Deep.QuietTactic
import Derived.BigQuiet
import Derived.WideLaws
import Derived.Deep.DeepCutAuto
import Derived.Deep.CutBlock
import Derived.Deep.RegionHeld3
import Derived.Laws.Rows
import Derived.Lib.AppendStr
import Derived.ArgAppend
import Derived.Laws.IdiomCopy
import Derived.OrdersHeld
import Derived.Laws.BitsLemmas
import Derived.Laws.Cover1
import Derived.Laws.Runes
import Derived.Test.YtipmphgkdomebaaDoorAss0
import Derived.Test.YtipmphgkdomebaaDoorAss1
import Derived.Test.YtipmphgkdomebaaDoorAss2
import Derived.Test.YtipmphgkdomebaaDoorAss3
namespace Go.Proofs.YtipmphgkdomebaaDoor
open Go.RowKit Go.Proofs.YtipmphgkdomebaaDoorW.PrintWords Go.Proofs.YtipmphgkdomebaaDoorW.PrintLast
set_option linter.unusedVariables false
set_option linter.unusedSimpArgs false
def as21d.T : Bool × List (List Nat × List Nat) := (true, [([], []), ([0], [0]), ([], []), ([1, 2], [1, 2]), ([3], [3]), ([4], [4]), ([], []), ([6], [6]), ([], []), ([7, 8], [7, 8]), ([9], [9]), ([10], [10]), ([5, 11], [5, 11]), ([12], [12]), ([13], [13]), ([14, 13], [13, 14]), ([13], [13]), ([15, 16, 13], [13, 15, 16]), ([17, 13], [13, 17]), ([18, 13], [13, 18]), ([13], [13]), ([20, 13], [13, 20]), ([13], [13]), ([21, 22, 13], [13, 21, 22]), ([23, 13], [13, 23]), ([24, 13], [13, 24]), ([19, 25, 13, 13], [13, 19, 25]), ([26, 13], [13, 26]), ([13, 27], [13, 27])])
def as21d.B : List Nat := [0, 1, 0, 7, 15, 31, 0, 64, 0, 448, 960, 1984, 4095, 8191, 16383, 32767, 16383, 131071, 262143, 524287, 16383, 1064959, 16383, 7356415, 15745023, 32522239, 67108863, 134217727, 268435455]
theorem as21d.tab : rtab .any (opsOf Tryd.f21 6) = as21d.T := by kernel_rfl
theorem as21d.bits : waitsOk as21d.T.2 as21d.B = true := by kernel_rfl
set_option maxRecDepth 100000 in
set_option maxHeartbeats 4000000 in
theorem as21d (w0 : World) (y1 y2 l1 l2 u1 u2 v1 v2 : Int) (e1 e2 m1 m2 : ByteArray) (A1 A2 : Option Addr) (a1 a2 ca1 ca2 cv1 cv2 : Nat) (t1 t2 : ByteArray) (hq : (t1.toList == t2.toList) = true) (n i b1 o1 b2 o2 : Nat) (q1 : (0 : Int) ≤ (i : Int)) (q2 : (i : Int) < (n : Int)) (d10 : w0.cell? ⟨b1, o1 + i * 2, none⟩ = some (.string t1)) (d20 : w0.cell? ⟨b2, o2 + i * 2, none⟩ = some (.string t2)) (B1 B2 : Option Addr) (r1 r2 f1 f2 : Nat) (d11 : w0.cell? ⟨b1, o1 + i * 2 + 1, none⟩ = some (.slice B1 r1 f1)) (d21 : w0.cell? ⟨b2, o2 + i * 2 + 1, none⟩ = some (.slice B2 r2 f2)) (s : Bool) (cS : ∀ W, Below w0.heap.size w0 W → Calls Tryd.prog 47 #[.slice B1 r1 f1, .slice B2 r2 f2] W fun e w' => e = .returned (.bool s) ∧ Below W.heap.size W w') (a0 : Act) (s2 : a0.tmps[2]? = some (.pointer (some ⟨w0.heap.size, 0, none⟩))) (s3 : a0.tmps[3]? = some (.pointer (some ⟨w0.heap.size + 1, 0, none⟩))) (s5 : a0.tmps[5]? = some (.int .i64 (i : Int))) (hsz : a0.tmps.size = Tryd.f21.ntmps) (W : World) (hI : EnI w0 #[.int .i64 y1, .int .i64 l1, .string e1, .string m1, .slice A1 a1 ca1, .slice (some ⟨b1, o1, none⟩) n cv1, .int .i64 u1, .int .i64 v1] #[.int .i64 y2, .int .i64 l2, .string e2, .string m2, .slice A2 a2 ca2, .slice (some ⟨b2, o2, none⟩) n cv2, .int .i64 u2, .int .i64 v2] W.drew) (Q : Exit → Act → World → Prop) (hend : ∀ (a9 : Act) w', EnI w0 #[.int .i64 y1, .int .i64 l1, .string e1, .string m1, .slice A1 a1 ca1, .slice (some ⟨b1, o1, none⟩) n cv1, .int .i64 u1, .int .i64 v1] #[.int .i64 y2, .int .i64 l2, .string e2, .string m2, .slice A2 a2 ca2, .slice (some ⟨b2, o2, none⟩) n cv2, .int .i64 u2, .int .i64 v2] w' → a9 = putSel a0 (fun _ => true) [(0, 47, .pointer (some ⟨w0.heap.size, 5, none⟩)), (1, 48, .slice (some ⟨b1, o1, none⟩) n cv1), (2, 49, .int .i64 (i : Int)), (3, 50, .pointer (some ⟨b1, o1 + i * 2, none⟩)), (4, 51, .pointer (some ⟨b1, o1 + i * 2, none⟩)), (5, 52, .string t1), (6, 53, .pointer (some ⟨w0.heap.size + 1, 5, none⟩)), (7, 54, .slice (some ⟨b2, o2, none⟩) n cv2), (8, 55, .int .i64 (i : Int)), (9, 56, .pointer (some ⟨b2, o2 + i * 2, none⟩)), (10, 57, .pointer (some ⟨b2, o2 + i * 2, none⟩)), (11, 58, .string t2), (12, 59, .bool false), (13, 60, .bool false), (14, 61, .pointer (some ⟨w0.heap.size, 5, none⟩)), (15, 62, .slice (some ⟨b1, o1, none⟩) n cv1), (16, 63, .int .i64 (i : Int)), (17, 64, .pointer (some ⟨b1, o1 + i * 2, none⟩)), (18, 65, .pointer (some ⟨b1, o1 + i * 2 + 1, none⟩)), (19, 66, .slice B1 r1 f1), (20, 67, .pointer (some ⟨w0.heap.size + 1, 5, none⟩)), (21, 68, .slice (some ⟨b2, o2, none⟩) n cv2), (22, 69, .int .i64 (i : Int)), (23, 70, .pointer (some ⟨b2, o2 + i * 2, none⟩)), (24, 71, .pointer (some ⟨b2, o2 + i * 2 + 1, none⟩)), (25, 72, .slice B2 r2 f2), (26, 73, .bool s), (27, 74, .bool (!s)), (28, 75, .bool (!s))] → a9.defers = a0.defers → a9.tmps[75]? = some (.bool (!s)) → Q .normal a9 w') :
    (Code.region 6 #[{ dst := some 47, op := Op.fieldAddr 29 (Operand.tmp 2) 5, type := 0, pos := "law.go:279", after := #[], guard := none }, { dst := some 48, op := Op.load 27 (Operand.tmp 47), type := 27, pos := "law.go:279", after := #[{ on := 0, ground := Ground.data }], guard := none }, { dst := some 49, op := Op.move (Operand.tmp 5), type := 3, pos := "law.go:279", after := #[], guard := none }, { dst := some 50, op := Op.indexAddr 27 (Operand.tmp 48) (Operand.tmp 49), type := 0, pos := "law.go:279", after := #[{ on := 1, ground := Ground.data }, { on := 2, ground := Ground.data }], guard := none }, { dst := some 51, op := Op.fieldAddr 44 (Operand.tmp 50) 0, type := 0, pos := "law.go:279", after := #[{ on := 3, ground := Ground.data }], guard := none }, { dst := some 52, op := Op.load 9 (Operand.tmp 51), type := 9, pos := "law.go:279", after := #[{ on := 4, ground := Ground.data }], guard := none }, { dst := some 53, op := Op.fieldAddr 29 (Operand.tmp 3) 5, type := 0, pos := "law.go:279", after := #[], guard := none }, { dst := some 54, op := Op.load 27 (Operand.tmp 53), type := 27, pos := "law.go:279", after := #[{ on := 6, ground := Ground.data }], guard := none }, { dst := some 55, op := Op.move (Operand.tmp 5), type := 3, pos := "law.go:279", after := #[], guard := none }, { dst := some 56, op := Op.indexAddr 27 (Operand.tmp 54) (Operand.tmp 55), type := 0, pos := "law.go:279", after := #[{ on := 7, ground := Ground.data }, { on := 8, ground := Ground.data }], guard := none }, { dst := some 57, op := Op.fieldAddr 44 (Operand.tmp 56) 0, type := 0, pos := "law.go:279", after := #[{ on := 9, ground := Ground.data }], guard := none }, { dst := some 58, op := Op.load 9 (Operand.tmp 57), type := 9, pos := "law.go:279", after := #[{ on := 10, ground := Ground.data }], guard := none }, { dst := some 59, op := Op.binOp BinOp.neq 9 (Operand.tmp 52) (Operand.tmp 58) 9, type := 4, pos := "law.go:279", after := #[{ on := 5, ground := Ground.data }, { on := 11, ground := Ground.data }], guard := none }, { dst := some 60, op := Op.move (Operand.tmp 59), type := 4, pos := "law.go:279", after := #[{ on := 12, ground := Ground.data }], guard := none }, { dst := some 61, op := Op.fieldAddr 29 (Operand.tmp 2) 5, type := 0, pos := "law.go:279", after := #[{ on := 13, ground := Ground.guard }], guard := some (13, false) }, { dst := some 62, op := Op.load 27 (Operand.tmp 61), type := 27, pos := "law.go:279", after := #[{ on := 14, ground := Ground.data }, { on := 13, ground := Ground.guard }], guard := some (13, false) }, { dst := some 63, op := Op.move (Operand.tmp 5), type := 3, pos := "law.go:279", after := #[{ on := 13, ground := Ground.guard }], guard := some (13, false) }, { dst := some 64, op := Op.indexAddr 27 (Operand.tmp 62) (Operand.tmp 63), type := 0, pos := "law.go:279", after := #[{ on := 15, ground := Ground.data }, { on := 16, ground := Ground.data }, { on := 13, ground := Ground.guard }], guard := some (13, false) }, { dst := some 65, op := Op.fieldAddr 44 (Operand.tmp 64) 1, type := 0, pos := "law.go:279", after := #[{ on := 17, ground := Ground.data }, { on := 13, ground := Ground.guard }], guard := some (13, false) }, { dst := some 66, op := Op.load 26 (Operand.tmp 65), type := 26, pos := "law.go:279", after := #[{ on := 18, ground := Ground.data }, { on := 13, ground := Ground.guard }], guard := some (13, false) }, { dst := some 67, op := Op.fieldAddr 29 (Operand.tmp 3) 5, type := 0, pos := "law.go:279", after := #[{ on := 13, ground := Ground.guard }], guard := some (13, false) }, { dst := some 68, op := Op.load 27 (Operand.tmp 67), type := 27, pos := "law.go:279", after := #[{ on := 20, ground := Ground.data }, { on := 13, ground := Ground.guard }], guard := some (13, false) }, { dst := some 69, op := Op.move (Operand.tmp 5), type := 3, pos := "law.go:279", after := #[{ on := 13, ground := Ground.guard }], guard := some (13, false) }, { dst := some 70, op := Op.indexAddr 27 (Operand.tmp 68) (Operand.tmp 69), type := 0, pos := "law.go:279", after := #[{ on := 21, ground := Ground.data }, { on := 22, ground := Ground.data }, { on := 13, ground := Ground.guard }], guard := some (13, false) }, { dst := some 71, op := Op.fieldAddr 44 (Operand.tmp 70) 1, type := 0, pos := "law.go:279", after := #[{ on := 23, ground := Ground.data }, { on := 13, ground := Ground.guard }], guard := some (13, false) }, { dst := some 72, op := Op.load 26 (Operand.tmp 71), type := 26, pos := "law.go:279", after := #[{ on := 24, ground := Ground.data }, { on := 13, ground := Ground.guard }], guard := some (13, false) }, { dst := some 73, op := Op.call { callee := Callee.value (Operand.func 47), args := #[Operand.tmp 66, Operand.tmp 72], argTypes := #[26, 26] }, type := 4, pos := "law.go:279", after := #[{ on := 19, ground := Ground.data }, { on := 25, ground := Ground.data }, { on := 13, ground := Ground.chain }, { on := 13, ground := Ground.guard }], guard := some (13, false) }, { dst := some 74, op := Op.unOp UnOp.not 4 (Operand.tmp 73), type := 4, pos := "law.go:279", after := #[{ on := 26, ground := Ground.data }, { on := 13, ground := Ground.guard }], guard := some (13, false) }, { dst := some 75, op := Op.pick (Operand.tmp 60) (Operand.const (Value.bool true)) (Operand.tmp 74), type := 4, pos := "law.go:279", after := #[{ on := 13, ground := Ground.data }, { on := 27, ground := Ground.data }], guard := none }] true).wp Tryd.prog Q a0 W := by
  refine start_ (n := 29) (S := fun w' => True) (ds := []) #[false, false, false, false, false, false, false, false, false, false, false, false, false, false, false, false, false, false, false, false, false, false, false, false, false, false, false, false, false] (by kernel_rfl) rfl rfl trivial (fun hHeld => ?_)
  refine with_tabW as21d.tab as21d.bits (fun HT_ HW_ => ?_)
  refine inv_at [0, 1, 2, 3, 4, 5, 6, 7, 8, 9, 10, 11, 12, 13, 14, 15, 16, 17, 18, 19, 20, 21, 22, 23, 24, 25, 26, 27, 28] (fun a0_ b a w' => a = putSel a0_ b [(0, 47, .pointer (some ⟨w0.heap.size, 5, none⟩)), (1, 48, .slice (some ⟨b1, o1, none⟩) n cv1), (2, 49, .int .i64 (i : Int)), (3, 50, .pointer (some ⟨b1, o1 + i * 2, none⟩)), (4, 51, .pointer (some ⟨b1, o1 + i * 2, none⟩)), (5, 52, .string t1), (6, 53, .pointer (some ⟨w0.heap.size + 1, 5, none⟩)), (7, 54, .slice (some ⟨b2, o2, none⟩) n cv2), (8, 55, .int .i64 (i : Int)), (9, 56, .pointer (some ⟨b2, o2 + i * 2, none⟩)), (10, 57, .pointer (some ⟨b2, o2 + i * 2, none⟩)), (11, 58, .string t2), (12, 59, .bool false), (13, 60, .bool false), (14, 61, .pointer (some ⟨w0.heap.size, 5, none⟩)), (15, 62, .slice (some ⟨b1, o1, none⟩) n cv1), (16, 63, .int .i64 (i : Int)), (17, 64, .pointer (some ⟨b1, o1 + i * 2, none⟩)), (18, 65, .pointer (some ⟨b1, o1 + i * 2 + 1, none⟩)), (19, 66, .slice B1 r1 f1), (20, 67, .pointer (some ⟨w0.heap.size + 1, 5, none⟩)), (21, 68, .slice (some ⟨b2, o2, none⟩) n cv2), (22, 69, .int .i64 (i : Int)), (23, 70, .pointer (some ⟨b2, o2 + i * 2, none⟩)), (24, 71, .pointer (some ⟨b2, o2 + i * 2 + 1, none⟩)), (25, 72, .slice B2 r2 f2), (26, 73, .bool s), (27, 74, .bool (!s)), (28, 75, .bool (!s))] ∧ (EnI w0 #[.int .i64 y1, .int .i64 l1, .string e1, .string m1, .slice A1 a1 ca1, .slice (some ⟨b1, o1, none⟩) n cv1, .int .i64 u1, .int .i64 v1] #[.int .i64 y2, .int .i64 l2, .string e2, .string m2, .slice A2 a2 ca2, .slice (some ⟨b2, o2, none⟩) n cv2, .int .i64 u2, .int .i64 v2] w')) HT_.out HW_.out (by kernel_rfl) (by kernel_rfl) ?_ ?_ ?_
  · exact ⟨(by simp only [putSel, Bool.false_eq_true, if_false]), hI⟩
  · clear hI hend hHeld
    refine steps_cons ?_ ?_
    · rintro b a w' ⟨ha, hI⟩ hb_ hon hoff
      refine ⟨_, rfl, fun K hK => ?_⟩
      have e2 : a.tmps[2]? = some (.pointer (some ⟨w0.heap.size, 0, none⟩)) := by rw [ha]; exact (putSel_off rfl).trans s2
      replace ha := Aside0.mk ha
      refine value_ (w1 := w') (v := .pointer (some ⟨w0.heap.size, 5, none⟩)) (by rfl) rfl ?_ ?_
      · go_simp; try rfl
        all_goals (try (simp only [IntKind.wrap_i64]; omega))
      exact hK.out _ _ ⟨(by rw [ha.out]; exact putSel_upk 0 hb_ rfl rfl rfl), hI⟩
    refine steps_cons ?_ ?_
    · rintro b a w' ⟨ha, hI⟩ hb_ hon hoff
      refine ⟨_, rfl, fun K hK => ?_⟩
      have e47 : a.tmps[47]? = some (.pointer (some ⟨w0.heap.size, 5, none⟩)) := by rw [ha]; exact putSel_on (e := (0, 47, .pointer (some ⟨w0.heap.size, 5, none⟩))) 0 rfl rfl (hon 0 (by kernel_rfl)) (by rw [hsz]; rfl)
      replace ha := Aside0.mk ha
      have m0 := Own.c hI 1 5 rfl rfl
      refine value_ (w1 := w') (v := .slice (some ⟨b1, o1, none⟩) n cv1) (by rfl) rfl ?_ ?_
      · go_simp; try rfl
        all_goals (try (simp only [IntKind.wrap_i64]; omega))
      exact hK.out _ _ ⟨(by rw [ha.out]; exact putSel_upk 1 hb_ rfl rfl rfl), hI⟩
    refine steps_cons ?_ ?_
    · rintro b a w' ⟨ha, hI⟩ hb_ hon hoff
      refine ⟨_, rfl, fun K hK => ?_⟩
      have e5 : a.tmps[5]? = some (.int .i64 (i : Int)) := by rw [ha]; exact (putSel_off rfl).trans s5
      replace ha := Aside0.mk ha
      refine value_ (w1 := w') (v := .int .i64 (i : Int)) (by rfl) rfl ?_ ?_
      · go_simp; try rfl
        all_goals (try (simp only [IntKind.wrap_i64]; omega))
      exact hK.out _ _ ⟨(by rw [ha.out]; exact putSel_upk 2 hb_ rfl rfl rfl), hI⟩
    refine steps_cons ?_ ?_
    · rintro b a w' ⟨ha, hI⟩ hb_ hon hoff
      refine ⟨_, rfl, fun K hK => ?_⟩
      have e48 : a.tmps[48]? = some (.slice (some ⟨b1, o1, none⟩) n cv1) := by rw [ha]; exact putSel_on (e := (1, 48, .slice (some ⟨b1, o1, none⟩) n cv1)) 1 rfl rfl (hon 1 (by kernel_rfl)) (by rw [hsz]; rfl)
      have e49 : a.tmps[49]? = some (.int .i64 (i : Int)) := by rw [ha]; exact putSel_on (e := (2, 49, .int .i64 (i : Int))) 2 rfl rfl (hon 2 (by kernel_rfl)) (by rw [hsz]; rfl)
      replace ha := Aside0.mk ha
      refine value_ (w1 := w') (v := .pointer (some ⟨b1, o1 + i * 2, none⟩)) (by rfl) rfl ?_ ?_
      · go_simp; try rfl
        all_goals (try (simp only [IntKind.wrap_i64]; omega))
      exact hK.out _ _ ⟨(by rw [ha.out]; exact putSel_upk 3 hb_ rfl rfl rfl), hI⟩
    refine steps_cons ?_ ?_
    · rintro b a w' ⟨ha, hI⟩ hb_ hon hoff
      refine ⟨_, rfl, fun K hK => ?_⟩
      have e50 : a.tmps[50]? = some (.pointer (some ⟨b1, o1 + i * 2, none⟩)) := by rw [ha]; exact putSel_on (e := (3, 50, .pointer (some ⟨b1, o1 + i * 2, none⟩))) 3 rfl rfl (hon 3 (by kernel_rfl)) (by rw [hsz]; rfl)
      replace ha := Aside0.mk ha
      refine value_ (w1 := w') (v := .pointer (some ⟨b1, o1 + i * 2, none⟩)) (by rfl) rfl ?_ ?_
      · go_simp; try rfl
        all_goals (try (simp only [IntKind.wrap_i64]; omega))
      exact hK.out _ _ ⟨(by rw [ha.out]; exact putSel_upk 4 hb_ rfl rfl rfl), hI⟩
    refine steps_cons ?_ ?_
    · rintro b a w' ⟨ha, hI⟩ hb_ hon hoff
      refine ⟨_, rfl, fun K hK => ?_⟩
      have e51 : a.tmps[51]? = some (.pointer (some ⟨b1, o1 + i * 2, none⟩)) := by rw [ha]; exact putSel_on (e := (4, 51, .pointer (some ⟨b1, o1 + i * 2, none⟩))) 4 rfl rfl (hon 4 (by kernel_rfl)) (by rw [hsz]; rfl)
      replace ha := Aside0.mk ha
      have m0 := Kept.of (Own.bel hI) _ _ _ d10
      refine value_ (w1 := w') (v := .string t1) (by rfl) rfl ?_ ?_
      · go_simp; try rfl
        all_goals (try (simp only [IntKind.wrap_i64]; omega))
      exact hK.out _ _ ⟨(by rw [ha.out]; exact putSel_upk 5 hb_ rfl rfl rfl), hI⟩
    refine steps_cons ?_ ?_
    · rintro b a w' ⟨ha, hI⟩ hb_ hon hoff
      refine ⟨_, rfl, fun K hK => ?_⟩
      have e3 : a.tmps[3]? = some (.pointer (some ⟨w0.heap.size + 1, 0, none⟩)) := by rw [ha]; exact (putSel_off rfl).trans s3
      replace ha := Aside0.mk ha
      refine value_ (w1 := w') (v := .pointer (some ⟨w0.heap.size + 1, 5, none⟩)) (by rfl) rfl ?_ ?_
      · go_simp; try rfl
        all_goals (try (simp only [IntKind.wrap_i64]; omega))
      exact hK.out _ _ ⟨(by rw [ha.out]; exact putSel_upk 6 hb_ rfl rfl rfl), hI⟩
    refine steps_cons ?_ ?_
    · rintro b a w' ⟨ha, hI⟩ hb_ hon hoff
      refine ⟨_, rfl, fun K hK => ?_⟩
      have e53 : a.tmps[53]? = some (.pointer (some ⟨w0.heap.size + 1, 5, none⟩)) := by rw [ha]; exact putSel_on (e := (6, 53, .pointer (some ⟨w0.heap.size + 1, 5, none⟩))) 6 rfl rfl (hon 6 (by kernel_rfl)) (by rw [hsz]; rfl)
      replace ha := Aside0.mk ha
      have m0 := Own.c hI 0 5 rfl rfl
      refine value_ (w1 := w') (v := .slice (some ⟨b2, o2, none⟩) n cv2) (by rfl) rfl ?_ ?_
      · go_simp; try rfl
        all_goals (try (simp only [IntKind.wrap_i64]; omega))
      exact hK.out _ _ ⟨(by rw [ha.out]; exact putSel_upk 7 hb_ rfl rfl rfl), hI⟩
    refine steps_cons ?_ ?_
    · rintro b a w' ⟨ha, hI⟩ hb_ hon hoff
      refine ⟨_, rfl, fun K hK => ?_⟩
      have e5 : a.tmps[5]? = some (.int .i64 (i : Int)) := by rw [ha]; exact (putSel_off rfl).trans s5
      replace ha := Aside0.mk ha
      refine value_ (w1 := w') (v := .int .i64 (i : Int)) (by rfl) rfl ?_ ?_
      · go_simp; try rfl
        all_goals (try (simp only [IntKind.wrap_i64]; omega))
      exact hK.out _ _ ⟨(by rw [ha.out]; exact putSel_upk 8 hb_ rfl rfl rfl), hI⟩
    refine steps_cons ?_ ?_
    · rintro b a w' ⟨ha, hI⟩ hb_ hon hoff
      refine ⟨_, rfl, fun K hK => ?_⟩
      have e54 : a.tmps[54]? = some (.slice (some ⟨b2, o2, none⟩) n cv2) := by rw [ha]; exact putSel_on (e := (7, 54, .slice (some ⟨b2, o2, none⟩) n cv2)) 7 rfl rfl (hon 7 (by kernel_rfl)) (by rw [hsz]; rfl)
      have e55 : a.tmps[55]? = some (.int .i64 (i : Int)) := by rw [ha]; exact putSel_on (e := (8, 55, .int .i64 (i : Int))) 8 rfl rfl (hon 8 (by kernel_rfl)) (by rw [hsz]; rfl)
      replace ha := Aside0.mk ha
      refine value_ (w1 := w') (v := .pointer (some ⟨b2, o2 + i * 2, none⟩)) (by rfl) rfl ?_ ?_
      · go_simp; try rfl
        all_goals (try (simp only [IntKind.wrap_i64]; omega))
      exact hK.out _ _ ⟨(by rw [ha.out]; exact putSel_upk 9 hb_ rfl rfl rfl), hI⟩
    refine steps_cons ?_ ?_
    · rintro b a w' ⟨ha, hI⟩ hb_ hon hoff
      refine ⟨_, rfl, fun K hK => ?_⟩
      have e56 : a.tmps[56]? = some (.pointer (some ⟨b2, o2 + i * 2, none⟩)) := by rw [ha]; exact putSel_on (e := (9, 56, .pointer (some ⟨b2, o2 + i * 2, none⟩))) 9 rfl rfl (hon 9 (by kernel_rfl)) (by rw [hsz]; rfl)
      replace ha := Aside0.mk ha
      refine value_ (w1 := w') (v := .pointer (some ⟨b2, o2 + i * 2, none⟩)) (by rfl) rfl ?_ ?_
      · go_simp; try rfl
        all_goals (try (simp only [IntKind.wrap_i64]; omega))
      exact hK.out _ _ ⟨(by rw [ha.out]; exact putSel_upk 10 hb_ rfl rfl rfl), hI⟩
    refine steps_cons ?_ ?_
    · rintro b a w' ⟨ha, hI⟩ hb_ hon hoff
      refine ⟨_, rfl, fun K hK => ?_⟩
      have e57 : a.tmps[57]? = some (.pointer (some ⟨b2, o2 + i * 2, none⟩)) := by rw [ha]; exact putSel_on (e := (10, 57, .pointer (some ⟨b2, o2 + i * 2, none⟩))) 10 rfl rfl (hon 10 (by kernel_rfl)) (by rw [hsz]; rfl)
      replace ha := Aside0.mk ha
      have m0 := Kept.of (Own.bel hI) _ _ _ d20
      refine value_ (w1 := w') (v := .string t2) (by rfl) rfl ?_ ?_
      · go_simp; try rfl
        all_goals (try (simp only [IntKind.wrap_i64]; omega))
      exact hK.out _ _ ⟨(by rw [ha.out]; exact putSel_upk 11 hb_ rfl rfl rfl), hI⟩
    refine steps_cons ?_ ?_
    · rintro b a w' ⟨ha, hI⟩ hb_ hon hoff
      refine ⟨_, rfl, fun K hK => ?_⟩
      have e52 : a.tmps[52]? = some (.string t1) := by rw [ha]; exact putSel_on (e := (5, 52, .string t1)) 5 rfl rfl (hon 5 (by kernel_rfl)) (by rw [hsz]; rfl)
      have e58 : a.tmps[58]? = some (.string t2) := by rw [ha]; exact putSel_on (e := (11, 58, .string t2)) 11 rfl rfl (hon 11 (by kernel_rfl)) (by rw [hsz]; rfl)
      replace ha := Aside0.mk ha
      refine value_ (w1 := w') (v := .bool false) (by rfl) rfl ?_ ?_
      · go_simp; try rfl
        all_goals (try (simp only [IntKind.wrap_i64]; omega))
      exact hK.out _ _ ⟨(by rw [ha.out]; exact putSel_upk 12 hb_ rfl rfl rfl), hI⟩
    refine steps_cons ?_ ?_
    · rintro b a w' ⟨ha, hI⟩ hb_ hon hoff
      refine ⟨_, rfl, fun K hK => ?_⟩
      have e59 : a.tmps[59]? = some (.bool false) := by rw [ha]; exact putSel_on (e := (12, 59, .bool false)) 12 rfl rfl (hon 12 (by kernel_rfl)) (by rw [hsz]; rfl)
      replace ha := Aside0.mk ha
      refine value_ (w1 := w') (v := .bool false) (by rfl) rfl ?_ ?_
      · go_simp; try rfl
        all_goals (try (simp only [IntKind.wrap_i64]; omega))
      exact hK.out _ _ ⟨(by rw [ha.out]; exact putSel_upk 13 hb_ rfl rfl rfl), hI⟩
    refine steps_cons ?_ ?_
    · rintro b a w' ⟨ha, hI⟩ hb_ hon hoff
      refine ⟨_, rfl, fun K hK => ?_⟩
      have e2 : a.tmps[2]? = some (.pointer (some ⟨w0.heap.size, 0, none⟩)) := by rw [ha]; exact (putSel_off rfl).trans s2
      have e60 : a.tmps[60]? = some (.bool false) := by rw [ha]; exact putSel_on (e := (13, 60, .bool false)) 13 rfl rfl (hon 13 (by kernel_rfl)) (by rw [hsz]; rfl)
      replace ha := Aside0.mk ha
      refine value_ (w1 := w') (v := .pointer (some ⟨w0.heap.size, 5, none⟩)) (wanted_on rfl rfl rfl e60) rfl ?_ ?_
      · go_simp; try rfl
        all_goals (try (simp only [IntKind.wrap_i64]; omega))
      exact hK.out _ _ ⟨(by rw [ha.out]; exact putSel_upk 14 hb_ rfl rfl rfl), hI⟩
    refine steps_cons ?_ ?_
    · rintro b a w' ⟨ha, hI⟩ hb_ hon hoff
      refine ⟨_, rfl, fun K hK => ?_⟩
      have e61 : a.tmps[61]? = some (.pointer (some ⟨w0.heap.size, 5, none⟩)) := by rw [ha]; exact putSel_on (e := (14, 61, .pointer (some ⟨w0.heap.size, 5, none⟩))) 14 rfl rfl (hon 14 (by kernel_rfl)) (by rw [hsz]; rfl)
      have e60 : a.tmps[60]? = some (.bool false) := by rw [ha]; exact putSel_on (e := (13, 60, .bool false)) 13 rfl rfl (hon 13 (by kernel_rfl)) (by rw [hsz]; rfl)
      replace ha := Aside0.mk ha
      have m0 := Own.c hI 1 5 rfl rfl
      refine value_ (w1 := w') (v := .slice (some ⟨b1, o1, none⟩) n cv1) (wanted_on rfl rfl rfl e60) rfl ?_ ?_
      · go_simp; try rfl
        all_goals (try (simp only [IntKind.wrap_i64]; omega))
      exact hK.out _ _ ⟨(by rw [ha.out]; exact putSel_upk 15 hb_ rfl rfl rfl), hI⟩
    refine steps_cons ?_ ?_
    · rintro b a w' ⟨ha, hI⟩ hb_ hon hoff
      refine ⟨_, rfl, fun K hK => ?_⟩
      have e5 : a.tmps[5]? = some (.int .i64 (i : Int)) := by rw [ha]; exact (putSel_off rfl).trans s5
      have e60 : a.tmps[60]? = some (.bool false) := by rw [ha]; exact putSel_on (e := (13, 60, .bool false)) 13 rfl rfl (hon 13 (by kernel_rfl)) (by rw [hsz]; rfl)
      replace ha := Aside0.mk ha
      refine value_ (w1 := w') (v := .int .i64 (i : Int)) (wanted_on rfl rfl rfl e60) rfl ?_ ?_
      · go_simp; try rfl
        all_goals (try (simp only [IntKind.wrap_i64]; omega))
      exact hK.out _ _ ⟨(by rw [ha.out]; exact putSel_upk 16 hb_ rfl rfl rfl), hI⟩
    refine steps_cons ?_ ?_
    · rintro b a w' ⟨ha, hI⟩ hb_ hon hoff
      refine ⟨_, rfl, fun K hK => ?_⟩
      have e62 : a.tmps[62]? = some (.slice (some ⟨b1, o1, none⟩) n cv1) := by rw [ha]; exact putSel_on (e := (15, 62, .slice (some ⟨b1, o1, none⟩) n cv1)) 15 rfl rfl (hon 15 (by kernel_rfl)) (by rw [hsz]; rfl)
      have e63 : a.tmps[63]? = some (.int .i64 (i : Int)) := by rw [ha]; exact putSel_on (e := (16, 63, .int .i64 (i : Int))) 16 rfl rfl (hon 16 (by kernel_rfl)) (by rw [hsz]; rfl)
      have e60 : a.tmps[60]? = some (.bool false) := by rw [ha]; exact putSel_on (e := (13, 60, .bool false)) 13 rfl rfl (hon 13 (by kernel_rfl)) (by rw [hsz]; rfl)
      replace ha := Aside0.mk ha
      refine value_ (w1 := w') (v := .pointer (some ⟨b1, o1 + i * 2, none⟩)) (wanted_on rfl rfl rfl e60) rfl ?_ ?_
      · go_simp; try rfl
        all_goals (try (simp only [IntKind.wrap_i64]; omega))
      exact hK.out _ _ ⟨(by rw [ha.out]; exact putSel_upk 17 hb_ rfl rfl rfl), hI⟩
    refine steps_cons ?_ ?_
    · rintro b a w' ⟨ha, hI⟩ hb_ hon hoff
      refine ⟨_, rfl, fun K hK => ?_⟩
      have e64 : a.tmps[64]? = some (.pointer (some ⟨b1, o1 + i * 2, none⟩)) := by rw [ha]; exact putSel_on (e := (17, 64, .pointer (some ⟨b1, o1 + i * 2, none⟩))) 17 rfl rfl (hon 17 (by kernel_rfl)) (by rw [hsz]; rfl)
      have e60 : a.tmps[60]? = some (.bool false) := by rw [ha]; exact putSel_on (e := (13, 60, .bool false)) 13 rfl rfl (hon 13 (by kernel_rfl)) (by rw [hsz]; rfl)
      replace ha := Aside0.mk ha
      refine value_ (w1 := w') (v := .pointer (some ⟨b1, o1 + i * 2 + 1, none⟩)) (wanted_on rfl rfl rfl e60) rfl ?_ ?_
      · go_simp; try rfl
        all_goals (try (simp only [IntKind.wrap_i64]; omega))
      exact hK.out _ _ ⟨(by rw [ha.out]; exact putSel_upk 18 hb_ rfl rfl rfl), hI⟩
    refine steps_cons ?_ ?_
    · rintro b a w' ⟨ha, hI⟩ hb_ hon hoff
      refine ⟨_, rfl, fun K hK => ?_⟩
      have e65 : a.tmps[65]? = some (.pointer (some ⟨b1, o1 + i * 2 + 1, none⟩)) := by rw [ha]; exact putSel_on (e := (18, 65, .pointer (some ⟨b1, o1 + i * 2 + 1, none⟩))) 18 rfl rfl (hon 18 (by kernel_rfl)) (by rw [hsz]; rfl)
      have e60 : a.tmps[60]? = some (.bool false) := by rw [ha]; exact putSel_on (e := (13, 60, .bool false)) 13 rfl rfl (hon 13 (by kernel_rfl)) (by rw [hsz]; rfl)
      replace ha := Aside0.mk ha
      have m0 := Kept.of (Own.bel hI) _ _ _ d11
      refine value_ (w1 := w') (v := .slice B1 r1 f1) (wanted_on rfl rfl rfl e60) rfl ?_ ?_
      · go_simp; try rfl
        all_goals (try (simp only [IntKind.wrap_i64]; omega))
      exact hK.out _ _ ⟨(by rw [ha.out]; exact putSel_upk 19 hb_ rfl rfl rfl), hI⟩
    refine steps_cons ?_ ?_
    · rintro b a w' ⟨ha, hI⟩ hb_ hon hoff
      refine ⟨_, rfl, fun K hK => ?_⟩
      have e3 : a.tmps[3]? = some (.pointer (some ⟨w0.heap.size + 1, 0, none⟩)) := by rw [ha]; exact (putSel_off rfl).trans s3
      have e60 : a.tmps[60]? = some (.bool false) := by rw [ha]; exact putSel_on (e := (13, 60, .bool false)) 13 rfl rfl (hon 13 (by kernel_rfl)) (by rw [hsz]; rfl)
      replace ha := Aside0.mk ha
      refine value_ (w1 := w') (v := .pointer (some ⟨w0.heap.size + 1, 5, none⟩)) (wanted_on rfl rfl rfl e60) rfl ?_ ?_
      · go_simp; try rfl
        all_goals (try (simp only [IntKind.wrap_i64]; omega))
      exact hK.out _ _ ⟨(by rw [ha.out]; exact putSel_upk 20 hb_ rfl rfl rfl), hI⟩
    refine steps_cons ?_ ?_
    · rintro b a w' ⟨ha, hI⟩ hb_ hon hoff
      refine ⟨_, rfl, fun K hK => ?_⟩
      have e67 : a.tmps[67]? = some (.pointer (some ⟨w0.heap.size + 1, 5, none⟩)) := by rw [ha]; exact putSel_on (e := (20, 67, .pointer (some ⟨w0.heap.size + 1, 5, none⟩))) 20 rfl rfl (hon 20 (by kernel_rfl)) (by rw [hsz]; rfl)
      have e60 : a.tmps[60]? = some (.bool false) := by rw [ha]; exact putSel_on (e := (13, 60, .bool false)) 13 rfl rfl (hon 13 (by kernel_rfl)) (by rw [hsz]; rfl)
      replace ha := Aside0.mk ha
      have m0 := Own.c hI 0 5 rfl rfl
      refine value_ (w1 := w') (v := .slice (some ⟨b2, o2, none⟩) n cv2) (wanted_on rfl rfl rfl e60) rfl ?_ ?_
      · go_simp; try rfl
        all_goals (try (simp only [IntKind.wrap_i64]; omega))
      exact hK.out _ _ ⟨(by rw [ha.out]; exact putSel_upk 21 hb_ rfl rfl rfl), hI⟩
    refine steps_cons ?_ ?_
    · rintro b a w' ⟨ha, hI⟩ hb_ hon hoff
      refine ⟨_, rfl, fun K hK => ?_⟩
      have e5 : a.tmps[5]? = some (.int .i64 (i : Int)) := by rw [ha]; exact (putSel_off rfl).trans s5
      have e60 : a.tmps[60]? = some (.bool false) := by rw [ha]; exact putSel_on (e := (13, 60, .bool false)) 13 rfl rfl (hon 13 (by kernel_rfl)) (by rw [hsz]; rfl)
      replace ha := Aside0.mk ha
      refine value_ (w1 := w') (v := .int .i64 (i : Int)) (wanted_on rfl rfl rfl e60) rfl ?_ ?_
      · go_simp; try rfl
        all_goals (try (simp only [IntKind.wrap_i64]; omega))
      exact hK.out _ _ ⟨(by rw [ha.out]; exact putSel_upk 22 hb_ rfl rfl rfl), hI⟩
    refine steps_cons ?_ ?_
    · rintro b a w' ⟨ha, hI⟩ hb_ hon hoff
      refine ⟨_, rfl, fun K hK => ?_⟩
      have e68 : a.tmps[68]? = some (.slice (some ⟨b2, o2, none⟩) n cv2) := by rw [ha]; exact putSel_on (e := (21, 68, .slice (some ⟨b2, o2, none⟩) n cv2)) 21 rfl rfl (hon 21 (by kernel_rfl)) (by rw [hsz]; rfl)
      have e69 : a.tmps[69]? = some (.int .i64 (i : Int)) := by rw [ha]; exact putSel_on (e := (22, 69, .int .i64 (i : Int))) 22 rfl rfl (hon 22 (by kernel_rfl)) (by rw [hsz]; rfl)
      have e60 : a.tmps[60]? = some (.bool false) := by rw [ha]; exact putSel_on (e := (13, 60, .bool false)) 13 rfl rfl (hon 13 (by kernel_rfl)) (by rw [hsz]; rfl)
      replace ha := Aside0.mk ha
      refine value_ (w1 := w') (v := .pointer (some ⟨b2, o2 + i * 2, none⟩)) (wanted_on rfl rfl rfl e60) rfl ?_ ?_
      · go_simp; try rfl
        all_goals (try (simp only [IntKind.wrap_i64]; omega))
      exact hK.out _ _ ⟨(by rw [ha.out]; exact putSel_upk 23 hb_ rfl rfl rfl), hI⟩
    refine steps_cons ?_ ?_
    · rintro b a w' ⟨ha, hI⟩ hb_ hon hoff
      refine ⟨_, rfl, fun K hK => ?_⟩
      have e70 : a.tmps[70]? = some (.pointer (some ⟨b2, o2 + i * 2, none⟩)) := by rw [ha]; exact putSel_on (e := (23, 70, .pointer (some ⟨b2, o2 + i * 2, none⟩))) 23 rfl rfl (hon 23 (by kernel_rfl)) (by rw [hsz]; rfl)
      have e60 : a.tmps[60]? = some (.bool false) := by rw [ha]; exact putSel_on (e := (13, 60, .bool false)) 13 rfl rfl (hon 13 (by kernel_rfl)) (by rw [hsz]; rfl)
      replace ha := Aside0.mk ha
      refine value_ (w1 := w') (v := .pointer (some ⟨b2, o2 + i * 2 + 1, none⟩)) (wanted_on rfl rfl rfl e60) rfl ?_ ?_
      · go_simp; try rfl
        all_goals (try (simp only [IntKind.wrap_i64]; omega))
      exact hK.out _ _ ⟨(by rw [ha.out]; exact putSel_upk 24 hb_ rfl rfl rfl), hI⟩
    refine steps_cons ?_ ?_
    · rintro b a w' ⟨ha, hI⟩ hb_ hon hoff
      refine ⟨_, rfl, fun K hK => ?_⟩
      have e71 : a.tmps[71]? = some (.pointer (some ⟨b2, o2 + i * 2 + 1, none⟩)) := by rw [ha]; exact putSel_on (e := (24, 71, .pointer (some ⟨b2, o2 + i * 2 + 1, none⟩))) 24 rfl rfl (hon 24 (by kernel_rfl)) (by rw [hsz]; rfl)
      have e60 : a.tmps[60]? = some (.bool false) := by rw [ha]; exact putSel_on (e := (13, 60, .bool false)) 13 rfl rfl (hon 13 (by kernel_rfl)) (by rw [hsz]; rfl)
      replace ha := Aside0.mk ha
      have m0 := Kept.of (Own.bel hI) _ _ _ d21
      refine value_ (w1 := w') (v := .slice B2 r2 f2) (wanted_on rfl rfl rfl e60) rfl ?_ ?_
      · go_simp; try rfl
        all_goals (try (simp only [IntKind.wrap_i64]; omega))
      exact hK.out _ _ ⟨(by rw [ha.out]; exact putSel_upk 25 hb_ rfl rfl rfl), hI⟩
    refine steps_cons ?_ ?_
    · rintro b a w' ⟨ha, hI⟩ hb_ hon hoff
      refine ⟨_, rfl, fun K hK => ?_⟩
      have e66 : a.tmps[66]? = some (.slice B1 r1 f1) := by rw [ha]; exact putSel_on (e := (19, 66, .slice B1 r1 f1)) 19 rfl rfl (hon 19 (by kernel_rfl)) (by rw [hsz]; rfl)
      have e72 : a.tmps[72]? = some (.slice B2 r2 f2) := by rw [ha]; exact putSel_on (e := (25, 72, .slice B2 r2 f2)) 25 rfl rfl (hon 25 (by kernel_rfl)) (by rw [hsz]; rfl)
      have e60 : a.tmps[60]? = some (.bool false) := by rw [ha]; exact putSel_on (e := (13, 60, .bool false)) 13 rfl rfl (hon 13 (by kernel_rfl)) (by rw [hsz]; rfl)
      replace ha := Aside0.mk ha
      refine goes_ Tryd.func47 (by kernel_rfl) rfl #[.slice B1 r1 f1, .slice B2 r2 f2] (wanted_on rfl rfl rfl e60) rfl rfl (by first | (simp only [List.map_toArray, List.map_cons, List.map_nil, Act.eval, Array.getD_eq_getD_getElem?, Option.getD_some, e66, e72]; done) | (simp only [List.map_toArray, List.map_cons, List.map_nil, Act.eval, Array.getD_eq_getD_getElem?, Option.getD_some, e66, e72]; rfl)) ?_
      refine (cS w' (Own.bel hI)).mono ?_
      rintro e w1 ⟨rfl, b1⟩; have hI1 := EnI.step hI b1
      exact ⟨_, rfl, hK.out _ _ ⟨(by rw [ha.out]; exact putSel_upk 26 hb_ rfl rfl rfl), hI1⟩⟩
    refine steps_cons ?_ ?_
    · rintro b a w' ⟨ha, hI⟩ hb_ hon hoff
      refine ⟨_, rfl, fun K hK => ?_⟩
      have e73 : a.tmps[73]? = some (.bool s) := by rw [ha]; exact putSel_on (e := (26, 73, .bool s)) 26 rfl rfl (hon 26 (by kernel_rfl)) (by rw [hsz]; rfl)
      have e60 : a.tmps[60]? = some (.bool false) := by rw [ha]; exact putSel_on (e := (13, 60, .bool false)) 13 rfl rfl (hon 13 (by kernel_rfl)) (by rw [hsz]; rfl)
      replace ha := Aside0.mk ha
      refine value_ (w1 := w') (v := .bool (!s)) (wanted_on rfl rfl rfl e60) rfl ?_ ?_
      · go_simp; try rfl
        all_goals (try (simp only [IntKind.wrap_i64]; omega))
      exact hK.out _ _ ⟨(by rw [ha.out]; exact putSel_upk 27 hb_ rfl rfl rfl), hI⟩
    refine steps_cons ?_ ?_
    · rintro b a w' ⟨ha, hI⟩ hb_ hon hoff
      refine ⟨_, rfl, fun K hK => ?_⟩
      have e60 : a.tmps[60]? = some (.bool false) := by rw [ha]; exact putSel_on (e := (13, 60, .bool false)) 13 rfl rfl (hon 13 (by kernel_rfl)) (by rw [hsz]; rfl)
      have e74 : a.tmps[74]? = some (.bool (!s)) := by rw [ha]; exact putSel_on (e := (27, 74, .bool (!s))) 27 rfl rfl (hon 27 (by kernel_rfl)) (by rw [hsz]; rfl)
      replace ha := Aside0.mk ha
      refine value_ (w1 := w') (v := .bool (!s)) (by rfl) rfl ?_ ?_
      · go_simp; try rfl
        all_goals (try (simp only [IntKind.wrap_i64]; omega))
      exact hK.out _ _ ⟨(by rw [ha.out]; exact putSel_upk 28 hb_ rfl rfl rfl), hI⟩
    exact steps_nil
  rintro b a w1 hall ⟨ha, hI1⟩
  exact hend a w1 hI1 (by rw [ha]; simp only [putSel, if_true, hall 0 (by kernel_rfl), hall 1 (by kernel_rfl), hall 2 (by kernel_rfl), hall 3 (by kernel_rfl), hall 4 (by kernel_rfl), hall 5 (by kernel_rfl), hall 6 (by kernel_rfl), hall 7 (by kernel_rfl), hall 8 (by kernel_rfl), hall 9 (by kernel_rfl), hall 10 (by kernel_rfl), hall 11 (by kernel_rfl), hall 12 (by kernel_rfl), hall 13 (by kernel_rfl), hall 14 (by kernel_rfl), hall 15 (by kernel_rfl), hall 16 (by kernel_rfl), hall 17 (by kernel_rfl), hall 18 (by kernel_rfl), hall 19 (by kernel_rfl), hall 20 (by kernel_rfl), hall 21 (by kernel_rfl), hall 22 (by kernel_rfl), hall 23 (by kernel_rfl), hall 24 (by kernel_rfl), hall 25 (by kernel_rfl), hall 26 (by kernel_rfl), hall 27 (by kernel_rfl), hall 28 (by kernel_rfl)]) (by rw [ha]; exact (putSel_size b _ a0).2) (by rw [ha]; exact putSel_on (e := (28, 75, .bool (!s))) 28 rfl rfl (hall 28 (by kernel_rfl)) (by rw [hsz]; rfl))
end Go.Proofs.YtipmphgkdomebaaDoor
namespace Go.Proofs.YtipmphgkdomebaaDoor
open Go.RowKit Go.Proofs.YtipmphgkdomebaaDoorW.PrintWords Go.Proofs.YtipmphgkdomebaaDoorW.PrintLast
set_option linter.unusedVariables false
set_option linter.unusedSimpArgs false
structure EN where
  ty : Int
  lv : Int
  text : ByteArray
  name : ByteArray
  nv : Nat
  vt : Nat → ByteArray
  vp : Nat → EX
  na : Nat
  an : Nat → ByteArray
  ae : Nat → Nat
  at_ : Nat → Nat → ByteArray
  ap : Nat → Nat → EX
  fr : Int
  ti : Int
structure EN.R (w : World) (e : EN) (A : Option Addr) (ca : Nat) (B : Option Addr) (cb : Nat) : Prop where
  lv : e.nv ≤ ca
  la : e.na ≤ cb
  val : Elems w A e.nv e.vt e.vp
  att : Attrs w B e.na e.an e.ae e.at_ e.ap
theorem EN.R.keep {w W : World} (k : Kept w W) {e : EN} {A B : Option Addr} {ca cb : Nat} (h : e.R w A ca B cb) : e.R W A ca B cb := ⟨h.lv, h.la, h.val.keep k, h.att.keep k⟩
structure EN.Fin (e : EN) : Prop where
  tx : e.text.size ≤ 281474976710656
  nm : e.name.size ≤ 281474976710656
  nv : e.nv ≤ 281474976710656
  na : e.na ≤ 281474976710656
  vs : ∀ i, i < e.nv → (e.vt i).size ≤ 281474976710656 ∧ (e.vp i).Fin
  ats : ∀ i, i < e.na → (e.an i).size ≤ 281474976710656 ∧ e.ae i ≤ 281474976710656 ∧ ∀ j, j < e.ae i → (e.at_ i j).size ≤ 281474976710656 ∧ (e.ap i j).Fin
def attS (x1 x2 : EN) (i : Nat) : Bool := ((x1.an i).toList == (x2.an i).toList) && patS (x1.ae i) (x2.ae i) (x1.at_ i) (x2.at_ i) (x1.ap i) (x2.ap i)
def EN.same (x1 x2 : EN) : Bool := (x1.ty == x2.ty) && ((x1.lv == x2.lv) && ((x1.text.toList == x2.text.toList) && ((x1.name.toList == x2.name.toList) && (patS x1.nv x2.nv x1.vt x2.vt x1.vp x2.vp && (decide (x1.na = x2.na) && allTo (attS x1 x2) x1.na)))))
set_option maxRecDepth 100000 in
set_option maxHeartbeats 4000000 in
theorem entry_same (x1 x2 : EN) (A1 A2 B1 B2 : Option Addr) (ca1 ca2 cb1 cb2 : Nat) (w : World) (f1 : x1.Fin) (f2 : x2.Fin) (h1 : x1.R w A1 ca1 B1 cb1) (h2 : x2.R w A2 ca2 B2 cb2) : Calls Tryd.prog 20 #[.agg #[.int .i64 x1.ty, .int .i64 x1.lv, .string x1.text, .string x1.name, .slice A1 x1.nv ca1, .slice (B1) x1.na cb1, .int .i64 x1.fr, .int .i64 x1.ti], .agg #[.int .i64 x2.ty, .int .i64 x2.lv, .string x2.text, .string x2.name, .slice A2 x2.nv ca2, .slice (B2) x2.na cb2, .int .i64 x2.fr, .int .i64 x2.ti]] w fun e w' => e = .returned (.bool (x1.same x2)) ∧ Below w.heap.size w w' := by
  have h0 : EnI w #[.int .i64 x1.ty, .int .i64 x1.lv, .string x1.text, .string x1.name, .slice A1 x1.nv ca1, .slice (B1) x1.na cb1, .int .i64 x1.fr, .int .i64 x1.ti] #[.int .i64 x2.ty, .int .i64 x2.lv, .string x2.text, .string x2.name, .slice A2 x2.nv ca2, .slice (B2) x2.na cb2, .int .i64 x2.fr, .int .i64 x2.ti] _ := Own.two w (.cells #[.int .i64 x1.ty, .int .i64 x1.lv, .string x1.text, .string x1.name, .slice A1 x1.nv ca1, .slice (B1) x1.na cb1, .int .i64 x1.fr, .int .i64 x1.ti] 29) (.cells #[.int .i64 x2.ty, .int .i64 x2.lv, .string x2.text, .string x2.name, .slice A2 x2.nv ca2, .slice (B2) x2.na cb2, .int .i64 x2.fr, .int .i64 x2.ti] 29)
  have cP := fun W (hW : Below w.heap.size w W) => pats_any A1 A2 x1.nv x2.nv ca1 ca2 x1.vt x2.vt x1.vp x2.vp W f1.nv f2.nv (h1.val.keep (Kept.of hW)) (h2.val.keep (Kept.of hW)) (fun e he he2 => ex_any _ _ (f1.vs e he).2 (f2.vs e he2).2)
  have cA := fun W (hW : Below w.heap.size w W) => eqf_attr (attS x1 x2) B1 B2 x1.na x2.na cb1 cb2 x1.an x1.ae x1.at_ x1.ap x2.an x2.ae x2.at_ x2.ap W f1.na f2.na (h1.att.keep (Kept.of hW)) (h2.att.keep (Kept.of hW)) (fun i hi hj B d B' d' lB KB lB' KB' W2 hW2 =>
    attr_any (x1.an i) (x2.an i) B B' (x1.ae i) (x2.ae i) d d' _ W2 (fun W3 hW3 => pats_any B B' (x1.ae i) (x2.ae i) d d' (x1.at_ i) (x2.at_ i) (x1.ap i) (x2.ap i) W3 (f1.ats i hi).2.1 (f2.ats i hj).2.1 (KB.keep ((Kept.of hW2).trans (Kept.of hW3))) (KB'.keep ((Kept.of hW2).trans (Kept.of hW3))) (fun e he he2 => ex_any _ _ ((f1.ats i hi).2.2 e he).2 ((f2.ats i hj).2.2 e he2).2)))
  unfold EN.same
  generalize patS x1.nv x2.nv x1.vt x2.vt x1.vp x2.vp = sP at *
  generalize (decide (x1.na = x2.na) && allTo (attS x1 x2) x1.na) = sA at *
  clear h1 h2 f1 f2
  cases q0 : (x1.ty == x2.ty) with
  | false =>
    clear cP cA
    go_enter Tryd.func20, Tryd.ntmps20
    go_upto_region 1 with (fail)
    generalize World.alloc (World.alloc w _) _ = W0 at *
    have aa0 := Own.c h0 1 0 rfl rfl
    have aa1 := Own.c h0 1 1 rfl rfl
    have aa2 := Own.c h0 1 2 rfl rfl
    have aa3 := Own.c h0 1 3 rfl rfl
    have aa4 := Own.c h0 1 4 rfl rfl
    have aa5 := Own.c h0 1 5 rfl rfl
    have bb0 := Own.c h0 0 0 rfl rfl
    have bb1 := Own.c h0 0 1 rfl rfl
    have bb2 := Own.c h0 0 2 rfl rfl
    have bb3 := Own.c h0 0 3 rfl rfl
    have bb4 := Own.c h0 0 4 rfl rfl
    have bb5 := Own.c h0 0 5 rfl rfl
    go_wp2
    go_ret
    exact ⟨by first | rfl | exact ret_b (by simp), Own.bel h0⟩
  | true =>
    cases q1 : (x1.lv == x2.lv) with
    | false =>
      clear cP cA
      go_enter Tryd.func20, Tryd.ntmps20
      go_upto_region 1 with (fail)
      generalize World.alloc (World.alloc w _) _ = W0 at *
      have aa0 := Own.c h0 1 0 rfl rfl
      have aa1 := Own.c h0 1 1 rfl rfl
      have aa2 := Own.c h0 1 2 rfl rfl
      have aa3 := Own.c h0 1 3 rfl rfl
      have aa4 := Own.c h0 1 4 rfl rfl
      have aa5 := Own.c h0 1 5 rfl rfl
      have bb0 := Own.c h0 0 0 rfl rfl
      have bb1 := Own.c h0 0 1 rfl rfl
      have bb2 := Own.c h0 0 2 rfl rfl
      have bb3 := Own.c h0 0 3 rfl rfl
      have bb4 := Own.c h0 0 4 rfl rfl
      have bb5 := Own.c h0 0 5 rfl rfl
      go_wp2
      go_ret
      exact ⟨by first | rfl | exact ret_b (by simp), Own.bel h0⟩
    | true =>
      cases q2 : (x1.text.toList == x2.text.toList) with
      | false =>
        clear cP cA
        go_enter Tryd.func20, Tryd.ntmps20
        go_upto_region 1 with (fail)
        generalize World.alloc (World.alloc w _) _ = W0 at *
        have aa0 := Own.c h0 1 0 rfl rfl
        have aa1 := Own.c h0 1 1 rfl rfl
        have aa2 := Own.c h0 1 2 rfl rfl
        have aa3 := Own.c h0 1 3 rfl rfl
        have aa4 := Own.c h0 1 4 rfl rfl
        have aa5 := Own.c h0 1 5 rfl rfl
        have bb0 := Own.c h0 0 0 rfl rfl
        have bb1 := Own.c h0 0 1 rfl rfl
        have bb2 := Own.c h0 0 2 rfl rfl
        have bb3 := Own.c h0 0 3 rfl rfl
        have bb4 := Own.c h0 0 4 rfl rfl
        have bb5 := Own.c h0 0 5 rfl rfl
        go_wp2
        go_ret
        exact ⟨by first | rfl | exact ret_b (by simp), Own.bel h0⟩
      | true =>
        cases q3 : (x1.name.toList == x2.name.toList) with
        | false =>
          clear cP cA
          go_enter Tryd.func20, Tryd.ntmps20
          go_upto_region 1 with (fail)
          generalize World.alloc (World.alloc w _) _ = W0 at *
          have aa0 := Own.c h0 1 0 rfl rfl
          have aa1 := Own.c h0 1 1 rfl rfl
          have aa2 := Own.c h0 1 2 rfl rfl
          have aa3 := Own.c h0 1 3 rfl rfl
          have aa4 := Own.c h0 1 4 rfl rfl
          have aa5 := Own.c h0 1 5 rfl rfl
          have bb0 := Own.c h0 0 0 rfl rfl
          have bb1 := Own.c h0 0 1 rfl rfl
          have bb2 := Own.c h0 0 2 rfl rfl
          have bb3 := Own.c h0 0 3 rfl rfl
          have bb4 := Own.c h0 0 4 rfl rfl
          have bb5 := Own.c h0 0 5 rfl rfl
          go_wp2
          go_ret
          exact ⟨by first | rfl | exact ret_b (by simp), Own.bel h0⟩
        | true =>
          cases sP with
          | false =>
            go_enter Tryd.func20, Tryd.ntmps20
            go_upto_region 1 with (fail)
            generalize World.alloc (World.alloc w _) _ = W0 at *
            have aa0 := Own.c h0 1 0 rfl rfl
            have aa1 := Own.c h0 1 1 rfl rfl
            have aa2 := Own.c h0 1 2 rfl rfl
            have aa3 := Own.c h0 1 3 rfl rfl
            have aa4 := Own.c h0 1 4 rfl rfl
            have aa5 := Own.c h0 1 5 rfl rfl
            have bb0 := Own.c h0 0 0 rfl rfl
            have bb1 := Own.c h0 0 1 rfl rfl
            have bb2 := Own.c h0 0 2 rfl rfl
            have bb3 := Own.c h0 0 3 rfl rfl
            have bb4 := Own.c h0 0 4 rfl rfl
            have bb5 := Own.c h0 0 5 rfl rfl
            go_wp2_with (go_at_call 44; refine (cP _ (Own.bel h0)).mono ?_; rintro e W1 ⟨rfl, b1⟩; have h3 := EnI.step h0 b1)
            go_ret
            exact ⟨by first | rfl | exact ret_b (by simp), Own.bel h3⟩
          | true =>
            go_enter Tryd.func20, Tryd.ntmps20
            go_upto_region 1 with (fail)
            generalize World.alloc (World.alloc w _) _ = W0 at *
            have aa0 := Own.c h0 1 0 rfl rfl
            have aa1 := Own.c h0 1 1 rfl rfl
            have aa2 := Own.c h0 1 2 rfl rfl
            have aa3 := Own.c h0 1 3 rfl rfl
            have aa4 := Own.c h0 1 4 rfl rfl
            have aa5 := Own.c h0 1 5 rfl rfl
            have bb0 := Own.c h0 0 0 rfl rfl
            have bb1 := Own.c h0 0 1 rfl rfl
            have bb2 := Own.c h0 0 2 rfl rfl
            have bb3 := Own.c h0 0 3 rfl rfl
            have bb4 := Own.c h0 0 4 rfl rfl
            have bb5 := Own.c h0 0 5 rfl rfl
            go_wp2_with (first
              | (go_at_call 44; refine (cP _ (Own.bel h0)).mono ?_; rintro e W1 ⟨rfl, b1⟩; have h3 := EnI.step h0 b1; have x5 := Own.c h3 1 5 rfl rfl; have y5 := Own.c h3 0 5 rfl rfl)
              | (go_at_call 45; refine (cA _ (Own.bel h3)).mono ?_; rintro e W2 ⟨rfl, b2⟩; have h4 := EnI.step h3 b2))
            go_ret
            exact ⟨by first | rfl | exact ret_b (by simp), Own.bel h4⟩
theorem ent_eq (x1 x2 : EN) : x1.same x2 = ((x1.ty == x2.ty) && ((x1.lv == x2.lv) && ((x1.text.toList == x2.text.toList) && ((x1.name.toList == x2.name.toList) && (decide (x1.na = x2.na) && (allTo (attS x1 x2) x1.na && patS x1.nv x2.nv x1.vt x2.vt x1.vp x2.vp)))))) := by
  unfold EN.same
  generalize (x1.ty == x2.ty) = a
  generalize (x1.lv == x2.lv) = b
  generalize (x1.text.toList == x2.text.toList) = c
  generalize (x1.name.toList == x2.name.toList) = d
  generalize decide (x1.na = x2.na) = e
  generalize allTo (attS x1 x2) x1.na = f
  generalize patS x1.nv x2.nv x1.vt x2.vt x1.vp x2.vp = g
  cases a <;> cases b <;> cases c <;> cases d <;> cases e <;> cases f <;> cases g <;> rfl
set_option maxRecDepth 100000 in
set_option maxHeartbeats 4000000 in
theorem law_same (x1 x2 : EN) (A1 A2 B1 B2 : Option Addr) (ca1 ca2 cb1 cb2 : Nat) (w : World) (f1 : x1.Fin) (f2 : x2.Fin) (h1 : x1.R w A1 ca1 B1 cb1) (h2 : x2.R w A2 ca2 B2 cb2) : Calls Tryd.prog 21 #[.agg #[.int .i64 x1.ty, .int .i64 x1.lv, .string x1.text, .string x1.name, .slice A1 x1.nv ca1, .slice (B1) x1.na cb1, .int .i64 x1.fr, .int .i64 x1.ti], .agg #[.int .i64 x2.ty, .int .i64 x2.lv, .string x2.text, .string x2.name, .slice A2 x2.nv ca2, .slice (B2) x2.na cb2, .int .i64 x2.fr, .int .i64 x2.ti]] w fun e w' => e = .returned (.bool (x1.same x2)) ∧ Below w.heap.size w w' := by
  have h0 : EnI w #[.int .i64 x1.ty, .int .i64 x1.lv, .string x1.text, .string x1.name, .slice A1 x1.nv ca1, .slice (B1) x1.na cb1, .int .i64 x1.fr, .int .i64 x1.ti] #[.int .i64 x2.ty, .int .i64 x2.lv, .string x2.text, .string x2.name, .slice A2 x2.nv ca2, .slice (B2) x2.na cb2, .int .i64 x2.fr, .int .i64 x2.ti] _ := Own.two w (.cells #[.int .i64 x1.ty, .int .i64 x1.lv, .string x1.text, .string x1.name, .slice A1 x1.nv ca1, .slice (B1) x1.na cb1, .int .i64 x1.fr, .int .i64 x1.ti] 29) (.cells #[.int .i64 x2.ty, .int .i64 x2.lv, .string x2.text, .string x2.name, .slice A2 x2.nv ca2, .slice (B2) x2.na cb2, .int .i64 x2.fr, .int .i64 x2.ti] 29)
  have cP := fun W (hW : Below w.heap.size w W) => lpats_any A1 A2 x1.nv x2.nv ca1 ca2 x1.vt x2.vt x1.vp x2.vp W f1.nv f2.nv (h1.val.keep (Kept.of hW)) (h2.val.keep (Kept.of hW)) (fun e he he2 => lex_any _ _ (f1.vs e he).2 (f2.vs e he2).2)
  have cV := Lib.hid (fun i (hi : i < x1.na) (hj : i < x2.na) B B' d d' (KB : Elems w B (x1.ae i) (x1.at_ i) (x1.ap i)) (KB' : Elems w B' (x2.ae i) (x2.at_ i) (x2.ap i)) W (hW : Below w.heap.size w W) =>
    lpats_any B B' (x1.ae i) (x2.ae i) d d' (x1.at_ i) (x2.at_ i) (x1.ap i) (x2.ap i) W (f1.ats i hi).2.1 (f2.ats i hj).2.1 (KB.keep (Kept.of hW)) (KB'.keep (Kept.of hW)) (fun e he he2 => lex_any _ _ ((f1.ats i hi).2.2 e he).2 ((f2.ats i hj).2.2 e he2).2))
  have HA1 := Lib.hid h1.att
  have HA2 := Lib.hid h2.att
  have zn := f1.na
  have zm := f2.na
  rw [ent_eq]
  generalize patS x1.nv x2.nv x1.vt x2.vt x1.vp x2.vp = sP at *
  clear h1 h2 f1 f2
  cases q0 : (x1.ty == x2.ty) with
  | false =>
    have n0 : (x1.ty != x2.ty) = true := by rw [bne, q0]; rfl
    clear cP cV HA1 HA2
    go_enter Tryd.func21, Tryd.ntmps21
    go_upto_region 1 with (fail)
    generalize World.alloc (World.alloc w _) _ = W0 at *
    have aa0 := Own.c h0 1 0 rfl rfl
    have aa1 := Own.c h0 1 1 rfl rfl
    have aa2 := Own.c h0 1 2 rfl rfl
    have aa3 := Own.c h0 1 3 rfl rfl
    have aa4 := Own.c h0 1 4 rfl rfl
    have aa5 := Own.c h0 1 5 rfl rfl
    have bb0 := Own.c h0 0 0 rfl rfl
    have bb1 := Own.c h0 0 1 rfl rfl
    have bb2 := Own.c h0 0 2 rfl rfl
    have bb3 := Own.c h0 0 3 rfl rfl
    have bb4 := Own.c h0 0 4 rfl rfl
    have bb5 := Own.c h0 0 5 rfl rfl
    go_wp2
    go_ret
    exact ⟨by first | rfl | exact ret_b (by simp), Own.bel h0⟩
  | true =>
    have n0 : (x1.ty != x2.ty) = false := by rw [bne, q0]; rfl
    cases q1 : (x1.lv == x2.lv) with
    | false =>
      have n1 : (x1.lv != x2.lv) = true := by rw [bne, q1]; rfl
      clear cP cV HA1 HA2
      go_enter Tryd.func21, Tryd.ntmps21
      go_upto_region 1 with (fail)
      generalize World.alloc (World.alloc w _) _ = W0 at *
      have aa0 := Own.c h0 1 0 rfl rfl
      have aa1 := Own.c h0 1 1 rfl rfl
      have aa2 := Own.c h0 1 2 rfl rfl
      have aa3 := Own.c h0 1 3 rfl rfl
      have aa4 := Own.c h0 1 4 rfl rfl
      have aa5 := Own.c h0 1 5 rfl rfl
      have bb0 := Own.c h0 0 0 rfl rfl
      have bb1 := Own.c h0 0 1 rfl rfl
      have bb2 := Own.c h0 0 2 rfl rfl
      have bb3 := Own.c h0 0 3 rfl rfl
      have bb4 := Own.c h0 0 4 rfl rfl
      have bb5 := Own.c h0 0 5 rfl rfl
      go_wp2
      go_ret
      exact ⟨by first | rfl | exact ret_b (by simp), Own.bel h0⟩
    | true =>
      have n1 : (x1.lv != x2.lv) = false := by rw [bne, q1]; rfl
      cases q2 : (x1.text.toList == x2.text.toList) with
      | false =>
        clear cP cV HA1 HA2
        go_enter Tryd.func21, Tryd.ntmps21
        go_upto_region 1 with (fail)
        generalize World.alloc (World.alloc w _) _ = W0 at *
        have aa0 := Own.c h0 1 0 rfl rfl
        have aa1 := Own.c h0 1 1 rfl rfl
        have aa2 := Own.c h0 1 2 rfl rfl
        have aa3 := Own.c h0 1 3 rfl rfl
        have aa4 := Own.c h0 1 4 rfl rfl
        have aa5 := Own.c h0 1 5 rfl rfl
        have bb0 := Own.c h0 0 0 rfl rfl
        have bb1 := Own.c h0 0 1 rfl rfl
        have bb2 := Own.c h0 0 2 rfl rfl
        have bb3 := Own.c h0 0 3 rfl rfl
        have bb4 := Own.c h0 0 4 rfl rfl
        have bb5 := Own.c h0 0 5 rfl rfl
        go_wp2
        go_ret
        exact ⟨by first | rfl | exact ret_b (by simp), Own.bel h0⟩
      | true =>
        cases q3 : (x1.name.toList == x2.name.toList) with
        | false =>
          clear cP cV HA1 HA2
          go_enter Tryd.func21, Tryd.ntmps21
          go_upto_region 1 with (fail)
          generalize World.alloc (World.alloc w _) _ = W0 at *
          have aa0 := Own.c h0 1 0 rfl rfl
          have aa1 := Own.c h0 1 1 rfl rfl
          have aa2 := Own.c h0 1 2 rfl rfl
          have aa3 := Own.c h0 1 3 rfl rfl
          have aa4 := Own.c h0 1 4 rfl rfl
          have aa5 := Own.c h0 1 5 rfl rfl
          have bb0 := Own.c h0 0 0 rfl rfl
          have bb1 := Own.c h0 0 1 rfl rfl
          have bb2 := Own.c h0 0 2 rfl rfl
          have bb3 := Own.c h0 0 3 rfl rfl
          have bb4 := Own.c h0 0 4 rfl rfl
          have bb5 := Own.c h0 0 5 rfl rfl
          go_wp2
          go_ret
          exact ⟨by first | rfl | exact ret_b (by simp), Own.bel h0⟩
        | true =>
          by_cases w0 : x1.na = x2.na
          case neg =>
            have m0 : ((x1.na : Int) != (x2.na : Int)) = true := bne_iff_ne.2 (by omega)
            rw [decide_eq_false w0]
            clear w0
            clear cP cV HA1 HA2
            go_enter Tryd.func21, Tryd.ntmps21
            go_upto_region 1 with (fail)
            generalize World.alloc (World.alloc w _) _ = W0 at *
            have aa0 := Own.c h0 1 0 rfl rfl
            have aa1 := Own.c h0 1 1 rfl rfl
            have aa2 := Own.c h0 1 2 rfl rfl
            have aa3 := Own.c h0 1 3 rfl rfl
            have aa4 := Own.c h0 1 4 rfl rfl
            have aa5 := Own.c h0 1 5 rfl rfl
            have bb0 := Own.c h0 0 0 rfl rfl
            have bb1 := Own.c h0 0 1 rfl rfl
            have bb2 := Own.c h0 0 2 rfl rfl
            have bb3 := Own.c h0 0 3 rfl rfl
            have bb4 := Own.c h0 0 4 rfl rfl
            have bb5 := Own.c h0 0 5 rfl rfl
            go_wp2
            go_ret
            exact ⟨by first | rfl | exact ret_b (by simp), Own.bel h0⟩
          have m0 : ((x1.na : Int) != (x1.na : Int)) = false := by simp
          rw [decide_eq_true w0]
          rw [← w0] at h0 ⊢
          have WW0 := Lib.hid w0; clear w0
          go_enter Tryd.func21, Tryd.ntmps21
          go_upto_region 1 with (fail)
          generalize World.alloc (World.alloc w _) _ = W0 at *
          have aa0 := Own.c h0 1 0 rfl rfl
          have aa1 := Own.c h0 1 1 rfl rfl
          have aa2 := Own.c h0 1 2 rfl rfl
          have aa3 := Own.c h0 1 3 rfl rfl
          have aa4 := Own.c h0 1 4 rfl rfl
          have aa5 := Own.c h0 1 5 rfl rfl
          have bb0 := Own.c h0 0 0 rfl rfl
          have bb1 := Own.c h0 0 1 rfl rfl
          have bb2 := Own.c h0 0 2 rfl rfl
          have bb3 := Own.c h0 0 3 rfl rfl
          have bb4 := Own.c h0 0 4 rfl rfl
          have bb5 := Own.c h0 0 5 rfl rfl
          go_wp2
          have HO := Lib.hid h0; clear h0 aa0 bb0 aa1 bb1 aa2 bb2 aa3 bb3 aa4 bb4 aa5 bb5
          go_loopg [44] x1.na (fun gk v44 wx => ∃ i : Nat, v44 = .int .i64 i ∧ i + gk = x1.na ∧ allTo (attS x1 x2) i = true ∧ EnI w #[.int .i64 x1.ty, .int .i64 x1.lv, .string x1.text, .string x1.name, .slice A1 x1.nv ca1, .slice (B1) x1.na cb1, .int .i64 x1.fr, .int .i64 x1.ti] #[.int .i64 x2.ty, .int .i64 x2.lv, .string x2.text, .string x2.name, .slice A2 x2.nv ca2, .slice (B2) x1.na cb2, .int .i64 x2.fr, .int .i64 x2.ti] wx)
          case atStart => exact ⟨0, rfl, by omega, rfl, HO.out⟩
          case round =>
            obtain ⟨i, rfl, hi, hall, hO⟩ := hrel
            clear HO
            by_cases hp : i < x1.na
            · obtain ⟨f, rfl⟩ : ∃ f, gk = f + 1 := ⟨gk - 1, by omega⟩
              have hs := allTo_succ (attS x1 x2) i
              rw [hall, Bool.true_and] at hs
              have hff := fun h : attS x1 x2 i = false => allTo_false h hp
              have HS := Lib.hid hs; clear hs
              have HFF := Lib.hid hff; clear hff
              have hp2 : i < x2.na := by have := WW0.out; omega
              obtain ⟨b1, o1, C1, d1, rfl, c10, c11, l1, K1⟩ := HA1.out i hp
              obtain ⟨b2, o2, C2, d2, rfl, c20, c21, l2, K2⟩ := HA2.out i hp2
              have cQ := fun W (hW : Below w.heap.size w W) => cV.out i hp hp2 C1 C2 d1 d2 K1 K2 W hW
              clear HA1 HA2 cV cP hall l1 l2 K1 K2
              have HI := Lib.hid hi; clear hi
              have q10 : decide ((i : Int) < (x1.na : Int)) = true := decide_eq_true (by omega)
              have q8 : (0 : Int) ≤ (i : Int) := by omega
              have q9 : (i : Int) < (x1.na : Int) := by omega
              cases hq : ((x1.an i).toList == (x2.an i).toList) with
              | false =>
                have HF := Lib.hid (HFF.out (by unfold attS; rw [hq]; try rfl))
                go_upto_region 6 with (fail)
                refine as21a w x1.ty x2.ty x1.lv x2.lv x1.fr x2.fr x1.ti x2.ti x1.text x2.text x1.name x2.name A1 A2 x1.nv x2.nv ca1 ca2 cb1 cb2 (x1.an i) (x2.an i) hq x1.na i b1 o1 b2 o2 q8 q9 c10 c20  _ rfl rfl rfl rfl _ (Own.drew hO) _ ?_
                intro a9 w9 h9 ha9 hd9 e75
                rw [ha9]
                simp only [putSel, if_true, Act.put, List.setIfInBounds_toArray, List.set_cons_zero, List.set_cons_succ]
                clear ha9 hd9 e75 hO q10 q8 q9
                go_wp2
                go_ret
                exact ⟨by rw [HF.out]; first | rfl | exact ret_b (by simp), Own.bel h9⟩
              | true =>
                have he : attS x1 x2 i = patS (x1.ae i) (x2.ae i) (x1.at_ i) (x2.at_ i) (x1.ap i) (x2.ap i) := by unfold attS; rw [hq, Bool.true_and]
                rw [he] at HS HFF
                clear he
                generalize patS (x1.ae i) (x2.ae i) (x1.at_ i) (x2.at_ i) (x1.ap i) (x2.ap i) = s at *
                cases s with
                | false =>
                  have HF := Lib.hid (HFF.out rfl)
                  go_upto_region 6 with (fail)
                  refine as21d w x1.ty x2.ty x1.lv x2.lv x1.fr x2.fr x1.ti x2.ti x1.text x2.text x1.name x2.name A1 A2 x1.nv x2.nv ca1 ca2 cb1 cb2 (x1.an i) (x2.an i) hq x1.na i b1 o1 b2 o2 q8 q9 c10 c20 C1 C2 (x1.ae i) (x2.ae i) d1 d2 c11 c21 false cQ _ rfl rfl rfl rfl _ (Own.drew hO) _ ?_
                  intro a9 w9 h9 ha9 hd9 e75
                  rw [ha9]
                  simp only [putSel, if_true, Act.put, List.setIfInBounds_toArray, List.set_cons_zero, List.set_cons_succ]
                  clear ha9 hd9 e75 hO q10 q8 q9
                  go_wp2
                  go_ret
                  exact ⟨by rw [HF.out]; first | rfl | exact ret_b (by simp), Own.bel h9⟩
                | true =>
                  go_upto_region 6 with (fail)
                  refine as21d w x1.ty x2.ty x1.lv x2.lv x1.fr x2.fr x1.ti x2.ti x1.text x2.text x1.name x2.name A1 A2 x1.nv x2.nv ca1 ca2 cb1 cb2 (x1.an i) (x2.an i) hq x1.na i b1 o1 b2 o2 q8 q9 c10 c20 C1 C2 (x1.ae i) (x2.ae i) d1 d2 c11 c21 true cQ _ rfl rfl rfl rfl _ (Own.drew hO) _ ?_
                  intro a9 w9 h9 ha9 hd9 e75
                  rw [ha9]
                  simp only [putSel, if_true, Act.put, List.setIfInBounds_toArray, List.set_cons_zero, List.set_cons_succ]
                  clear ha9 hd9 e75 hO q10 q8 q9
                  go_wp2
                  go_roundg f
                  case measure => omega
                  case rel => exact ⟨i + 1, by go_num, by have := HI.out; omega, HS.out, h9⟩
            · have hin : i = x1.na := by omega
              rw [hin] at hall
              have HL := Lib.hid hall; clear hall hi HA1 HA2 cV
              have q10 : decide ((i : Int) < (x1.na : Int)) = false := decide_eq_false (by omega)
              clear hin
              have aa4 := Own.c hO 1 4 rfl rfl
              have bb4 := Own.c hO 0 4 rfl rfl
              go_wp2_with (go_at_call 47; refine (cP _ (Own.bel hO)).mono ?_; rintro e W2 ⟨rfl, b2⟩; have h4 := EnI.step hO b2)
              go_ret
              exact ⟨by rw [HL.out]; first | rfl | exact ret_b (by simp), Own.bel h4⟩
end Go.Proofs.YtipmphgkdomebaaDoor
namespace Go.Proofs.YtipmphgkdomebaaDoor
open Go.RowKit
set_option linter.unusedVariables false
set_option linter.unusedSimpArgs false
theorem beq_comm_b {α : Type} [BEq α] [LawfulBEq α] (a b : α) : (a == b) = (b == a) := by
  by_cases h : a = b
  · subst h; rfl
  · rw [beq_eq_false_iff_ne.2 h, beq_eq_false_iff_ne.2 (fun e => h e.symm)]
theorem all_comm {n m : Nat} {q r : Nat → Bool} (h : ∀ i, i < n → i < m → q i = r i) : (decide (n = m) && allTo q n) = (decide (m = n) && allTo r m) := by
  by_cases e : n = m
  · subst e
    rw [allTo_congr (fun i hi => h i hi hi)]
  · rw [decide_eq_false e, decide_eq_false (fun e2 => e e2.symm), Bool.false_and, Bool.false_and]
theorem elS_comm0 (t1 t2 : ByteArray) (x1 x2 : EX) (h : x1.same x2 = x2.same x1) : elS t1 t2 x1 x2 = elS t2 t1 x2 x1 := by
  unfold elS
  rw [h, beq_comm_b t1.toList]
  cases x1.isNo <;> cases x2.isNo <;> simp
theorem comm_step (x y : EX) (hx : x.isNo = false) (hy : y.isNo = false) (ha : ∀ i z, (x.av i).same z = z.same (x.av i)) (hi : ∀ z, x.inner.same z = z.same x.inner) (hp : ∀ v e z, (x.ep v e).same z = z.same (x.ep v e)) : x.same y = y.same x := by
  rw [same_eq hx hy, same_eq hy hx]
  have h1 := all_comm (n := x.na) (m := y.na) (q := argS x y) (r := argS y x) (fun i _ _ => by unfold argS; rw [ha i (y.av i), beq_comm_b (x.an i).toList])
  have h2 := all_comm (n := x.nv) (m := y.nv) (q := varS x y) (r := varS y x) (fun v _ _ => by
    unfold varS patS
    rw [beq_comm_b (x.vk v).toList, beq_comm_b (x.vd v), all_comm (fun e _ _ => elS_comm0 _ _ _ _ (hp v e _))])
  have h3 : (x.inner.isNo == y.inner.isNo && (x.inner.isNo || x.inner.same y.inner)) = (y.inner.isNo == x.inner.isNo && (y.inner.isNo || y.inner.same x.inner)) := by
    rw [hi y.inner]
    cases x.inner.isNo <;> cases y.inner.isNo <;> simp
  rw [h1, h2, beq_comm_b x.kind, beq_comm_b x.text.toList, beq_comm_b x.name.toList, beq_comm_b x.attr.toList]
  congr 4
  rw [← Bool.and_assoc, ← Bool.and_assoc, h3]
  simp only [Bool.and_assoc]
theorem same_comm : ∀ x y : EX, x.same y = y.same x := by
  intro x
  induction x with
  | no => intro y; cases y <;> rfl
  | mk kd tx nm at_ na an av inner nv vk vd ne et ep iha ihi ihp =>
    intro y
    cases hy : y.isNo with
    | true =>
      cases y with
      | no => rfl
      | mk => cases hy
    | false => exact comm_step _ y rfl hy iha ihi ihp
theorem all_true {q : Nat → Bool} : ∀ {n : Nat}, (∀ i, q i = true) → allTo q n = true
  | 0, _ => rfl
  | n + 1, h => by unfold allTo; rw [all_true h, h n]; rfl
theorem self_step (x : EX) (hx : x.isNo = false) (ha : ∀ i, (x.av i).same (x.av i) = true) (hi : x.inner.same x.inner = true) (hp : ∀ v e, (x.ep v e).same (x.ep v e) = true) : x.same x = true := by
  rw [same_eq hx hx, all_true (fun i => by unfold argS; rw [ha i]; simp), all_true (fun v => by unfold varS patS; rw [all_true (fun e => by unfold elS; rw [hp v e]; simp)]; simp), hi]
  simp
theorem same_self : ∀ x : EX, x.same x = true := by
  intro x
  induction x with
  | no => rfl
  | mk kd tx nm at_ na an av inner nv vk vd ne et ep iha ihi ihp => exact self_step _ rfl iha ihi ihp
theorem elS_comm (t1 t2 : ByteArray) (x1 x2 : EX) : elS t1 t2 x1 x2 = elS t2 t1 x2 x1 := elS_comm0 t1 t2 x1 x2 (same_comm x1 x2)
theorem patS_comm (n m : Nat) (t1 t2 : Nat → ByteArray) (x1 x2 : Nat → EX) : patS n m t1 t2 x1 x2 = patS m n t2 t1 x2 x1 := all_comm (fun i _ _ => elS_comm _ _ _ _)
theorem patS_self (n : Nat) (t : Nat → ByteArray) (x : Nat → EX) : patS n n t t x x = true := by
  unfold patS
  rw [all_true (fun e => by unfold elS; rw [same_self]; simp)]
  simp
theorem ent_comm (x y : EN) : x.same y = y.same x := by
  unfold EN.same
  rw [patS_comm x.nv, beq_comm_b x.ty, beq_comm_b x.lv, beq_comm_b x.text.toList, beq_comm_b x.name.toList, all_comm (r := attS y x) (fun i _ _ => by unfold attS; rw [beq_comm_b (x.an i).toList, patS_comm])]
theorem ent_self (x : EN) (u v : Int) : x.same { x with fr := u, ti := v } = true := by
  unfold EN.same
  have h : allTo (attS x { x with fr := u, ti := v }) x.na = true := all_true (fun i => by unfold attS; rw [patS_self]; simp)
  rw [h, patS_self]
  simp
end Go.Proofs.YtipmphgkdomebaaDoor
namespace Go.Proofs.YtipmphgkdomebaaDoor
open Go.RowKit
set_option linter.unusedVariables false
set_option linter.unusedSimpArgs false
theorem w64i {x : Int} (h0 : -1000000 ≤ x) (h1 : x ≤ 1000000) : wrap64 x = x := by unfold wrap64; omega
def CntOk (x : EX) : Prop := ∀ (w : World) (r : Tri) (m : Int), x.R w r → 1 ≤ m → m ≤ 1000 → Calls Tryd.prog 67 #[.agg #[.int .i64 x.kind, .string x.text, .string x.name, .string x.attr, .slice r.A x.na r.ca, .pointer r.P, .slice r.V x.nv r.cv], .int .i64 m] w fun e w' => (∃ v : Int, e = .returned (.int .i64 v) ∧ 0 ≤ v ∧ v ≤ 2 * m) ∧ Below w.heap.size w w'
set_option maxRecDepth 100000 in
set_option maxHeartbeats 1000000 in
theorem cin_any (A : Option Addr) (n ca : Nat) (et : Nat → ByteArray) (ep : Nat → EX) (m : Int) (w : World) (hn : n ≤ 281474976710656) (hA : Elems w A n et ep) (h1 : 1 ≤ m) (h2 : m ≤ 1000) (cC : ∀ e, e < n → CntOk (ep e)) :
    Calls Tryd.prog 34 #[.slice A n ca, .int .i64 m] w fun e w' => (∃ v : Int, e = .returned (.int .i64 v) ∧ 0 ≤ v ∧ v ≤ 2 * m) ∧ Below w.heap.size w w' := by
  have HA := Lib.hid hA; clear hA
  have CC := Lib.hid cC; clear cC
  go_enter Tryd.func34, Tryd.ntmps34
  go_wp2
  go_loopg [5, 10] n (fun gk v5 v10 wx => ∃ (i : Nat) (c : Int), v10 = .int .i64 i ∧ v5 = .int .i64 c ∧ i + gk = n ∧ 0 ≤ c ∧ c < m ∧ Below w.heap.size w wx)
  case atStart => exact ⟨0, 0, rfl, rfl, by omega, by omega, by omega, Below.refl _ _⟩
  case round =>
    obtain ⟨i, c, rfl, rfl, hi, hc0, hc1, hb⟩ := hrel
    by_cases hp : i < n
    · obtain ⟨f, rfl⟩ : ∃ f, gk = f + 1 := ⟨gk - 1, by omega⟩
      obtain ⟨b1, o1, p1, rfl, c10, c11, k1⟩ := HA.out i hp
      have hk := Kept.of hb
      replace c10 := hk _ _ _ c10
      replace c11 := hk _ _ _ c11
      have cQ := CC.out i hp
      have HI := Lib.hid hi; clear hi HA CC hk
      have q0 : decide ((i : Int) < (n : Int)) = true := decide_eq_true (by omega)
      have q1 : (0 : Int) ≤ (i : Int) := by omega
      have q2 : (i : Int) < (n : Int) := by omega
      have h0 := Own.of hb
      have wc : wrap64 (c + 1) = c + 1 := w64i (by omega) (by omega)
      go_upto_region 6 with (fail)
      have h3 := h0.alloc (.cells #[.string (et i), .pointer p1] 42)
      clear c10 c11 h0
      generalize wr.alloc _ = W1 at *
      generalize wr.heap.size = g1 at *
      have u1 := h3.c 0 1 rfl rfl
      have bel := h3.bel
      clear wc
      generalize hcc : c + 1 = c1 at *
      have hc2 : 1 ≤ c1 := by omega
      have hc3 : c1 ≤ m := by omega
      clear hcc hc0 hc1
      by_cases hm : c1 < m
      · have r0 : decide (c1 < m) = true := decide_eq_true hm
        have r1 : decide (c1 ≥ m) = false := decide_eq_false (by omega)
        have r2 : decide (m ≤ c1) = false := decide_eq_false (by omega)
        rcases k1 with ⟨hno, rfl⟩ | ⟨b3, o3, s1, rfl, E1, R1⟩
        · go_wp2
          go_roundg f
          case measure => omega
          case rel => exact ⟨i + 1, c1, by go_num, rfl, by have := HI.out; omega, by omega, hm, bel⟩
        · have hbw := Kept.of bel
          have x0 := hbw _ _ _ E1.c0
          have x1 := hbw _ _ _ E1.c1
          have x2 := hbw _ _ _ E1.c2
          have x3 := hbw _ _ _ E1.c3
          have x4 := hbw _ _ _ E1.c4
          have x5 := hbw _ _ _ E1.c5
          have x6 := hbw _ _ _ E1.c6
          dsimp only at x0 x1 x2 x3 x4 x5 x6
          have cP := cQ W1 s1 (m - c1) (EX.keep hbw R1) (by omega) (by omega)
          have ws : wrap64 (m - c1) = m - c1 := w64i (by omega) (by omega)
          clear hbw E1 R1 cQ
          go_upto_region 8 with (go_at_call 67; (with_reducible refine cP.mono ?_); rintro e W2 ⟨⟨v, rfl, hv0, hv1⟩, b2⟩; have h4 := h3.step b2; have wv : wrap64 (c1 + v) = c1 + v := w64i (by omega) (by omega))
          clear x0 x1 x2 x3 x4 x5 x6 u1 h3
          have bel4 := h4.bel
          have hv2 : c1 + v ≤ 2 * m := by omega
          have hv3 : 0 ≤ c1 + v := by omega
          generalize c1 + v = c2 at *
          clear r0 r1 r2
          by_cases hm2 : c2 < m
          · have r1 : decide (c2 ≥ m) = false := decide_eq_false (by omega)
            have r2 : decide (m ≤ c2) = false := decide_eq_false (by omega)
            go_wp2
            go_roundg f
            case measure => omega
            case rel => exact ⟨i + 1, c2, by go_num, rfl, by have := HI.out; omega, by omega, hm2, bel4⟩
          · have r1 : decide (c2 ≥ m) = true := decide_eq_true (by omega)
            have r2 : decide (m ≤ c2) = true := decide_eq_true (by omega)
            go_wp2
            go_ret
            exact ⟨⟨c2, rfl, hv3, hv2⟩, bel4⟩
      · have r0 : decide (c1 < m) = false := decide_eq_false hm
        have r1 : decide (c1 ≥ m) = true := decide_eq_true (by omega)
        have r2 : decide (m ≤ c1) = true := decide_eq_true (by omega)
        rcases k1 with ⟨hno, rfl⟩ | ⟨b3, o3, s1, rfl, E1, R1⟩
        · go_wp2
          go_ret
          exact ⟨⟨c1, rfl, by omega, by omega⟩, bel⟩
        · go_wp2
          go_ret
          exact ⟨⟨c1, rfl, by omega, by omega⟩, bel⟩
    · obtain rfl : i = n := by omega
      have q0 : decide ((i : Int) < (i : Int)) = false := decide_eq_false (by omega)
      go_wp2
      go_ret
      exact ⟨⟨c, rfl, by omega, by omega⟩, hb⟩
set_option maxRecDepth 100000 in
set_option maxHeartbeats 1000000 in
theorem cnt_step (x : EX) (fx : x.Fin) (ci : x.inner ≠ .no → CntOk x.inner) (ca : ∀ i, i < x.na → CntOk (x.av i)) (cv : ∀ v e, v < x.nv → e < x.ne v → CntOk (x.ep v e)) : CntOk x := by
  intro w r m hR h1 h2
  obtain ⟨_, l1, k1, a1, i1, v1⟩ := EX.R_mk hR
  obtain ⟨g1, g2, _, _, g3⟩ := fx.out
  obtain ⟨A, ca1, P, V1, cv1⟩ := r
  dsimp only at *
  have HA := Lib.hid a1
  have HV := Lib.hid v1
  have CA := Lib.hid ca
  have CV := Lib.hid (fun v (hv : v < x.nv) B d (KB : Elems w B (x.ne v) (x.et v) (x.ep v)) W (hW : Below w.heap.size w W) (m : Int) (h1 : 1 ≤ m) (h2 : m ≤ 1000) => cin_any B (x.ne v) d (x.et v) (x.ep v) m W (g3 v hv).2.1 (KB.keep (Kept.of hW)) h1 h2 (fun e he => cv v e hv he))
  have h0 := Own.one w (.cells #[.int .i64 x.kind, .string x.text, .string x.name, .string x.attr, .slice A x.na ca1, .pointer P, .slice V1 x.nv cv1] 40)
  clear hR fx ca cv a1 v1 g3 l1 k1
  have cI := fun W (hW : Below w.heap.size w W) r (R : x.inner.R w r) (m : Int) (h1 : 1 ≤ m) (h2 : m ≤ 1000) => ci (fun e => by rw [e] at R; exact R.elim) W r m (EX.keep (Kept.of hW) R) h1 h2
  clear ci
  have n1 := g1
  have n2 := g2
  go_enter Tryd.func67, Tryd.ntmps67
  go_upto_region 2 with (fail)
  generalize w.alloc _ = W0 at *
  have aa5 := h0.c 0 5 rfl rfl
  have main : ∀ (t18 t19 t20 t21 t22 t23 t24 t25 t26 t27 : Value) (W2 : World), True := fun _ _ _ _ _ _ _ _ _ _ _ => trivial
  clear main
  by_cases hm : 1 < m
  · have r0 : decide ((1 : Int) < m) = true := decide_eq_true hm
    rcases i1 with ⟨hno, rfl⟩ | ⟨b3, o3, s1, rfl, E1, R1⟩
    · clear hno cI
      have aa4 := Own.c h0 0 4 rfl rfl
      go_wp2
      have HO : Hid (Own w [(w.heap.size, .cells #[.int .i64 x.kind, .string x.text, .string x.name, .string x.attr, .slice A x.na ca1, .pointer none, .slice V1 x.nv cv1] 40 (0, 0))] _) := Lib.hid h0
      clear h0 aa4
      go_loopg [5, 31] x.na (fun gk v5 v31 wx => ∃ (i : Nat) (c : Int), v31 = .int .i64 i ∧ v5 = .int .i64 c ∧ i + gk = x.na ∧ 1 ≤ c ∧ c ≤ 2 * m ∧ Own w [(w.heap.size, .cells #[.int .i64 x.kind, .string x.text, .string x.name, .string x.attr, .slice A x.na ca1, .pointer none, .slice V1 x.nv cv1] 40 (0, 0))] wx)
      case atStart => exact ⟨0, 1, rfl, rfl, by omega, by omega, by omega, HO.out⟩
      case round =>
        obtain ⟨i, c, rfl, rfl, hi, hc1, hc2, hO⟩ := hrel
        clear HO r0 aa5
        by_cases hp : i < x.na
        · obtain ⟨f, rfl⟩ : ∃ f, gk = f + 1 := ⟨gk - 1, by omega⟩
          obtain ⟨b1, o1, r1, rfl, c10, E, k1⟩ := HA.out i hp
          have hk := Kept.of hO.bel
          obtain ⟨c11, c12, c13, c14, c15, c16, c17⟩ := E
          replace c10 := hk _ _ _ c10
          replace c11 := hk _ _ _ c11
          replace c12 := hk _ _ _ c12
          replace c13 := hk _ _ _ c13
          replace c14 := hk _ _ _ c14
          replace c15 := hk _ _ _ c15
          replace c16 := hk _ _ _ c16
          replace c17 := hk _ _ _ c17
          have k2 := EX.keep hk k1
          have cQ := CA.out i hp
          have HI := Lib.hid hi; clear hi HA HV CA CV hk k1
          have q0 : decide ((i : Int) < (x.na : Int)) = true := decide_eq_true (by omega)
          have q1 : (0 : Int) ≤ (i : Int) := by omega
          have q2 : (i : Int) < (x.na : Int) := by omega
          dsimp only at c10 c11 c12 c13 c14 c15 c16 c17
          go_upto_region 7 with (fail)
          have h3 := hO.alloc (.cells #[.string (x.an i), .int .i64 (x.av i).kind, .string (x.av i).text, .string (x.av i).name, .string (x.av i).attr, .slice r1.A (x.av i).na r1.ca, .pointer r1.P, .slice r1.V (x.av i).nv r1.cv] 77)
          have k3 := EX.keep (Kept.of ((Below.refl wr.heap.size wr).alloc (Nat.le_refl _) (.cells #[.string (x.an i), .int .i64 (x.av i).kind, .string (x.av i).text, .string (x.av i).name, .string (x.av i).attr, .slice r1.A (x.av i).na r1.ca, .pointer r1.P, .slice r1.V (x.av i).nv r1.cv] 77))) k2
          clear c10 c11 c12 c13 c14 c15 c16 c17 hO k2
          generalize wr.alloc _ = W1 at *
          generalize wr.heap.size = g1 at *
          have u0 := h3.c 0 0 rfl rfl
          have u1 := h3.c 0 1 rfl rfl
          have u2 := h3.c 0 2 rfl rfl
          have u3 := h3.c 0 3 rfl rfl
          have u4 := h3.c 0 4 rfl rfl
          have u5 := h3.c 0 5 rfl rfl
          have u6 := h3.c 0 6 rfl rfl
          have u7 := h3.c 0 7 rfl rfl
          by_cases hm2 : c < m
          · have r0 : decide (c < m) = true := decide_eq_true hm2
            have cP := cQ W1 r1 (m - c) k3 (by omega) (by omega)
            have ws : wrap64 (m - c) = m - c := w64i (by omega) (by omega)
            go_wp2_with (go_at_call 67; (with_reducible refine cP.mono ?_); rintro e W2 ⟨⟨v, rfl, hv0, hv1⟩, b2⟩; have h4 := h3.step b2; have wv : wrap64 (c + v) = c + v := w64i (by omega) (by omega))
            go_roundg f
            case measure => omega
            case rel => exact ⟨i + 1, c + v, by go_num, by go_num, by have := HI.out; omega, by omega, by omega, h4.tail⟩
          · have r0 : decide (c < m) = false := decide_eq_false hm2
            go_wp2
            go_roundg f
            case measure => omega
            case rel => exact ⟨i + 1, c, by go_num, rfl, by have := HI.out; omega, by omega, by omega, h3.tail⟩
        · clear HA CA hi
          have q0 : decide ((i : Int) < (x.na : Int)) = false := decide_eq_false (by omega)
          have aa6 := hO.c 0 6 rfl rfl
          go_wp2
          have HO2 := Lib.hid hO; clear hO aa6 q0
          go_loopg [5, 50] x.nv (fun gk v5 v50 wx => ∃ (i : Nat) (c : Int), v50 = .int .i64 i ∧ v5 = .int .i64 c ∧ i + gk = x.nv ∧ 1 ≤ c ∧ c ≤ 2 * m ∧ Own w [(w.heap.size, .cells #[.int .i64 x.kind, .string x.text, .string x.name, .string x.attr, .slice A x.na ca1, .pointer none, .slice V1 x.nv cv1] 40 (0, 0))] wx)
          case atStart => exact ⟨0, c, rfl, rfl, by omega, by omega, by omega, HO2.out⟩
          case round =>
            obtain ⟨v, c, rfl, rfl, hi, hc1, hc2, hO⟩ := hrel
            clear HO2
            by_cases hp : v < x.nv
            · obtain ⟨f, rfl⟩ : ∃ f, gk = f + 1 := ⟨gk - 1, by omega⟩
              obtain ⟨b1, o1, B1, d1, rfl, c10, c11, c12, l1, K1⟩ := HV.out v hp
              have hk := Kept.of hO.bel
              replace c10 := hk _ _ _ c10
              replace c11 := hk _ _ _ c11
              replace c12 := hk _ _ _ c12
              have cQ := fun W (hW : Below w.heap.size w W) => CV.out v hp B1 d1 K1 W hW
              have HI := Lib.hid hi; clear hi HV CV hk K1 l1
              have q0 : decide ((v : Int) < (x.nv : Int)) = true := decide_eq_true (by omega)
              have q1 : (0 : Int) ≤ (v : Int) := by omega
              have q2 : (v : Int) < (x.nv : Int) := by omega
              go_upto_region 13 with (fail)
              have h3 := hO.alloc (.cells #[.string (x.vk v), .bool (x.vd v), .slice B1 (x.ne v) d1] 136)
              clear c10 c11 c12 hO
              generalize wr.alloc _ = W1 at *
              generalize wr.heap.size = g1 at *
              have u0 := h3.c 0 0 rfl rfl
              have u1 := h3.c 0 1 rfl rfl
              have u2 := h3.c 0 2 rfl rfl
              by_cases hm2 : c < m
              · have r0 : decide (c < m) = true := decide_eq_true hm2
                have cP := cQ W1 h3.bel (m - c) (by omega) (by omega)
                have ws : wrap64 (m - c) = m - c := w64i (by omega) (by omega)
                go_wp2_with (go_at_call 34; (with_reducible refine cP.mono ?_); rintro e W2 ⟨⟨z, rfl, hv0, hv1⟩, b2⟩; have h4 := h3.step b2; have wv : wrap64 (1 + z) = 1 + z := w64i (by omega) (by omega); have wv2 : wrap64 (c + (1 + z)) = c + (1 + z) := w64i (by omega) (by omega))
                go_roundg f
                case measure => omega
                case rel => exact ⟨v + 1, c + (1 + z), by go_num, by go_num, by have := HI.out; omega, by omega, by omega, h4.tail⟩
              · have r0 : decide (c < m) = false := decide_eq_false hm2
                go_wp2
                go_roundg f
                case measure => omega
                case rel => exact ⟨v + 1, c, by go_num, rfl, by have := HI.out; omega, by omega, by omega, h3.tail⟩
            · have q0 : decide ((v : Int) < (x.nv : Int)) = false := decide_eq_false (by omega)
              have bel := hO.bel
              go_wp2
              go_ret
              exact ⟨⟨c, rfl, by omega, by omega⟩, bel⟩
    · have hbw := Kept.of h0.bel
      have x0 := hbw _ _ _ E1.c0
      have x1 := hbw _ _ _ E1.c1
      have x2 := hbw _ _ _ E1.c2
      have x3 := hbw _ _ _ E1.c3
      have x4 := hbw _ _ _ E1.c4
      have x5 := hbw _ _ _ E1.c5
      have x6 := hbw _ _ _ E1.c6
      dsimp only at x0 x1 x2 x3 x4 x5 x6
      have cP := cI W0 h0.bel s1 R1 (m - 1) (by omega) (by omega)
      have ws : wrap64 (m - 1) = m - 1 := w64i (by omega) (by omega)
      clear hbw E1 R1 cI
      go_upto_region 4 with (go_at_call 67; (with_reducible refine cP.mono ?_); rintro e W2 ⟨⟨v, rfl, hv0, hv1⟩, b2⟩; have h4 := h0.step b2; have wv : wrap64 (1 + v) = 1 + v := w64i (by omega) (by omega))
      clear x0 x1 x2 x3 x4 x5 x6 aa5 h0
      have hc0 : 1 ≤ 1 + v := by omega
      have hc9 : 1 + v ≤ 2 * m := by omega
      generalize 1 + v = cc at *
      have aa4 := Own.c h4 0 4 rfl rfl
      go_wp2
      have HO : Hid (Own w [(w.heap.size, .cells #[.int .i64 x.kind, .string x.text, .string x.name, .string x.attr, .slice A x.na ca1, .pointer (some ⟨b3, o3, none⟩), .slice V1 x.nv cv1] 40 (0, 0))] _) := Lib.hid h4
      clear h4 aa4
      go_loopg [5, 31] x.na (fun gk v5 v31 wx => ∃ (i : Nat) (c : Int), v31 = .int .i64 i ∧ v5 = .int .i64 c ∧ i + gk = x.na ∧ 1 ≤ c ∧ c ≤ 2 * m ∧ Own w [(w.heap.size, .cells #[.int .i64 x.kind, .string x.text, .string x.name, .string x.attr, .slice A x.na ca1, .pointer (some ⟨b3, o3, none⟩), .slice V1 x.nv cv1] 40 (0, 0))] wx)
      case atStart => exact ⟨0, cc, rfl, rfl, by omega, by omega, by omega, HO.out⟩
      case round =>
        obtain ⟨i, c, rfl, rfl, hi, hc1, hc2, hO⟩ := hrel
        clear HO r0
        by_cases hp : i < x.na
        · obtain ⟨f, rfl⟩ : ∃ f, gk = f + 1 := ⟨gk - 1, by omega⟩
          obtain ⟨b1, o1, r1, rfl, c10, E, k1⟩ := HA.out i hp
          have hk := Kept.of hO.bel
          obtain ⟨c11, c12, c13, c14, c15, c16, c17⟩ := E
          replace c10 := hk _ _ _ c10
          replace c11 := hk _ _ _ c11
          replace c12 := hk _ _ _ c12
          replace c13 := hk _ _ _ c13
          replace c14 := hk _ _ _ c14
          replace c15 := hk _ _ _ c15
          replace c16 := hk _ _ _ c16
          replace c17 := hk _ _ _ c17
          have k2 := EX.keep hk k1
          have cQ := CA.out i hp
          have HI := Lib.hid hi; clear hi HA HV CA CV hk k1
          have q0 : decide ((i : Int) < (x.na : Int)) = true := decide_eq_true (by omega)
          have q1 : (0 : Int) ≤ (i : Int) := by omega
          have q2 : (i : Int) < (x.na : Int) := by omega
          dsimp only at c10 c11 c12 c13 c14 c15 c16 c17
          go_upto_region 7 with (fail)
          have h3 := hO.alloc (.cells #[.string (x.an i), .int .i64 (x.av i).kind, .string (x.av i).text, .string (x.av i).name, .string (x.av i).attr, .slice r1.A (x.av i).na r1.ca, .pointer r1.P, .slice r1.V (x.av i).nv r1.cv] 77)
          have k3 := EX.keep (Kept.of ((Below.refl wr.heap.size wr).alloc (Nat.le_refl _) (.cells #[.string (x.an i), .int .i64 (x.av i).kind, .string (x.av i).text, .string (x.av i).name, .string (x.av i).attr, .slice r1.A (x.av i).na r1.ca, .pointer r1.P, .slice r1.V (x.av i).nv r1.cv] 77))) k2
          clear c10 c11 c12 c13 c14 c15 c16 c17 hO k2
          generalize wr.alloc _ = W1 at *
          generalize wr.heap.size = g1 at *
          have u0 := h3.c 0 0 rfl rfl
          have u1 := h3.c 0 1 rfl rfl
          have u2 := h3.c 0 2 rfl rfl
          have u3 := h3.c 0 3 rfl rfl
          have u4 := h3.c 0 4 rfl rfl
          have u5 := h3.c 0 5 rfl rfl
          have u6 := h3.c 0 6 rfl rfl
          have u7 := h3.c 0 7 rfl rfl
          by_cases hm2 : c < m
          · have r0 : decide (c < m) = true := decide_eq_true hm2
            have cP := cQ W1 r1 (m - c) k3 (by omega) (by omega)
            have ws : wrap64 (m - c) = m - c := w64i (by omega) (by omega)
            go_wp2_with (go_at_call 67; (with_reducible refine cP.mono ?_); rintro e W2 ⟨⟨v, rfl, hv0, hv1⟩, b2⟩; have h4 := h3.step b2; have wv : wrap64 (c + v) = c + v := w64i (by omega) (by omega))
            go_roundg f
            case measure => omega
            case rel => exact ⟨i + 1, c + v, by go_num, by go_num, by have := HI.out; omega, by omega, by omega, h4.tail⟩
          · have r0 : decide (c < m) = false := decide_eq_false hm2
            go_wp2
            go_roundg f
            case measure => omega
            case rel => exact ⟨i + 1, c, by go_num, rfl, by have := HI.out; omega, by omega, by omega, h3.tail⟩
        · clear HA CA hi
          have q0 : decide ((i : Int) < (x.na : Int)) = false := decide_eq_false (by omega)
          have aa6 := hO.c 0 6 rfl rfl
          go_wp2
          have HO2 := Lib.hid hO; clear hO aa6 q0
          go_loopg [5, 50] x.nv (fun gk v5 v50 wx => ∃ (i : Nat) (c : Int), v50 = .int .i64 i ∧ v5 = .int .i64 c ∧ i + gk = x.nv ∧ 1 ≤ c ∧ c ≤ 2 * m ∧ Own w [(w.heap.size, .cells #[.int .i64 x.kind, .string x.text, .string x.name, .string x.attr, .slice A x.na ca1, .pointer (some ⟨b3, o3, none⟩), .slice V1 x.nv cv1] 40 (0, 0))] wx)
          case atStart => exact ⟨0, c, rfl, rfl, by omega, by omega, by omega, HO2.out⟩
          case round =>
            obtain ⟨v, c, rfl, rfl, hi, hc1, hc2, hO⟩ := hrel
            clear HO2
            by_cases hp : v < x.nv
            · obtain ⟨f, rfl⟩ : ∃ f, gk = f + 1 := ⟨gk - 1, by omega⟩
              obtain ⟨b1, o1, B1, d1, rfl, c10, c11, c12, l1, K1⟩ := HV.out v hp
              have hk := Kept.of hO.bel
              replace c10 := hk _ _ _ c10
              replace c11 := hk _ _ _ c11
              replace c12 := hk _ _ _ c12
              have cQ := fun W (hW : Below w.heap.size w W) => CV.out v hp B1 d1 K1 W hW
              have HI := Lib.hid hi; clear hi HV CV hk K1 l1
              have q0 : decide ((v : Int) < (x.nv : Int)) = true := decide_eq_true (by omega)
              have q1 : (0 : Int) ≤ (v : Int) := by omega
              have q2 : (v : Int) < (x.nv : Int) := by omega
              go_upto_region 13 with (fail)
              have h3 := hO.alloc (.cells #[.string (x.vk v), .bool (x.vd v), .slice B1 (x.ne v) d1] 136)
              clear c10 c11 c12 hO
              generalize wr.alloc _ = W1 at *
              generalize wr.heap.size = g1 at *
              have u0 := h3.c 0 0 rfl rfl
              have u1 := h3.c 0 1 rfl rfl
              have u2 := h3.c 0 2 rfl rfl
              by_cases hm2 : c < m
              · have r0 : decide (c < m) = true := decide_eq_true hm2
                have cP := cQ W1 h3.bel (m - c) (by omega) (by omega)
                have ws : wrap64 (m - c) = m - c := w64i (by omega) (by omega)
                go_wp2_with (go_at_call 34; (with_reducible refine cP.mono ?_); rintro e W2 ⟨⟨z, rfl, hv0, hv1⟩, b2⟩; have h4 := h3.step b2; have wv : wrap64 (1 + z) = 1 + z := w64i (by omega) (by omega); have wv2 : wrap64 (c + (1 + z)) = c + (1 + z) := w64i (by omega) (by omega))
                go_roundg f
                case measure => omega
                case rel => exact ⟨v + 1, c + (1 + z), by go_num, by go_num, by have := HI.out; omega, by omega, by omega, h4.tail⟩
              · have r0 : decide (c < m) = false := decide_eq_false hm2
                go_wp2
                go_roundg f
                case measure => omega
                case rel => exact ⟨v + 1, c, by go_num, rfl, by have := HI.out; omega, by omega, by omega, h3.tail⟩
            · have q0 : decide ((v : Int) < (x.nv : Int)) = false := decide_eq_false (by omega)
              have bel := hO.bel
              go_wp2
              go_ret
              exact ⟨⟨c, rfl, by omega, by omega⟩, bel⟩
  · have r0 : decide ((1 : Int) < m) = false := decide_eq_false hm
    clear cI hm
    rcases i1 with ⟨hno, rfl⟩ | ⟨b3, o3, s1, rfl, E1, R1⟩
    · clear hno
      have aa4 := Own.c h0 0 4 rfl rfl
      go_wp2
      have HO : Hid (Own w [(w.heap.size, .cells #[.int .i64 x.kind, .string x.text, .string x.name, .string x.attr, .slice A x.na ca1, .pointer none, .slice V1 x.nv cv1] 40 (0, 0))] _) := Lib.hid h0
      clear h0 aa4
      go_loopg [5, 31] x.na (fun gk v5 v31 wx => ∃ (i : Nat) (c : Int), v31 = .int .i64 i ∧ v5 = .int .i64 c ∧ i + gk = x.na ∧ 1 ≤ c ∧ c ≤ 2 * m ∧ Own w [(w.heap.size, .cells #[.int .i64 x.kind, .string x.text, .string x.name, .string x.attr, .slice A x.na ca1, .pointer none, .slice V1 x.nv cv1] 40 (0, 0))] wx)
      case atStart => exact ⟨0, 1, rfl, rfl, by omega, by omega, by omega, HO.out⟩
      case round =>
        obtain ⟨i, c, rfl, rfl, hi, hc1, hc2, hO⟩ := hrel
        clear HO r0 aa5
        by_cases hp : i < x.na
        · obtain ⟨f, rfl⟩ : ∃ f, gk = f + 1 := ⟨gk - 1, by omega⟩
          obtain ⟨b1, o1, r1, rfl, c10, E, k1⟩ := HA.out i hp
          have hk := Kept.of hO.bel
          obtain ⟨c11, c12, c13, c14, c15, c16, c17⟩ := E
          replace c10 := hk _ _ _ c10
          replace c11 := hk _ _ _ c11
          replace c12 := hk _ _ _ c12
          replace c13 := hk _ _ _ c13
          replace c14 := hk _ _ _ c14
          replace c15 := hk _ _ _ c15
          replace c16 := hk _ _ _ c16
          replace c17 := hk _ _ _ c17
          have k2 := EX.keep hk k1
          have cQ := CA.out i hp
          have HI := Lib.hid hi; clear hi HA HV CA CV hk k1
          have q0 : decide ((i : Int) < (x.na : Int)) = true := decide_eq_true (by omega)
          have q1 : (0 : Int) ≤ (i : Int) := by omega
          have q2 : (i : Int) < (x.na : Int) := by omega
          dsimp only at c10 c11 c12 c13 c14 c15 c16 c17
          go_upto_region 7 with (fail)
          have h3 := hO.alloc (.cells #[.string (x.an i), .int .i64 (x.av i).kind, .string (x.av i).text, .string (x.av i).name, .string (x.av i).attr, .slice r1.A (x.av i).na r1.ca, .pointer r1.P, .slice r1.V (x.av i).nv r1.cv] 77)
          have k3 := EX.keep (Kept.of ((Below.refl wr.heap.size wr).alloc (Nat.le_refl _) (.cells #[.string (x.an i), .int .i64 (x.av i).kind, .string (x.av i).text, .string (x.av i).name, .string (x.av i).attr, .slice r1.A (x.av i).na r1.ca, .pointer r1.P, .slice r1.V (x.av i).nv r1.cv] 77))) k2
          clear c10 c11 c12 c13 c14 c15 c16 c17 hO k2
          generalize wr.alloc _ = W1 at *
          generalize wr.heap.size = g1 at *
          have u0 := h3.c 0 0 rfl rfl
          have u1 := h3.c 0 1 rfl rfl
          have u2 := h3.c 0 2 rfl rfl
          have u3 := h3.c 0 3 rfl rfl
          have u4 := h3.c 0 4 rfl rfl
          have u5 := h3.c 0 5 rfl rfl
          have u6 := h3.c 0 6 rfl rfl
          have u7 := h3.c 0 7 rfl rfl
          by_cases hm2 : c < m
          · have r0 : decide (c < m) = true := decide_eq_true hm2
            have cP := cQ W1 r1 (m - c) k3 (by omega) (by omega)
            have ws : wrap64 (m - c) = m - c := w64i (by omega) (by omega)
            go_wp2_with (go_at_call 67; (with_reducible refine cP.mono ?_); rintro e W2 ⟨⟨v, rfl, hv0, hv1⟩, b2⟩; have h4 := h3.step b2; have wv : wrap64 (c + v) = c + v := w64i (by omega) (by omega))
            go_roundg f
            case measure => omega
            case rel => exact ⟨i + 1, c + v, by go_num, by go_num, by have := HI.out; omega, by omega, by omega, h4.tail⟩
          · have r0 : decide (c < m) = false := decide_eq_false hm2
            go_wp2
            go_roundg f
            case measure => omega
            case rel => exact ⟨i + 1, c, by go_num, rfl, by have := HI.out; omega, by omega, by omega, h3.tail⟩
        · clear HA CA hi
          have q0 : decide ((i : Int) < (x.na : Int)) = false := decide_eq_false (by omega)
          have aa6 := hO.c 0 6 rfl rfl
          go_wp2
          have HO2 := Lib.hid hO; clear hO aa6 q0
          go_loopg [5, 50] x.nv (fun gk v5 v50 wx => ∃ (i : Nat) (c : Int), v50 = .int .i64 i ∧ v5 = .int .i64 c ∧ i + gk = x.nv ∧ 1 ≤ c ∧ c ≤ 2 * m ∧ Own w [(w.heap.size, .cells #[.int .i64 x.kind, .string x.text, .string x.name, .string x.attr, .slice A x.na ca1, .pointer none, .slice V1 x.nv cv1] 40 (0, 0))] wx)
          case atStart => exact ⟨0, c, rfl, rfl, by omega, by omega, by omega, HO2.out⟩
          case round =>
            obtain ⟨v, c, rfl, rfl, hi, hc1, hc2, hO⟩ := hrel
            clear HO2
            by_cases hp : v < x.nv
            · obtain ⟨f, rfl⟩ : ∃ f, gk = f + 1 := ⟨gk - 1, by omega⟩
              obtain ⟨b1, o1, B1, d1, rfl, c10, c11, c12, l1, K1⟩ := HV.out v hp
              have hk := Kept.of hO.bel
              replace c10 := hk _ _ _ c10
              replace c11 := hk _ _ _ c11
              replace c12 := hk _ _ _ c12
              have cQ := fun W (hW : Below w.heap.size w W) => CV.out v hp B1 d1 K1 W hW
              have HI := Lib.hid hi; clear hi HV CV hk K1 l1
              have q0 : decide ((v : Int) < (x.nv : Int)) = true := decide_eq_true (by omega)
              have q1 : (0 : Int) ≤ (v : Int) := by omega
              have q2 : (v : Int) < (x.nv : Int) := by omega
              go_upto_region 13 with (fail)
              have h3 := hO.alloc (.cells #[.string (x.vk v), .bool (x.vd v), .slice B1 (x.ne v) d1] 136)
              clear c10 c11 c12 hO
              generalize wr.alloc _ = W1 at *
              generalize wr.heap.size = g1 at *
              have u0 := h3.c 0 0 rfl rfl
              have u1 := h3.c 0 1 rfl rfl
              have u2 := h3.c 0 2 rfl rfl
              by_cases hm2 : c < m
              · have r0 : decide (c < m) = true := decide_eq_true hm2
                have cP := cQ W1 h3.bel (m - c) (by omega) (by omega)
                have ws : wrap64 (m - c) = m - c := w64i (by omega) (by omega)
                go_wp2_with (go_at_call 34; (with_reducible refine cP.mono ?_); rintro e W2 ⟨⟨z, rfl, hv0, hv1⟩, b2⟩; have h4 := h3.step b2; have wv : wrap64 (1 + z) = 1 + z := w64i (by omega) (by omega); have wv2 : wrap64 (c + (1 + z)) = c + (1 + z) := w64i (by omega) (by omega))
                go_roundg f
                case measure => omega
                case rel => exact ⟨v + 1, c + (1 + z), by go_num, by go_num, by have := HI.out; omega, by omega, by omega, h4.tail⟩
              · have r0 : decide (c < m) = false := decide_eq_false hm2
                go_wp2
                go_roundg f
                case measure => omega
                case rel => exact ⟨v + 1, c, by go_num, rfl, by have := HI.out; omega, by omega, by omega, h3.tail⟩
            · have q0 : decide ((v : Int) < (x.nv : Int)) = false := decide_eq_false (by omega)
              have bel := hO.bel
              go_wp2
              go_ret
              exact ⟨⟨c, rfl, by omega, by omega⟩, bel⟩
    · clear E1 R1
      have aa4 := Own.c h0 0 4 rfl rfl
      go_wp2
      have HO : Hid (Own w [(w.heap.size, .cells #[.int .i64 x.kind, .string x.text, .string x.name, .string x.attr, .slice A x.na ca1, .pointer (some ⟨b3, o3, none⟩), .slice V1 x.nv cv1] 40 (0, 0))] _) := Lib.hid h0
      clear h0 aa4
      go_loopg [5, 31] x.na (fun gk v5 v31 wx => ∃ (i : Nat) (c : Int), v31 = .int .i64 i ∧ v5 = .int .i64 c ∧ i + gk = x.na ∧ 1 ≤ c ∧ c ≤ 2 * m ∧ Own w [(w.heap.size, .cells #[.int .i64 x.kind, .string x.text, .string x.name, .string x.attr, .slice A x.na ca1, .pointer (some ⟨b3, o3, none⟩), .slice V1 x.nv cv1] 40 (0, 0))] wx)
      case atStart => exact ⟨0, 1, rfl, rfl, by omega, by omega, by omega, HO.out⟩
      case round =>
        obtain ⟨i, c, rfl, rfl, hi, hc1, hc2, hO⟩ := hrel
        clear HO r0 aa5
        by_cases hp : i < x.na
        · obtain ⟨f, rfl⟩ : ∃ f, gk = f + 1 := ⟨gk - 1, by omega⟩
          obtain ⟨b1, o1, r1, rfl, c10, E, k1⟩ := HA.out i hp
          have hk := Kept.of hO.bel
          obtain ⟨c11, c12, c13, c14, c15, c16, c17⟩ := E
          replace c10 := hk _ _ _ c10
          replace c11 := hk _ _ _ c11
          replace c12 := hk _ _ _ c12
          replace c13 := hk _ _ _ c13
          replace c14 := hk _ _ _ c14
          replace c15 := hk _ _ _ c15
          replace c16 := hk _ _ _ c16
          replace c17 := hk _ _ _ c17
          have k2 := EX.keep hk k1
          have cQ := CA.out i hp
          have HI := Lib.hid hi; clear hi HA HV CA CV hk k1
          have q0 : decide ((i : Int) < (x.na : Int)) = true := decide_eq_true (by omega)
          have q1 : (0 : Int) ≤ (i : Int) := by omega
          have q2 : (i : Int) < (x.na : Int) := by omega
          dsimp only at c10 c11 c12 c13 c14 c15 c16 c17
          go_upto_region 7 with (fail)
          have h3 := hO.alloc (.cells #[.string (x.an i), .int .i64 (x.av i).kind, .string (x.av i).text, .string (x.av i).name, .string (x.av i).attr, .slice r1.A (x.av i).na r1.ca, .pointer r1.P, .slice r1.V (x.av i).nv r1.cv] 77)
          have k3 := EX.keep (Kept.of ((Below.refl wr.heap.size wr).alloc (Nat.le_refl _) (.cells #[.string (x.an i), .int .i64 (x.av i).kind, .string (x.av i).text, .string (x.av i).name, .string (x.av i).attr, .slice r1.A (x.av i).na r1.ca, .pointer r1.P, .slice r1.V (x.av i).nv r1.cv] 77))) k2
          clear c10 c11 c12 c13 c14 c15 c16 c17 hO k2
          generalize wr.alloc _ = W1 at *
          generalize wr.heap.size = g1 at *
          have u0 := h3.c 0 0 rfl rfl
          have u1 := h3.c 0 1 rfl rfl
          have u2 := h3.c 0 2 rfl rfl
          have u3 := h3.c 0 3 rfl rfl
          have u4 := h3.c 0 4 rfl rfl
          have u5 := h3.c 0 5 rfl rfl
          have u6 := h3.c 0 6 rfl rfl
          have u7 := h3.c 0 7 rfl rfl
          by_cases hm2 : c < m
          · have r0 : decide (c < m) = true := decide_eq_true hm2
            have cP := cQ W1 r1 (m - c) k3 (by omega) (by omega)
            have ws : wrap64 (m - c) = m - c := w64i (by omega) (by omega)
            go_wp2_with (go_at_call 67; (with_reducible refine cP.mono ?_); rintro e W2 ⟨⟨v, rfl, hv0, hv1⟩, b2⟩; have h4 := h3.step b2; have wv : wrap64 (c + v) = c + v := w64i (by omega) (by omega))
            go_roundg f
            case measure => omega
            case rel => exact ⟨i + 1, c + v, by go_num, by go_num, by have := HI.out; omega, by omega, by omega, h4.tail⟩
          · have r0 : decide (c < m) = false := decide_eq_false hm2
            go_wp2
            go_roundg f
            case measure => omega
            case rel => exact ⟨i + 1, c, by go_num, rfl, by have := HI.out; omega, by omega, by omega, h3.tail⟩
        · clear HA CA hi
          have q0 : decide ((i : Int) < (x.na : Int)) = false := decide_eq_false (by omega)
          have aa6 := hO.c 0 6 rfl rfl
          go_wp2
          have HO2 := Lib.hid hO; clear hO aa6 q0
          go_loopg [5, 50] x.nv (fun gk v5 v50 wx => ∃ (i : Nat) (c : Int), v50 = .int .i64 i ∧ v5 = .int .i64 c ∧ i + gk = x.nv ∧ 1 ≤ c ∧ c ≤ 2 * m ∧ Own w [(w.heap.size, .cells #[.int .i64 x.kind, .string x.text, .string x.name, .string x.attr, .slice A x.na ca1, .pointer (some ⟨b3, o3, none⟩), .slice V1 x.nv cv1] 40 (0, 0))] wx)
          case atStart => exact ⟨0, c, rfl, rfl, by omega, by omega, by omega, HO2.out⟩
          case round =>
            obtain ⟨v, c, rfl, rfl, hi, hc1, hc2, hO⟩ := hrel
            clear HO2
            by_cases hp : v < x.nv
            · obtain ⟨f, rfl⟩ : ∃ f, gk = f + 1 := ⟨gk - 1, by omega⟩
              obtain ⟨b1, o1, B1, d1, rfl, c10, c11, c12, l1, K1⟩ := HV.out v hp
              have hk := Kept.of hO.bel
              replace c10 := hk _ _ _ c10
              replace c11 := hk _ _ _ c11
              replace c12 := hk _ _ _ c12
              have cQ := fun W (hW : Below w.heap.size w W) => CV.out v hp B1 d1 K1 W hW
              have HI := Lib.hid hi; clear hi HV CV hk K1 l1
              have q0 : decide ((v : Int) < (x.nv : Int)) = true := decide_eq_true (by omega)
              have q1 : (0 : Int) ≤ (v : Int) := by omega
              have q2 : (v : Int) < (x.nv : Int) := by omega
              go_upto_region 13 with (fail)
              have h3 := hO.alloc (.cells #[.string (x.vk v), .bool (x.vd v), .slice B1 (x.ne v) d1] 136)
              clear c10 c11 c12 hO
              generalize wr.alloc _ = W1 at *
              generalize wr.heap.size = g1 at *
              have u0 := h3.c 0 0 rfl rfl
              have u1 := h3.c 0 1 rfl rfl
              have u2 := h3.c 0 2 rfl rfl
              by_cases hm2 : c < m
              · have r0 : decide (c < m) = true := decide_eq_true hm2
                have cP := cQ W1 h3.bel (m - c) (by omega) (by omega)
                have ws : wrap64 (m - c) = m - c := w64i (by omega) (by omega)
                go_wp2_with (go_at_call 34; (with_reducible refine cP.mono ?_); rintro e W2 ⟨⟨z, rfl, hv0, hv1⟩, b2⟩; have h4 := h3.step b2; have wv : wrap64 (1 + z) = 1 + z := w64i (by omega) (by omega); have wv2 : wrap64 (c + (1 + z)) = c + (1 + z) := w64i (by omega) (by omega))
                go_roundg f
                case measure => omega
                case rel => exact ⟨v + 1, c + (1 + z), by go_num, by go_num, by have := HI.out; omega, by omega, by omega, h4.tail⟩
              · have r0 : decide (c < m) = false := decide_eq_false hm2
                go_wp2
                go_roundg f
                case measure => omega
                case rel => exact ⟨v + 1, c, by go_num, rfl, by have := HI.out; omega, by omega, by omega, h3.tail⟩
            · have q0 : decide ((v : Int) < (x.nv : Int)) = false := decide_eq_false (by omega)
              have bel := hO.bel
              go_wp2
              go_ret
              exact ⟨⟨c, rfl, by omega, by omega⟩, bel⟩
theorem cnt_any : ∀ x : EX, x.Fin → CntOk x := by
  intro x
  induction x with
  | no => intro _ w r m h; exact h.elim
  | mk kd tx nm at_ na an av inner nv vk vd ne et ep iha ihi ihp =>
    intro f
    obtain ⟨_, _, p3, p4, p5⟩ := f.out
    exact cnt_step _ f (fun _ => ihi p4) (fun i hi => iha i (p3 i hi).2) (fun v e hv he => ihp v e ((p5 v hv).2.2 e he).2)
end Go.Proofs.YtipmphgkdomebaaDoor
namespace Go.Proofs.YtipmphgkdomebaaDoor
open Go.RowKit
set_option linter.unusedVariables false
set_option linter.unusedSimpArgs false
set_option maxRecDepth 100000 in
set_option maxHeartbeats 1000000 in
theorem small_any (x : EN) (A B : Option Addr) (ca cb : Nat) (w : World) (f : x.Fin) (h : x.R w A ca B cb) :
    Calls Tryd.prog 17 #[.agg #[.int .i64 x.ty, .int .i64 x.lv, .string x.text, .string x.name, .slice A x.nv ca, .slice B x.na cb, .int .i64 x.fr, .int .i64 x.ti]] w fun e w' => (∃ b : Bool, e = .returned (.bool b)) ∧ Below w.heap.size w w' := by
  have h0 := Own.one w (.cells #[.int .i64 x.ty, .int .i64 x.lv, .string x.text, .string x.name, .slice A x.nv ca, .slice B x.na cb, .int .i64 x.fr, .int .i64 x.ti] 29)
  have cV := fun W (hW : Below w.heap.size w W) => cin_any A x.nv ca x.vt x.vp 400 W f.nv (h.val.keep (Kept.of hW)) (by omega) (by omega) (fun e he => cnt_any _ (f.vs e he).2)
  have CV := Lib.hid (fun i (hi : i < x.na) B2 d (KB : Elems w B2 (x.ae i) (x.at_ i) (x.ap i)) W (hW : Below w.heap.size w W) => cin_any B2 (x.ae i) d (x.at_ i) (x.ap i) 400 W (f.ats i hi).2.1 (KB.keep (Kept.of hW)) (by omega) (by omega) (fun e he => cnt_any _ ((f.ats i hi).2.2 e he).2))
  have HB := Lib.hid h.att
  have n1 := f.na
  clear f h
  go_enter Tryd.func17, Tryd.ntmps17
  go_upto_region 1 with (fail)
  generalize w.alloc _ = W0 at *
  have a4 := h0.c 0 4 rfl rfl
  have a5 := h0.c 0 5 rfl rfl
  go_wp2_with (go_at_call 34; (with_reducible refine (cV _ h0.bel).mono ?_); rintro e W1 ⟨⟨v, rfl, hv0, hv1⟩, b1⟩; have h1 := h0.step b1; have x5 := h1.c 0 5 rfl rfl)
  have HO := Lib.hid h1
  clear a4 a5 x5 h1 h0 cV
  go_loopg [3, 12] x.na (fun gk v3 v12 wx => ∃ (i : Nat) (c : Int), v12 = .int .i64 i ∧ v3 = .int .i64 c ∧ i + gk = x.na ∧ 0 ≤ c ∧ c ≤ 2000 ∧ Own w [(w.heap.size, .cells #[.int .i64 x.ty, .int .i64 x.lv, .string x.text, .string x.name, .slice A x.nv ca, .slice B x.na cb, .int .i64 x.fr, .int .i64 x.ti] 29 (0, 0))] wx)
  case atStart => exact ⟨0, v, rfl, rfl, by omega, by omega, by omega, HO.out⟩
  case round =>
    obtain ⟨i, c, rfl, rfl, hi, hc0, hc1, hO⟩ := hrel
    clear HO
    by_cases hp : i < x.na
    · obtain ⟨f, rfl⟩ : ∃ f, gk = f + 1 := ⟨gk - 1, by omega⟩
      obtain ⟨b1, o1, B1, d1, rfl, c10, c11, l1, K1⟩ := HB.out i hp
      have hk := Kept.of hO.bel
      replace c10 := hk _ _ _ c10
      replace c11 := hk _ _ _ c11
      have cQ := fun W (hW : Below w.heap.size w W) => CV.out i hp B1 d1 K1 W hW
      have HI := Lib.hid hi; clear hi HB CV hk K1 l1
      have q0 : decide ((i : Int) < (x.na : Int)) = true := decide_eq_true (by omega)
      have q1 : (0 : Int) ≤ (i : Int) := by omega
      have q2 : (i : Int) < (x.na : Int) := by omega
      go_upto_region 5 with (fail)
      have h3 := hO.alloc (.cells #[.string (x.an i), .slice B1 (x.ae i) d1] 44)
      clear c10 c11 hO
      generalize wr.alloc _ = W1 at *
      generalize wr.heap.size = g1 at *
      have u1 := h3.c 0 1 rfl rfl
      by_cases hm2 : c < 400
      · have r0 : decide (c < 400) = true := decide_eq_true hm2
        go_wp2_with (go_at_call 34; (with_reducible refine (cQ _ h3.bel).mono ?_); rintro e W2 ⟨⟨z, rfl, hv0, hv1⟩, b2⟩; have h4 := h3.step b2; have wv : wrap64 (1 + z) = 1 + z := w64i (by omega) (by omega); have wv2 : wrap64 (c + (1 + z)) = c + (1 + z) := w64i (by omega) (by omega))
        go_roundg f
        case measure => omega
        case rel => exact ⟨i + 1, c + (1 + z), by go_num, by go_num, by have := HI.out; omega, by omega, by omega, h4.tail⟩
      · have r0 : decide (c < 400) = false := decide_eq_false hm2
        go_wp2
        go_roundg f
        case measure => omega
        case rel => exact ⟨i + 1, c, by go_num, rfl, by have := HI.out; omega, by omega, by omega, h3.tail⟩
    · have q0 : decide ((i : Int) < (x.na : Int)) = false := decide_eq_false (by omega)
      have bel := hO.bel
      go_wp2
      go_ret
      exact ⟨⟨_, rfl⟩, bel⟩
end Go.Proofs.YtipmphgkdomebaaDoor
namespace Go.Proofs.YtipmphgkdomebaaDoorW.PrintWords
open Go.RowKit
namespace Kd
section
variable {α : Type} {d : Kd α} {e base g o n cap : Nat} {ok okp : Nat → Prop} {w W : World} {v : Value} {xs : List α}
end
section
variable {α : Type} {enc : α → Value} {h1 : ∀ x, (enc x).oneCell' = true} {e base g o n cap : Nat} {ok : Nat → Prop} {W : World} {xs : List α}
end
end Kd
end Go.Proofs.YtipmphgkdomebaaDoorW.PrintWords
namespace Go.Proofs.YtipmphgkdomebaaDoorW.PrintWords
open Go.RowKit
namespace Kd
section
variable {α : Type} {d : Kd α} {e base n cap g : Nat} {ok ok' okp : Nat → Prop} {w w1 W : World} {v v1 : Value} {xs ys : List α}
end
section
variable {P : Program} {ops : Array Oper} {rest : List Oper} {o : Oper} {a : Act} {Q : Exit → Act → World → Prop} {Kc : Act → World → Prop} {α : Type}
end
end Kd
end Go.Proofs.YtipmphgkdomebaaDoorW.PrintWords
namespace Go.Proofs.YtipmphgkdomebaaDoorW.PrintMore
open Go.RowKit Go.Proofs.YtipmphgkdomebaaDoorW.PrintWords
namespace Kd
open Go.Proofs.YtipmphgkdomebaaDoorW.PrintWords.Kd
end Kd
namespace Kd
open Go.Proofs.YtipmphgkdomebaaDoorW.PrintWords.Kd
section
variable {α : Type} {d : Kd α} {e base g N : Nat} {ok : Nat → Prop} {W w1 : World} {u v : Value} {xs : List α}
end
end Kd
theorem max2_int (k k' : IntKind) (x y : Int) : Builtin.max2 (.int k x) (.int k' y) = pure (.int k (if x < y then y else x)) := by simp only [Builtin.max2, gt_iff_lt]
theorem min2_int (k k' : IntKind) (x y : Int) : Builtin.min2 (.int k x) (.int k' y) = pure (.int k (if y < x then y else x)) := by simp only [Builtin.min2]
theorem max_two (ats : Array TypeId) (ty : TypeId) (a b : Value) : Builtin.max_ ats ty #[a, b] = (Builtin.max2 a b >>= fun s => pure s) := by simp only [Builtin.max_, List.foldlM_cons, List.foldlM_nil]
theorem min_two (ats : Array TypeId) (ty : TypeId) (a b : Value) : Builtin.min_ ats ty #[a, b] = (Builtin.min2 a b >>= fun s => pure s) := by simp only [Builtin.min_, List.foldlM_cons, List.foldlM_nil]
theorem max_three (ats : Array TypeId) (ty : TypeId) (a b c : Value) : Builtin.max_ ats ty #[a, b, c] = (Builtin.max2 a b >>= fun s => Builtin.max2 s c >>= fun s => pure s) := by simp only [Builtin.max_, List.foldlM_cons, List.foldlM_nil]
theorem min_three (ats : Array TypeId) (ty : TypeId) (a b c : Value) : Builtin.min_ ats ty #[a, b, c] = (Builtin.min2 a b >>= fun s => Builtin.min2 s c >>= fun s => pure s) := by simp only [Builtin.min_, List.foldlM_cons, List.foldlM_nil]
theorem max_four (ats : Array TypeId) (ty : TypeId) (a b c d : Value) : Builtin.max_ ats ty #[a, b, c, d] = (Builtin.max2 a b >>= fun s => Builtin.max2 s c >>= fun s => Builtin.max2 s d >>= fun s => pure s) := by simp only [Builtin.max_, List.foldlM_cons, List.foldlM_nil]
theorem min_four (ats : Array TypeId) (ty : TypeId) (a b c d : Value) : Builtin.min_ ats ty #[a, b, c, d] = (Builtin.min2 a b >>= fun s => Builtin.min2 s c >>= fun s => Builtin.min2 s d >>= fun s => pure s) := by simp only [Builtin.min_, List.foldlM_cons, List.foldlM_nil]
end Go.Proofs.YtipmphgkdomebaaDoorW.PrintMore
namespace Go.Proofs.YtipmphgkdomebaaDoorW.PrintWords
open Go.RowKit
section
variable {P : Program} {ops : Array Oper} {rest : List Oper} {o : Oper} {a : Act} {Q : Exit → Act → World → Prop} {W : World}
theorem gate_callee {f : FuncId} {ags : Array Operand} {ts : Array TypeId} (_ho : o.op = .call { callee := .value (.func f), args := ags, argTypes := ts }) (h : wpList P ops Q (o :: rest) a W) : wpList P ops Q (o :: rest) a W := h
end
namespace Kd
section
variable {α : Type} {d : Kd α} {e base : Nat} {ok : Nat → Prop} {W w1 : World} {v : Value} {xs : List α}
end
section
variable {α : Type} {d : Kd α} {e base g n cap : Nat} {ok oki okp : Nat → Prop} {W : World} {xs : List α} {i : Int} {c : List Value}
end
section
variable {α : Type} {d : Kd α} {e base b b' g N : Nat} {ok ok1 : Nat → Prop} {W W2 w1 : World} {u v : Value} {xs ys : List α} {S : Nat → Prop}
end
end Kd
end Go.Proofs.YtipmphgkdomebaaDoorW.PrintWords
namespace Go.Proofs.YtipmphgkdomebaaDoorW.PrintWords
open Go.RowKit
namespace Kd
def V {α : Type} (d : Kd α) (_e : Nat) (W : World) (_base : Nat) (ok : Nat → Prop) (v : Value) (xs : List α) : Prop := ∃ A c, v = .slice A xs.length c ∧ xs.length ≤ c ∧ F d W ok A xs.length xs
section
variable {α β : Type} {d : Kd α} {e base base' n m c g N' lo hi : Nat} {ok ok' S : Nat → Prop} {w W w1 : World} {A : Option Addr} {ad : Addr} {u v v1 : Value} {xs : List α}
end
end Kd
end Go.Proofs.YtipmphgkdomebaaDoorW.PrintWords
namespace Go.Proofs.YtipmphgkdomebaaDoor
open Go.RowKit
set_option linter.unusedVariables false
set_option linter.unusedSimpArgs false
theorem bInfo : (Tryd.prog.info? 56).map (·.size) = some 2 := by kernel_rfl
theorem byteInfo : (Tryd.prog.info? 5).map (fun i => (i.zero, i.size, i.bytes)) = some (some (.int .u8 0), 1, 1) := by kernel_rfl
theorem bLies : liesAt Tryd.prog Tryd.prog.depth 56 (2 / Tryd.prog.cellsOf 56) 0 56 1 = true := by kernel_rfl
theorem bNe : (56 : Nat) ≠ 5 := by decide
set_option maxRecDepth 100000 in
theorem copy_used (b : Nat) (w : World) (h0 : w.cell? ⟨b, 0, none⟩ = some (.pointer (some ⟨b, 0, none⟩))) :
    Calls Tryd.prog 97 #[.pointer (some ⟨b, 0, none⟩)] w fun e w' => e = .returned (.tuple #[]) ∧ w' = w := by
  obtain ⟨j, hj, _⟩ := Option.map_eq_some_iff.1 bInfo
  go_enter Tryd.func97, Tryd.ntmps97
  go_wp2
  rw [Lib.run_neq_ptr_same w _ Tryd.underlying53 hj]
  go_wp2
  go_end0
  exact ⟨rfl, rfl⟩
set_option maxRecDepth 100000 in
theorem copy_fresh (b : Nat) (w : World) (h0 : w.cell? ⟨b, 0, none⟩ = some (.pointer none)) (hsh : w.shape? b = some (56, 2)) (hfz : w.frozen? ⟨b, 0, none⟩ = false) :
    Calls Tryd.prog 97 #[.pointer (some ⟨b, 0, none⟩)] w fun e w' => e = .returned (.tuple #[]) ∧ w' = w.setCell ⟨b, 0, none⟩ (.pointer (some ⟨b, 0, none⟩)) := by
  obtain ⟨j, hj, hjs⟩ := Option.map_eq_some_iff.1 bInfo
  go_enter Tryd.func97, Tryd.ntmps97
  go_wp2
  rw [Lib.run_to_unsafe w ⟨b, 0, none⟩ Tryd.underlying53 Tryd.underlying157 hj (by rw [hjs]; decide) hsh (Nat.zero_lt_succ 1)]
  simp only [Result.andThen]
  rw [Oper.upon_value]
  go_wp2
  rw [run_callFunc_extern Tryd.func139 (by kernel_rfl) (by kernel_rfl) (by kernel_rfl) (e := Extern.AbiNoEscape.same) (by kernel_rfl)]
  rw [Lib.run_noEscape]
  simp only [Result.andThen]
  rw [Oper.upon_value]
  go_wp2
  rw [Lib.run_from_unsafe w ⟨b, 0, none⟩ Tryd.underlying157 Tryd.underlying53 hj hsh bLies]
  simp only [Result.andThen]
  rw [Oper.upon_value]
  go_wp2
  go_end0
  exact ⟨rfl, rfl⟩
abbrev BF (B b : Nat) (bs : List Value) (w : World) : Prop := Lib.IsBuilderF 56 5 B b bs w
abbrev BU (B b : Nat) (bs : List Value) (w : World) : Prop := Lib.BuilderAtF 56 5 B b (.pointer (some ⟨b, 0, none⟩)) bs w
theorem copy_any (B b : Nat) (bs : List Value) (w : World) (h : BF B b bs w) :
    Calls Tryd.prog 97 #[.pointer (some ⟨b, 0, none⟩)] w fun e w' => e = .returned (.tuple #[]) ∧ BU B b bs w' ∧ Below B w w' ∧ Lib.OthersKept 5 (some b) w w' := by
  rcases h with h | h
  · refine (copy_fresh b w h.cell0 h.shape h.frozen0).mono ?_
    rintro e w' ⟨rfl, rfl⟩
    exact ⟨rfl, h.used _, (Below.refl B w).setCell (p := ⟨b, 0, none⟩) h.1 _, (Lib.OthersKept.refl _ _ w).setCell ⟨b, 0, none⟩ rfl _⟩
  · refine (copy_used b w h.cell0).mono ?_
    rintro e w' ⟨rfl, rfl⟩
    exact ⟨rfl, h, Below.refl B _, Lib.OthersKept.refl _ _ _⟩
set_option maxHeartbeats 2000000 in
set_option maxRecDepth 100000 in
theorem writeString_any (B b : Nat) (bs : List Value) (s : ByteArray) (w : World) (h : BF B b bs w) (hlen : bs.length + s.size ≤ 140737488355328) (hBw : B ≤ w.heap.size) :
    Calls Tryd.prog 56 #[.pointer (some ⟨b, 0, none⟩), .string s] w fun e w' => e = .returned (.tuple #[.int .i64 s.size, .nilIface]) ∧ BU B b (bs ++ Lib.strCells s) w' ∧ Below B w w' ∧ Lib.OthersKept 5 (some b) w w' := by
  obtain ⟨i0, hi, hz0, hz1, hz2⟩ := info_parts byteInfo
  go_enter Tryd.func56, Tryd.ntmps56
  go_wp2_with (go_at_call 97; refine (copy_any B b bs _ h).mono ?_)
  rintro e w1 ⟨rfl, h1, hb1, hk1⟩
  obtain ⟨hB, v, hbk, hown, hne⟩ := h1
  have c0 : w1.cell? ⟨b, 0, none⟩ = some (.pointer (some ⟨b, 0, none⟩)) := by rw [Lib.cell_of_heap hbk]; rfl
  have c1 : w1.cell? ⟨b, 1, none⟩ = some v := by rw [Lib.cell_of_heap hbk]; rfl
  go_wp2_with (at_builtin; refine Lib.wpList_append_own_stringF _ rfl _ _ 54 9 rfl B 5 i0 Tryd.underlying54 Tryd.underlying9 hi hz0 hz1 hz2 _ _ _ rfl hown s rfl ?c3 ?c4 ?c5 ?_)
  case c3 => unfold maxLen; omega
  case c4 => omega
  case c5 => have := hb1.size; omega
  intro v' w2 hown' hgrow _
  have hlt : b < w1.heap.size := by
    rcases Nat.lt_or_ge b w1.heap.size with h' | h'
    · exact h'
    · simp [Array.getElem?_eq_none h'] at hbk
  have hb2 : w2.heap[b]? = some (.cells #[.pointer (some ⟨b, 0, none⟩), v] 56 (0, 0)) := by
    rw [hgrow.block b hlt (fun e => hne e.symm)]
    exact hbk
  have d0 : w2.cell? ⟨b, 0, none⟩ = some (.pointer (some ⟨b, 0, none⟩)) := by rw [Lib.cell_of_heap hb2]; rfl
  have d1 : w2.cell? ⟨b, 1, none⟩ = some v := by rw [Lib.cell_of_heap hb2]; rfl
  have f1 : w2.frozen? ⟨b, 1, none⟩ = false := Lib.frozen_of_heap hb2 1
  obtain ⟨ao, n', cap, rfl⟩ : ∃ ao n' cap, v' = .slice ao n' cap := by
    rcases hown'.2 with ⟨hv, _⟩ | ⟨g, cap, cur, fz, hv, _⟩
    · exact ⟨_, _, _, hv⟩
    · exact ⟨_, _, _, hv⟩
  go_wp2
  go_ret2
  refine ⟨rfl, ?_, ?_, (hk1.grown hgrow (Lib.ownsRowF_kind hown)).setCell ⟨b, 1, none⟩ rfl _⟩
  · exact Lib.BuilderAtF.put (T := 56) (e := 5) hB hb2 (bs' := bs ++ Lib.strCells s) (by simpa [Lib.strCells_length] using hown') bNe
  · exact (hb1.grown hgrow (by have := hb1.size; omega) (fun k hk => (hown.lt k hk).1)).setCell (p := ⟨b, 1, none⟩) hB _
theorem BF.below {B b : Nat} {bs : List Value} {w w' : World} (h : BF B b bs w) (hb : Below w.heap.size w w') : BF B b bs w' := by
  have go : ∀ p, Lib.BuilderAtF 56 5 B b p bs w → Lib.BuilderAtF 56 5 B b p bs w' := by
    intro p h
    have hlt := h.lt
    obtain ⟨hB, v, hk, hown, hne⟩ := h
    refine ⟨hB, v, (hb.block b hlt).trans hk, hown.kept (row := none) ⟨hb.os, hb.tape, hb.output, hb.size, fun i hi _ => hb.block i hi⟩ ?_, hne⟩
    cases h0 : v.ownBlock with
    | none => exact .inl rfl
    | some _ => exact .inr (by simp)
  exact h.elim (fun x => .inl (go _ x)) (fun x => .inr (go _ x))
theorem BF.lt {B b : Nat} {bs : List Value} {w : World} (h : BF B b bs w) : b < w.heap.size := h.elim (·.lt) (·.lt)
theorem BF.new (w : World) : BF w.heap.size w.heap.size [] (w.alloc (.cells #[.pointer none, .slice none 0 0] 56)) :=
  .inl ⟨Nat.le_refl _, .slice none 0 0, Go.Proofs.YtipmphgkdomebaaDoorW.PrintWords.blk_new w _, World.ownsRowF_nil _ _ _ _, by simp [Value.ownBlock]⟩
end Go.Proofs.YtipmphgkdomebaaDoor
namespace Go.Proofs
open Go.Shelf
def Tryd.lays169_ren : Go.Shelf.Ren := ⟨fun | 169 => 30 | n => n, fun | 70 => 53 | 9 => 9 | 0 => 0 | 72 => 56 | 37 => 54 | 127 => 97 | 3 => 3 | 5 => 5 | n => n, fun | n => n⟩
theorem Tryd.lays169 : Go.Proofs.Lays.n169 Tryd.prog Tryd.lays169_ren := {
  mixed := by kernel_rfl
  f169 := Tryd.func30.trans (congrArg some (by kernel_rfl))
  t0 := Tryd.underlying0
  a0 := Tryd.isAgg0
  z0 := Tryd.sizeOf0
  v0 := Tryd.zeroValue0
  t3 := Tryd.underlying3
  a3 := Tryd.isAgg3
  z3 := Tryd.sizeOf3
  v3 := Tryd.zeroValue3
  t9 := Tryd.underlying9
  a9 := Tryd.isAgg9
  z9 := Tryd.sizeOf9
  v9 := Tryd.zeroValue9
  t37 := Tryd.underlying54
  a37 := Tryd.isAgg54
  z37 := Tryd.sizeOf54
  v37 := Tryd.zeroValue54
  t70 := Tryd.underlying53
  a70 := Tryd.isAgg53
  z70 := Tryd.sizeOf53
  v70 := Tryd.zeroValue53
  t72 := Tryd.underlying56
  a72 := Tryd.isAgg56
  z72 := Tryd.sizeOf56
  v72 := Tryd.zeroValue56
  t127 := Tryd.underlying97
  a127 := Tryd.isAgg97
  z127 := Tryd.sizeOf97
  v127 := Tryd.zeroValue97 }
theorem Tryd.Builder_Extra_169 : Builder.Extra Tryd.prog Tryd.lays169_ren := {
  sizeBuilder := by kernel_rfl
  liesBuilder := by kernel_rfl
  t5 := Tryd.underlying5
  a5 := Tryd.isAgg5
  z5 := Tryd.sizeOf5
  v5 := Tryd.zeroValue5
  infoByte := by kernel_rfl
  cellsByte := by kernel_rfl
  sizeByte := by kernel_rfl
  neB5 := by decide }
def Tryd.lays161_ren : Go.Shelf.Ren := ⟨fun | 161 => 115 | 231 => 155 | 227 => 153 | 233 => 157 | 235 => 159 | 228 => 154 | 197 => 88 | 151 => 172 | 260 => 132 | 152 => 151 | 137 => 62 | 119 => 171 | 224 => 145 | 225 => 144 | 217 => 102 | 266 => 141 | n => n, fun | 9 => 9 | 4 => 4 | 3 => 3 | 5 => 5 | 117 => 168 | 116 => 167 | 0 => 0 | 124 => 172 | 105 => 122 | 21 => 21 | 119 => 106 | 46 => 92 | 139 => 109 | 138 => 108 | n => n, fun | 3 => 0 | 4 => 1 | n => n⟩
theorem Tryd.lays161 : Go.Proofs.Lays.n161 Tryd.prog Tryd.lays161_ren := {
  mixed := by kernel_rfl
  f119 := Tryd.func171.trans (congrArg some (by kernel_rfl))
  f137 := Tryd.func62.trans (congrArg some (by kernel_rfl))
  f151 := Tryd.func172.trans (congrArg some (by kernel_rfl))
  f152 := Tryd.func151.trans (congrArg some (by kernel_rfl))
  f161 := Tryd.func115.trans (congrArg some (by kernel_rfl))
  f197 := Tryd.func88.trans (congrArg some (by kernel_rfl))
  f217 := Tryd.func102.trans (congrArg some (by kernel_rfl))
  f224 := Tryd.func145.trans (congrArg some (by kernel_rfl))
  f225 := Tryd.func144.trans (congrArg some (by kernel_rfl))
  f227 := Tryd.func153.trans (congrArg some (by kernel_rfl))
  f228 := Tryd.func154.trans (congrArg some (by kernel_rfl))
  f231 := Tryd.func155.trans (congrArg some (by kernel_rfl))
  f233 := Tryd.func157.trans (congrArg some (by kernel_rfl))
  f235 := Tryd.func159.trans (congrArg some (by kernel_rfl))
  f260 := Tryd.func132.trans (congrArg some (by kernel_rfl))
  f266 := Tryd.func141.trans (congrArg some (by kernel_rfl))
  t0 := Tryd.underlying0
  a0 := Tryd.isAgg0
  z0 := Tryd.sizeOf0
  v0 := Tryd.zeroValue0
  t3 := Tryd.underlying3
  a3 := Tryd.isAgg3
  z3 := Tryd.sizeOf3
  v3 := Tryd.zeroValue3
  t4 := Tryd.underlying4
  a4 := Tryd.isAgg4
  z4 := Tryd.sizeOf4
  v4 := Tryd.zeroValue4
  t5 := Tryd.underlying5
  a5 := Tryd.isAgg5
  z5 := Tryd.sizeOf5
  v5 := Tryd.zeroValue5
  t9 := Tryd.underlying9
  a9 := Tryd.isAgg9
  z9 := Tryd.sizeOf9
  v9 := Tryd.zeroValue9
  t21 := Tryd.underlying21
  a21 := Tryd.isAgg21
  z21 := Tryd.sizeOf21
  v21 := Tryd.zeroValue21
  t46 := Tryd.underlying92
  a46 := Tryd.isAgg92
  z46 := Tryd.sizeOf92
  v46 := Tryd.zeroValue92
  t105 := Tryd.underlying122
  a105 := Tryd.isAgg122
  z105 := Tryd.sizeOf122
  v105 := Tryd.zeroValue122
  t116 := Tryd.underlying167
  a116 := Tryd.isAgg167
  z116 := Tryd.sizeOf167
  t117 := Tryd.underlying168
  a117 := Tryd.isAgg168
  z117 := Tryd.sizeOf168
  v117 := Tryd.zeroValue168
  t119 := Tryd.underlying106
  a119 := Tryd.isAgg106
  z119 := Tryd.sizeOf106
  t124 := Tryd.underlying172
  a124 := Tryd.isAgg172
  z124 := Tryd.sizeOf172
  v124 := Tryd.zeroValue172
  t138 := Tryd.underlying108
  a138 := Tryd.isAgg108
  z138 := Tryd.sizeOf108
  v138 := Tryd.zeroValue108
  t139 := Tryd.underlying109
  a139 := Tryd.isAgg109
  z139 := Tryd.sizeOf109
  v139 := Tryd.zeroValue109
  g3 := by kernel_rfl
  g4 := by kernel_rfl }
def Tryd.lays160_ren : Go.Shelf.Ren := ⟨fun | 160 => 114 | 232 => 156 | 231 => 155 | 227 => 153 | 234 => 158 | 233 => 157 | 236 => 160 | 235 => 159 | 228 => 154 | 271 => 173 | 151 => 172 | 197 => 88 | 120 => 177 | 152 => 151 | 260 => 132 | 137 => 62 | 119 => 171 | 224 => 145 | 225 => 144 | 217 => 102 | 266 => 141 | n => n, fun | 9 => 9 | 4 => 4 | 3 => 3 | 5 => 5 | 117 => 168 | 116 => 167 | 0 => 0 | 124 => 172 | 21 => 21 | 105 => 122 | 46 => 92 | 119 => 106 | 139 => 109 | 138 => 108 | n => n, fun | 3 => 0 | 4 => 1 | n => n⟩
theorem Tryd.lays160 : Go.Proofs.Lays.n160 Tryd.prog Tryd.lays160_ren := {
  mixed := by kernel_rfl
  f119 := Tryd.func171.trans (congrArg some (by kernel_rfl))
  f120 := Tryd.func177.trans (congrArg some (by kernel_rfl))
  f137 := Tryd.func62.trans (congrArg some (by kernel_rfl))
  f151 := Tryd.func172.trans (congrArg some (by kernel_rfl))
  f152 := Tryd.func151.trans (congrArg some (by kernel_rfl))
  f160 := Tryd.func114.trans (congrArg some (by kernel_rfl))
  f197 := Tryd.func88.trans (congrArg some (by kernel_rfl))
  f217 := Tryd.func102.trans (congrArg some (by kernel_rfl))
  f224 := Tryd.func145.trans (congrArg some (by kernel_rfl))
  f225 := Tryd.func144.trans (congrArg some (by kernel_rfl))
  f227 := Tryd.func153.trans (congrArg some (by kernel_rfl))
  f228 := Tryd.func154.trans (congrArg some (by kernel_rfl))
  f231 := Tryd.func155.trans (congrArg some (by kernel_rfl))
  f232 := Tryd.func156.trans (congrArg some (by kernel_rfl))
  f233 := Tryd.func157.trans (congrArg some (by kernel_rfl))
  f234 := Tryd.func158.trans (congrArg some (by kernel_rfl))
  f235 := Tryd.func159.trans (congrArg some (by kernel_rfl))
  f236 := Tryd.func160.trans (congrArg some (by kernel_rfl))
  f260 := Tryd.func132.trans (congrArg some (by kernel_rfl))
  f266 := Tryd.func141.trans (congrArg some (by kernel_rfl))
  f271 := Tryd.func173.trans (congrArg some (by kernel_rfl))
  t0 := Tryd.underlying0
  a0 := Tryd.isAgg0
  z0 := Tryd.sizeOf0
  v0 := Tryd.zeroValue0
  t3 := Tryd.underlying3
  a3 := Tryd.isAgg3
  z3 := Tryd.sizeOf3
  v3 := Tryd.zeroValue3
  t4 := Tryd.underlying4
  a4 := Tryd.isAgg4
  z4 := Tryd.sizeOf4
  v4 := Tryd.zeroValue4
  t5 := Tryd.underlying5
  a5 := Tryd.isAgg5
  z5 := Tryd.sizeOf5
  v5 := Tryd.zeroValue5
  t9 := Tryd.underlying9
  a9 := Tryd.isAgg9
  z9 := Tryd.sizeOf9
  v9 := Tryd.zeroValue9
  t21 := Tryd.underlying21
  a21 := Tryd.isAgg21
  z21 := Tryd.sizeOf21
  v21 := Tryd.zeroValue21
  t46 := Tryd.underlying92
  a46 := Tryd.isAgg92
  z46 := Tryd.sizeOf92
  v46 := Tryd.zeroValue92
  t105 := Tryd.underlying122
  a105 := Tryd.isAgg122
  z105 := Tryd.sizeOf122
  v105 := Tryd.zeroValue122
  t116 := Tryd.underlying167
  a116 := Tryd.isAgg167
  z116 := Tryd.sizeOf167
  t117 := Tryd.underlying168
  a117 := Tryd.isAgg168
  z117 := Tryd.sizeOf168
  v117 := Tryd.zeroValue168
  t119 := Tryd.underlying106
  a119 := Tryd.isAgg106
  z119 := Tryd.sizeOf106
  t124 := Tryd.underlying172
  a124 := Tryd.isAgg172
  z124 := Tryd.sizeOf172
  v124 := Tryd.zeroValue172
  t138 := Tryd.underlying108
  a138 := Tryd.isAgg108
  z138 := Tryd.sizeOf108
  v138 := Tryd.zeroValue108
  t139 := Tryd.underlying109
  a139 := Tryd.isAgg109
  z139 := Tryd.sizeOf109
  v139 := Tryd.zeroValue109
  g3 := by kernel_rfl
  g4 := by kernel_rfl }
open Go.RowKit in
theorem Tryd.Builder_String_any_f (B b : Nat) (l : List UInt8) (w : World) (h : Lib.IsBuilderF 56 5 B b (Lib.byteCells l) w) (hBw : B ≤ w.heap.size) :
    Calls Tryd.prog 30 #[.pointer (some ⟨b, 0, none⟩)] w fun e w' => e = .returned (.string ⟨l.toArray⟩) ∧ (Lib.IsBuilderF 56 5 B b (Lib.byteCells l) w' ∧ Below B w w') := Any.Builder_String_any_f Tryd.lays169 Tryd.Builder_Extra_169 B b l w h hBw
def Tryd.lays146_ren : Go.Shelf.Ren := ⟨fun | 146 => 27 | 221 => 55 | 268 => 95 | 138 => 96 | 143 => 69 | 195 => 137 | 197 => 88 | 218 => 138 | 219 => 105 | 260 => 132 | 217 => 102 | 225 => 144 | 224 => 145 | 267 => 146 | 266 => 141 | 314 => 169 | n => n, fun | 9 => 9 | 31 => 59 | 3 => 3 | 4 => 4 | 0 => 0 | 105 => 122 | 21 => 21 | 5 => 5 | 46 => 92 | 119 => 106 | 139 => 109 | 138 => 108 | 146 => 130 | 51 => 129 | n => n, fun | 1 => 2 | 3 => 0 | 4 => 1 | n => n⟩
theorem Tryd.lays146 : Go.Proofs.Lays.n146 Tryd.prog Tryd.lays146_ren := {
  mixed := by kernel_rfl
  f138 := Tryd.func96.trans (congrArg some (by kernel_rfl))
  f143 := Tryd.func69.trans (congrArg some (by kernel_rfl))
  f146 := Tryd.func27.trans (congrArg some (by kernel_rfl))
  f195 := Tryd.func137.trans (congrArg some (by kernel_rfl))
  f197 := Tryd.func88.trans (congrArg some (by kernel_rfl))
  f217 := Tryd.func102.trans (congrArg some (by kernel_rfl))
  f218 := Tryd.func138.trans (congrArg some (by kernel_rfl))
  f219 := Tryd.func105.trans (congrArg some (by kernel_rfl))
  f221 := Tryd.func55.trans (congrArg some (by kernel_rfl))
  f224 := Tryd.func145.trans (congrArg some (by kernel_rfl))
  f225 := Tryd.func144.trans (congrArg some (by kernel_rfl))
  f260 := Tryd.func132.trans (congrArg some (by kernel_rfl))
  f266 := Tryd.func141.trans (congrArg some (by kernel_rfl))
  f267 := Tryd.func146.trans (congrArg some (by kernel_rfl))
  f268 := Tryd.func95.trans (congrArg some (by kernel_rfl))
  f314 := Tryd.func169.trans (congrArg some (by kernel_rfl))
  t0 := Tryd.underlying0
  a0 := Tryd.isAgg0
  z0 := Tryd.sizeOf0
  v0 := Tryd.zeroValue0
  t3 := Tryd.underlying3
  a3 := Tryd.isAgg3
  z3 := Tryd.sizeOf3
  v3 := Tryd.zeroValue3
  t4 := Tryd.underlying4
  a4 := Tryd.isAgg4
  z4 := Tryd.sizeOf4
  v4 := Tryd.zeroValue4
  t5 := Tryd.underlying5
  a5 := Tryd.isAgg5
  z5 := Tryd.sizeOf5
  v5 := Tryd.zeroValue5
  t9 := Tryd.underlying9
  a9 := Tryd.isAgg9
  z9 := Tryd.sizeOf9
  v9 := Tryd.zeroValue9
  t21 := Tryd.underlying21
  a21 := Tryd.isAgg21
  z21 := Tryd.sizeOf21
  v21 := Tryd.zeroValue21
  t31 := Tryd.underlying59
  a31 := Tryd.isAgg59
  z31 := Tryd.sizeOf59
  v31 := Tryd.zeroValue59
  t46 := Tryd.underlying92
  a46 := Tryd.isAgg92
  z46 := Tryd.sizeOf92
  v46 := Tryd.zeroValue92
  t51 := Tryd.underlying129
  a51 := Tryd.isAgg129
  z51 := Tryd.sizeOf129
  v51 := Tryd.zeroValue129
  t105 := Tryd.underlying122
  a105 := Tryd.isAgg122
  z105 := Tryd.sizeOf122
  v105 := Tryd.zeroValue122
  t119 := Tryd.underlying106
  a119 := Tryd.isAgg106
  z119 := Tryd.sizeOf106
  t138 := Tryd.underlying108
  a138 := Tryd.isAgg108
  z138 := Tryd.sizeOf108
  v138 := Tryd.zeroValue108
  t139 := Tryd.underlying109
  a139 := Tryd.isAgg109
  z139 := Tryd.sizeOf109
  v139 := Tryd.zeroValue109
  t146 := Tryd.underlying130
  a146 := Tryd.isAgg130
  z146 := Tryd.sizeOf130
  v146 := Tryd.zeroValue130
  g1 := by kernel_rfl
  g3 := by kernel_rfl
  g4 := by kernel_rfl }
open Go.RowKit Go.Lib in
theorem Tryd.strings_Split (s sep : ByteArray) (m : Int) (w : World) (hs : s.size < 4294967281) (hm : w.cell? ⟨2, 0, none⟩ = some (.int .i64 m)) (h1 : 1 ≤ sep.size) :
    Calls Tryd.prog 27 #[.string s, .string sep] w fun e w' =>
      e = .returned (.slice (some ⟨w.heap.size, 0, none⟩) (Lib.countB s sep + 1) (Lib.countB s sep + 1)) ∧ w' = w.alloc (.cells ((Lib.splitB sep 0 (Lib.countB s sep) s).map Value.string).toArray 9) := Any.strings_Split Tryd.lays146 (by kernel_rfl) s sep m w hs hm h1
def Tryd.laysM146_ren : Go.Shelf.Ren := ⟨fun | 146 => 27 | 221 => 55 | 268 => 95 | 138 => 96 | 143 => 69 | 195 => 137 | 197 => 88 | 218 => 138 | 219 => 105 | 260 => 132 | 217 => 102 | 225 => 144 | 224 => 145 | 267 => 146 | 266 => 141 | 314 => 169 | n => n, fun | 9 => 9 | 31 => 59 | 3 => 3 | 4 => 4 | 0 => 0 | 105 => 122 | 21 => 21 | 5 => 5 | 46 => 92 | 119 => 106 | 139 => 109 | 138 => 108 | 146 => 130 | 51 => 129 | n => n, fun | 1 => 2 | 3 => 0 | 4 => 1 | n => n⟩
theorem Tryd.laysM146 : Go.Proofs.LaysM.n146 Tryd.prog Tryd.laysM146_ren := {
  mixed := by kernel_rfl
  f138 := Tryd.func96.trans (congrArg some (by kernel_rfl))
  f143 := Tryd.func69.trans (congrArg some (by kernel_rfl))
  f146 := Tryd.func27.trans (congrArg some (by kernel_rfl))
  f195 := Tryd.func137.trans (congrArg some (by kernel_rfl))
  f197 := Tryd.func88.trans (congrArg some (by kernel_rfl))
  f217 := Tryd.func102.trans (congrArg some (by kernel_rfl))
  f218 := Tryd.func138.trans (congrArg some (by kernel_rfl))
  f219 := Tryd.func105.trans (congrArg some (by kernel_rfl))
  f221 := Tryd.func55.trans (congrArg some (by kernel_rfl))
  f224 := Tryd.func145.trans (congrArg some (by kernel_rfl))
  f225 := Tryd.func144.trans (congrArg some (by kernel_rfl))
  f260 := Tryd.func132.trans (congrArg some (by kernel_rfl))
  f266 := Tryd.func141.trans (congrArg some (by kernel_rfl))
  f267 := Tryd.func146.trans (congrArg some (by kernel_rfl))
  f268 := Tryd.func95.trans (congrArg some (by kernel_rfl))
  f314 := Tryd.func169.trans (congrArg some (by kernel_rfl))
  t0 := Tryd.underlying0
  a0 := Tryd.isAgg0
  z0 := Tryd.sizeOf0
  v0 := Tryd.zeroValue0
  t3 := Tryd.underlying3
  a3 := Tryd.isAgg3
  z3 := Tryd.sizeOf3
  v3 := Tryd.zeroValue3
  t4 := Tryd.underlying4
  a4 := Tryd.isAgg4
  z4 := Tryd.sizeOf4
  v4 := Tryd.zeroValue4
  t5 := Tryd.underlying5
  a5 := Tryd.isAgg5
  z5 := Tryd.sizeOf5
  v5 := Tryd.zeroValue5
  t9 := Tryd.underlying9
  a9 := Tryd.isAgg9
  z9 := Tryd.sizeOf9
  v9 := Tryd.zeroValue9
  t21 := Tryd.underlying21
  a21 := Tryd.isAgg21
  z21 := Tryd.sizeOf21
  v21 := Tryd.zeroValue21
  t31 := Tryd.underlying59
  a31 := Tryd.isAgg59
  z31 := Tryd.sizeOf59
  v31 := Tryd.zeroValue59
  t46 := Tryd.underlying92
  a46 := Tryd.isAgg92
  z46 := Tryd.sizeOf92
  v46 := Tryd.zeroValue92
  t51 := Tryd.underlying129
  a51 := Tryd.isAgg129
  z51 := Tryd.sizeOf129
  v51 := Tryd.zeroValue129
  t105 := Tryd.underlying122
  a105 := Tryd.isAgg122
  z105 := Tryd.sizeOf122
  v105 := Tryd.zeroValue122
  t119 := Tryd.underlying106
  a119 := Tryd.isAgg106
  z119 := Tryd.sizeOf106
  t138 := Tryd.underlying108
  a138 := Tryd.isAgg108
  z138 := Tryd.sizeOf108
  v138 := Tryd.zeroValue108
  t139 := Tryd.underlying109
  a139 := Tryd.isAgg109
  z139 := Tryd.sizeOf109
  v139 := Tryd.zeroValue109
  t146 := Tryd.underlying130
  a146 := Tryd.isAgg130
  z146 := Tryd.sizeOf130
  v146 := Tryd.zeroValue130
  g1 := by kernel_rfl
  g3 := by kernel_rfl
  g4 := by kernel_rfl
  i0 := by kernel_rfl
  i3 := by kernel_rfl
  i4 := by kernel_rfl
  i5 := by kernel_rfl
  i9 := by kernel_rfl
  i21 := by kernel_rfl
  i31 := by kernel_rfl
  i46 := by kernel_rfl
  i51 := by kernel_rfl
  i105 := by kernel_rfl
  i138 := by kernel_rfl
  i139 := by kernel_rfl
  i146 := by kernel_rfl
  m1 := by kernel_rfl
  s1_3 := fun w h => Go.Proofs.cell_of_shapedOpen_int (zero := #[.int .i64 0]) (t := 3) h (of_decide_eq_true (by kernel_rfl)) (by kernel_rfl) rfl (by kernel_rfl) (by kernel_rfl) Tryd.underlying3
  m3 := by kernel_rfl
  m4 := by kernel_rfl }
def Tryd.lays153_ren : Go.Shelf.Ren := ⟨fun | 153 => 113 | 152 => 151 | 226 => 152 | 227 => 153 | 228 => 154 | 137 => 62 | 119 => 171 | 224 => 145 | 225 => 144 | 217 => 102 | 266 => 141 | n => n, fun | 9 => 9 | 3 => 3 | 4 => 4 | 5 => 5 | 21 => 21 | 117 => 168 | 116 => 167 | 0 => 0 | 46 => 92 | 124 => 172 | n => n, fun | n => n⟩
theorem Tryd.lays153 : Go.Proofs.Lays.n153 Tryd.prog Tryd.lays153_ren := {
  mixed := by kernel_rfl
  f119 := Tryd.func171.trans (congrArg some (by kernel_rfl))
  f137 := Tryd.func62.trans (congrArg some (by kernel_rfl))
  f152 := Tryd.func151.trans (congrArg some (by kernel_rfl))
  f153 := Tryd.func113.trans (congrArg some (by kernel_rfl))
  f217 := Tryd.func102.trans (congrArg some (by kernel_rfl))
  f224 := Tryd.func145.trans (congrArg some (by kernel_rfl))
  f225 := Tryd.func144.trans (congrArg some (by kernel_rfl))
  f226 := Tryd.func152.trans (congrArg some (by kernel_rfl))
  f227 := Tryd.func153.trans (congrArg some (by kernel_rfl))
  f228 := Tryd.func154.trans (congrArg some (by kernel_rfl))
  f266 := Tryd.func141.trans (congrArg some (by kernel_rfl))
  t0 := Tryd.underlying0
  a0 := Tryd.isAgg0
  z0 := Tryd.sizeOf0
  v0 := Tryd.zeroValue0
  t3 := Tryd.underlying3
  a3 := Tryd.isAgg3
  z3 := Tryd.sizeOf3
  v3 := Tryd.zeroValue3
  t4 := Tryd.underlying4
  a4 := Tryd.isAgg4
  z4 := Tryd.sizeOf4
  v4 := Tryd.zeroValue4
  t5 := Tryd.underlying5
  a5 := Tryd.isAgg5
  z5 := Tryd.sizeOf5
  v5 := Tryd.zeroValue5
  t9 := Tryd.underlying9
  a9 := Tryd.isAgg9
  z9 := Tryd.sizeOf9
  v9 := Tryd.zeroValue9
  t21 := Tryd.underlying21
  a21 := Tryd.isAgg21
  z21 := Tryd.sizeOf21
  v21 := Tryd.zeroValue21
  t46 := Tryd.underlying92
  a46 := Tryd.isAgg92
  z46 := Tryd.sizeOf92
  v46 := Tryd.zeroValue92
  t116 := Tryd.underlying167
  a116 := Tryd.isAgg167
  z116 := Tryd.sizeOf167
  t117 := Tryd.underlying168
  a117 := Tryd.isAgg168
  z117 := Tryd.sizeOf168
  v117 := Tryd.zeroValue168
  t124 := Tryd.underlying172
  a124 := Tryd.isAgg172
  z124 := Tryd.sizeOf172
  v124 := Tryd.zeroValue172 }
open Go.RowKit Go.Lib in
theorem Tryd.strings_IndexAny_laid (s chars : ByteArray) (w : World) (hs : s.size < 4294967281) (hcs : chars.size < 4294967281) (has : ∀ (j : Nat) b, s.data.toList[j]? = some b → b.toNat < 128) (hac : ∀ (j : Nat) b, chars.data.toList[j]? = some b → b.toNat < 128) :
    Calls Tryd.prog 113 #[.string s, .string chars] w fun e w' => e = .returned (.int .i64 (Lib.indexAny s.data.toList chars.data.toList)) ∧ Below w.heap.size w w' := Any.strings_IndexAny_laid Tryd.lays153 (by kernel_rfl) s chars w hs hcs has hac
def Tryd.lays260_ren : Go.Shelf.Ren := ⟨fun | 260 => 132 | n => n, fun | 9 => 9 | 21 => 21 | 3 => 3 | 4 => 4 | 5 => 5 | 119 => 106 | 0 => 0 | 46 => 92 | 139 => 109 | 138 => 108 | n => n, fun | 3 => 0 | 4 => 1 | n => n⟩
theorem Tryd.lays260 : Go.Proofs.Lays.n260 Tryd.prog Tryd.lays260_ren := {
  mixed := by kernel_rfl
  f260 := Tryd.func132.trans (congrArg some (by kernel_rfl))
  t0 := Tryd.underlying0
  a0 := Tryd.isAgg0
  z0 := Tryd.sizeOf0
  v0 := Tryd.zeroValue0
  t3 := Tryd.underlying3
  a3 := Tryd.isAgg3
  z3 := Tryd.sizeOf3
  v3 := Tryd.zeroValue3
  t4 := Tryd.underlying4
  a4 := Tryd.isAgg4
  z4 := Tryd.sizeOf4
  v4 := Tryd.zeroValue4
  t5 := Tryd.underlying5
  a5 := Tryd.isAgg5
  z5 := Tryd.sizeOf5
  v5 := Tryd.zeroValue5
  t9 := Tryd.underlying9
  a9 := Tryd.isAgg9
  z9 := Tryd.sizeOf9
  v9 := Tryd.zeroValue9
  t21 := Tryd.underlying21
  a21 := Tryd.isAgg21
  z21 := Tryd.sizeOf21
  v21 := Tryd.zeroValue21
  t46 := Tryd.underlying92
  a46 := Tryd.isAgg92
  z46 := Tryd.sizeOf92
  v46 := Tryd.zeroValue92
  t119 := Tryd.underlying106
  a119 := Tryd.isAgg106
  z119 := Tryd.sizeOf106
  t138 := Tryd.underlying108
  a138 := Tryd.isAgg108
  z138 := Tryd.sizeOf108
  v138 := Tryd.zeroValue108
  t139 := Tryd.underlying109
  a139 := Tryd.isAgg109
  z139 := Tryd.sizeOf109
  v139 := Tryd.zeroValue109
  g3 := by kernel_rfl
  g4 := by kernel_rfl }
def Tryd.laysx196_ren : Go.Shelf.Ren := ⟨fun | 196 => 35 | 259 => 68 | n => n, fun | 9 => 9 | 4 => 4 | 3 => 3 | 5 => 5 | 12 => 12 | 119 => 106 | 0 => 0 | 46 => 92 | 139 => 109 | 138 => 108 | 53 => 132 | n => n, fun | 3 => 0 | 4 => 1 | n => n⟩
theorem Tryd.laysx196 : Go.Proofs.Lays.n196 Tryd.prog Tryd.laysx196_ren := {
  mixed := by kernel_rfl
  f196 := Tryd.func35.trans (congrArg some (by kernel_rfl))
  f259 := Tryd.func68.trans (congrArg some (by kernel_rfl))
  t0 := Tryd.underlying0
  a0 := Tryd.isAgg0
  z0 := Tryd.sizeOf0
  v0 := Tryd.zeroValue0
  t3 := Tryd.underlying3
  a3 := Tryd.isAgg3
  z3 := Tryd.sizeOf3
  v3 := Tryd.zeroValue3
  t4 := Tryd.underlying4
  a4 := Tryd.isAgg4
  z4 := Tryd.sizeOf4
  v4 := Tryd.zeroValue4
  t5 := Tryd.underlying5
  a5 := Tryd.isAgg5
  z5 := Tryd.sizeOf5
  v5 := Tryd.zeroValue5
  t9 := Tryd.underlying9
  a9 := Tryd.isAgg9
  z9 := Tryd.sizeOf9
  v9 := Tryd.zeroValue9
  t12 := Tryd.underlying12
  a12 := Tryd.isAgg12
  z12 := Tryd.sizeOf12
  v12 := Tryd.zeroValue12
  t46 := Tryd.underlying92
  a46 := Tryd.isAgg92
  z46 := Tryd.sizeOf92
  v46 := Tryd.zeroValue92
  t53 := Tryd.underlying132
  a53 := Tryd.isAgg132
  z53 := Tryd.sizeOf132
  v53 := Tryd.zeroValue132
  t119 := Tryd.underlying106
  a119 := Tryd.isAgg106
  z119 := Tryd.sizeOf106
  t138 := Tryd.underlying108
  a138 := Tryd.isAgg108
  z138 := Tryd.sizeOf108
  v138 := Tryd.zeroValue108
  t139 := Tryd.underlying109
  a139 := Tryd.isAgg109
  z139 := Tryd.sizeOf109
  v139 := Tryd.zeroValue109
  g3 := by kernel_rfl
  g4 := by kernel_rfl }
end Go.Proofs
namespace Go.Proofs.YtipmphgkdomebaaDoor
open Go.RowKit
set_option linter.unusedVariables false
set_option linter.unusedSimpArgs false
set_option maxHeartbeats 2000000 in
set_option maxRecDepth 100000 in
theorem writeByte_any (B b : Nat) (bs : List Value) (c : Int) (w : World) (h : BF B b bs w) (hlen : bs.length + 1 ≤ 140737488355328) (hBw : B ≤ w.heap.size) :
    Calls Tryd.prog 72 #[.pointer (some ⟨b, 0, none⟩), .int .u8 c] w fun e w' => e = .returned .nilIface ∧ BU B b (bs ++ [.int .u8 c]) w' ∧ Below B w w' ∧ Lib.OthersKept 5 (some b) w w' := by
  obtain ⟨i0, hi, hz0, hz1, hz2⟩ := info_parts byteInfo
  go_enter Tryd.func72, Tryd.ntmps72
  go_wp2_with (go_at_call 97; refine (copy_any B b bs _ h).mono ?_)
  rintro e w1 ⟨rfl, h1, hb1, hk1⟩
  obtain ⟨hB, v, hbk, hown, hne⟩ := h1
  have c0 : w1.cell? ⟨b, 0, none⟩ = some (.pointer (some ⟨b, 0, none⟩)) := by rw [Lib.cell_of_heap hbk]; rfl
  have c1 : w1.cell? ⟨b, 1, none⟩ = some v := by rw [Lib.cell_of_heap hbk]; rfl
  go_wp2_with (at_builtin; refine wpList_append_ownF _ rfl _ _ 54 rfl B 5 i0 (.int .u8 0) 1 1 Tryd.underlying54 hi hz0 hz1 hz2 rfl (by decide) _ _ _ rfl (hown.alloc _) ⟨w1.heap.size, 0, none⟩ 1 1 [.int .u8 c] rfl rfl ?c1 ?c2 ?c3 ?c4 ?c5 ?_)
  case c1 =>
    intro j u hj
    match j, hj with
    | 0, hj => simp at hj; subst hj; simp [Addr.add]
  case c2 => intro u hu; simp at hu; subst hu; rfl
  case c3 => unfold maxLen; omega
  case c4 => omega
  case c5 => have := hb1.size; simp; omega
  intro v' w2 hown' hgrow _
  have hlt : b < w1.heap.size := by
    rcases Nat.lt_or_ge b w1.heap.size with h' | h'
    · exact h'
    · simp [Array.getElem?_eq_none h'] at hbk
  have hb2 : w2.heap[b]? = some (.cells #[.pointer (some ⟨b, 0, none⟩), v] 56 (0, 0)) := by
    rw [hgrow.block b (by simp; omega) (fun e => hne e.symm), Lib.alloc_old w1 _ b hlt]
    exact hbk
  have d0 : w2.cell? ⟨b, 0, none⟩ = some (.pointer (some ⟨b, 0, none⟩)) := by rw [Lib.cell_of_heap hb2]; rfl
  have d1 : w2.cell? ⟨b, 1, none⟩ = some v := by rw [Lib.cell_of_heap hb2]; rfl
  have f1 : w2.frozen? ⟨b, 1, none⟩ = false := Lib.frozen_of_heap hb2 1
  obtain ⟨g, cap, rfl⟩ : ∃ g cap, v' = .slice (some ⟨g, 0, none⟩) (bs.length + 1) cap := by
    rcases hown'.2 with ⟨_, h0⟩ | ⟨g, cap, cur, fz, hv, _⟩
    · omega
    · exact ⟨g, cap, hv⟩
  go_wp2
  go_ret
  refine ⟨rfl, ?_, ?_, ((hk1.alloc _).grown hgrow (Lib.ownsRowF_kind (hown.alloc _))).setCell ⟨b, 1, none⟩ rfl _⟩
  · exact Lib.BuilderAtF.put (T := 56) (e := 5) hB hb2 (bs' := bs ++ [.int .u8 c]) (by simpa using hown') bNe
  · exact ((hb1.alloc (by have := hb1.size; omega) _).grown hgrow (by have := hb1.size; simp; omega) (fun k hk => (hown.lt k hk).1)).setCell (p := ⟨b, 1, none⟩) hB _
end Go.Proofs.YtipmphgkdomebaaDoor
namespace Go.Proofs.YtipmphgkdomebaaDoor
open Go.RowKit
set_option linter.unusedVariables false
set_option linter.unusedSimpArgs false
def catP (et : Nat → ByteArray) (ep : Nat → EX) : Nat → List UInt8
  | 0 => []
  | n + 1 => catP et ep n ++ (if (ep n).isNo = true then (et n).data.toList else [123])
def okE (et : Nat → ByteArray) (ep : Nat → EX) (va an pl : Nat → Bool) (i : Nat) : Bool :=
  if (ep i).isNo = true then !((et i).toList == []) && (!(decide (0 < i) && (ep (i - 1)).isNo) && (va i && !(an i))) else ((et i).toList == []) && pl i
theorem catP_mono (et : Nat → ByteArray) (ep : Nat → EX) {i n : Nat} (h : i ≤ n) : (catP et ep i).length ≤ (catP et ep n).length := by
  induction n with
  | zero => rw [Nat.le_zero.1 h]; exact Nat.le_refl _
  | succ n ih =>
    by_cases e : i = n + 1
    · rw [e]; exact Nat.le_refl _
    · have := ih (by omega)
      have e2 : catP et ep (n + 1) = catP et ep n ++ (if (ep n).isNo = true then (et n).data.toList else [123]) := rfl
      rw [e2, List.length_append]
      omega
set_option maxRecDepth 100000 in
set_option maxHeartbeats 4000000 in
theorem pattern_any (A : Option Addr) (n ca : Nat) (et : Nat → ByteArray) (ep : Nat → EX) (d : Int) (va an pl : Nat → Bool) (lv : Bool) (w : World) (hn : n ≤ 281474976710656) (hA : Elems w A n et ep) (hz : (catP et ep n).length ≤ 100000000000000) (hd : -1000 ≤ d ∧ d ≤ 1000)
    (cV : ∀ i, i < n → ∀ W, Below w.heap.size w W → Calls Tryd.prog 35 #[.string (et i)] W fun e w' => e = .returned (.bool (va i)) ∧ Below W.heap.size W w')
    (cC : ∀ i, i < n → ∀ W, Below w.heap.size w W → Calls Tryd.prog 73 #[.string (et i), .string ⟨#[123, 125, 13]⟩] W fun e w' => e = .returned (.bool (an i)) ∧ Below W.heap.size W w')
    (cP : ∀ i, i < n → ∀ r, (ep i).R w r → ∀ W, Below w.heap.size w W → Calls Tryd.prog 71 #[.agg #[.int .i64 (ep i).kind, .string (ep i).text, .string (ep i).name, .string (ep i).attr, .slice r.A (ep i).na r.ca, .pointer r.P, .slice r.V (ep i).nv r.cv], .int .i64 (d + 1)] W fun e w' => e = .returned (.bool (pl i)) ∧ Below W.heap.size W w')
    (cL : 0 < n → ∀ W, Below w.heap.size w W → Calls Tryd.prog 74 #[.string ⟨(catP et ep n).toArray⟩] W fun e w' => e = .returned (.bool lv) ∧ Below W.heap.size W w') :
    Calls Tryd.prog 38 #[.slice A n ca, .int .i64 d] w fun e w' => e = .returned (.bool (allTo (okE et ep va an pl) n && (decide (n = 0) || lv))) ∧ Below w.heap.size w w' := by
  have HA := Lib.hid hA; clear hA
  have CV := Lib.hid cV; clear cV
  have CC := Lib.hid cC; clear cC
  have CP := Lib.hid cP; clear cP
  have CL := Lib.hid cL; clear cL
  have HZ := Lib.hid hz; clear hz
  have wd : wrap64 (d + 1) = d + 1 := by unfold wrap64; omega
  go_enter Tryd.func38, Tryd.ntmps38
  go_wp2
  go_loopg [10] n (fun gk v10 wx => ∃ i : Nat, v10 = .int .i64 i ∧ i + gk = n ∧ allTo (okE et ep va an pl) i = true ∧ BF w.heap.size w.heap.size (Lib.byteCells (catP et ep i)) wx ∧ Below w.heap.size w wx)
  case atStart => exact ⟨0, rfl, by omega, rfl, BF.new w, (Below.refl _ w).alloc (Nat.le_refl _) _⟩
  case round =>
    obtain ⟨i, rfl, hi, hall, hf, hb⟩ := hrel
    by_cases hp : i < n
    · obtain ⟨f, rfl⟩ : ∃ f, gk = f + 1 := ⟨gk - 1, by omega⟩
      have hs := allTo_succ (okE et ep va an pl) i
      rw [hall, Bool.true_and] at hs
      have hff := fun h : okE et ep va an pl i = false => allTo_false h hp
      have hcat : catP et ep (i + 1) = catP et ep i ++ (if (ep i).isNo = true then (et i).data.toList else [123]) := rfl
      have hle : (catP et ep (i + 1)).length ≤ 100000000000000 := Nat.le_trans (catP_mono et ep (Nat.succ_le_of_lt hp)) HZ.out
      rw [hcat, List.length_append] at hle
      have HS := Lib.hid hs; clear hs
      have HFF := Lib.hid hff; clear hff
      have HC := Lib.hid hcat; clear hcat
      obtain ⟨b1, o1, p1, rfl, c10', c11', k1⟩ := HA.out i hp
      have hk := Kept.of hb
      have c10 := hk _ _ _ c10'
      have c11 := hk _ _ _ c11'
      have hprev : 0 < i → ∃ q, wr.cell? ⟨b1, o1 + (i - 1) * 2 + 1, none⟩ = some (.pointer q) ∧ (ep (i - 1)).Ptr w q := fun h => by
        obtain ⟨b2, o2, p2, e2, _, c2, k2⟩ := HA.out (i - 1) (by omega)
        injection (Option.some.inj e2) with e3 e4
        subst e3 e4
        exact ⟨p2, hk _ _ _ c2, k2⟩
      clear c10' c11' hk
      have cV := CV.out i hp
      have cC := CC.out i hp
      have HI := Lib.hid hi; clear hi hall
      have HP := Lib.hid hprev; clear hprev
      have HF := Lib.hid hf; clear hf
      have HLE := Lib.hid hle; clear hle
      have q0 : decide ((i : Int) < (n : Int)) = true := decide_eq_true (by omega)
      have q1 : (0 : Int) ≤ (i : Int) := by omega
      have q2 : (i : Int) < (n : Int) := by omega
      have h0 := Own.of hb
      go_upto_region 5 with (fail)
      have h1 := h0.alloc (.cells #[.string (et i), .pointer p1] 42)
      have bnew := (Below.refl wr.heap.size wr).alloc (Nat.le_refl _) (.cells #[.string (et i), .pointer p1] 42)
      have HF1 := Lib.hid (BF.below HF.out bnew)
      have hk1 := Kept.of bnew
      clear c10 c11 bnew h0
      have HK1 := Lib.hid hk1; clear hk1
      have hgw : w.heap.size < wr.heap.size := BF.lt HF.out
      generalize wr.alloc _ = W1 at *
      generalize wr.heap.size = g1 at *
      have hgn : g1 ≠ w.heap.size := by omega
      have HGN := Lib.hid hgn; clear hgn hgw
      have u0 := h1.c 0 0 rfl rfl
      have u1 := h1.c 0 1 rfl rfl
      have bel1 := h1.bel
      rcases k1 with ⟨hno, rfl⟩ | ⟨b3, o3, r1, rfl, E1, R1⟩
      · have isn : (ep i).isNo = true := by rw [hno]; rfl
        have hok : okE et ep va an pl i = (!((et i).toList == []) && (!(decide (0 < i) && (ep (i - 1)).isNo) && (va i && !(an i)))) := by unfold okE; rw [if_pos isn]
        have hct : catP et ep (i + 1) = catP et ep i ++ (et i).data.toList := by rw [HC.out, if_pos isn]
        have hsz : (catP et ep i).length + (et i).data.toList.length ≤ 100000000000000 := by have := HLE.out; rw [if_pos isn] at this; exact this
        rw [hok] at HS HFF
        have HCT := Lib.hid hct
        have HSZ := Lib.hid hsz
        clear hok hct hsz isn HC HLE CP hno
        generalize hva : va i = vaI at *
        generalize han : an i = anI at *
        clear hva han
        cases q3 : ((et i).toList == []) with
        | true =>
          have HFX := Lib.hid (HFF.out (by rw [q3]; try rfl)); clear HS HFF
          clear cV cC
          go_wp2
          go_ret
          exact ⟨by rw [HFX.out]; first | rfl | exact ret_b (by simp), bel1⟩
        | false =>
          by_cases h00 : 0 < i
          · have q5 : decide ((i : Int) > 0) = true := decide_eq_true (by omega)
            have q6 : decide ((0 : Int) < (i : Int)) = true := decide_eq_true (by omega)
            have q7 : decide (0 < i) = true := decide_eq_true h00
            obtain ⟨pq, cq0, kq⟩ := HP.out h00
            have cq := HK1.out _ _ _ cq0
            clear cq0
            obtain ⟨j, rfl⟩ : ∃ j, i = j + 1 := ⟨i - 1, by omega⟩
            have wj : wrap64 (((j + 1 : Nat) : Int) - 1) = (j : Int) := by unfold wrap64; omega
            have wj2 : wrap64 ((j : Int) + 1 - 1) = (j : Int) := by unfold wrap64; omega
            have j0 : (0 : Int) ≤ (j : Int) := by omega
            have j1 : (j : Int) < (n : Int) := by omega
            simp only [Nat.add_sub_cancel] at cq kq HS HFF
            rcases kq with ⟨hno2, rfl⟩ | ⟨b4, o4, r4, rfl, E4, R4⟩
            · have isp : (ep j).isNo = true := by rw [hno2]; rfl
              have HFX := Lib.hid (HFF.out (by rw [q3, q7, isp]; try rfl)); clear HS HFF isp hno2 cV cC
              go_wp2
              go_ret
              exact ⟨by rw [HFX.out]; first | rfl | exact ret_b (by simp), bel1⟩
            · have isp : (ep j).isNo = false := EX.no_of R4
              clear E4 R4
              cases vaI with
              | false =>
                have HFX := Lib.hid (HFF.out (by rw [q3, q7, isp]; try rfl)); clear HS HFF
                clear cC
                go_wp2_with (go_at_call 35; refine (cV _ bel1).mono ?_; rintro e W2 ⟨rfl, b2⟩; have h2 := h1.step b2; have bel2 := h2.bel; have HF2 := Lib.hid (BF.below HF1.out b2); have v0 := h2.c 0 0 rfl rfl)
                go_ret
                exact ⟨by rw [HFX.out]; first | rfl | exact ret_b (by simp), bel2⟩
              | true =>
                cases anI with
                | true =>
                  have HFX := Lib.hid (HFF.out (by rw [q3, q7, isp]; try rfl)); clear HS HFF
                  go_wp2_with (first
                    | (go_at_call 35; refine (cV _ bel1).mono ?_; rintro e W2 ⟨rfl, b2⟩; have h2 := h1.step b2; have bel2 := h2.bel; have HF2 := Lib.hid (BF.below HF1.out b2); have v0 := h2.c 0 0 rfl rfl)
                    | (go_at_call 73; refine (cC _ bel2).mono ?_; rintro e W3 ⟨rfl, b3⟩; have h3 := h2.step b3; have bel3 := h3.bel; have HF3 := Lib.hid (BF.below HF2.out b3); have z0 := h3.c 0 0 rfl rfl))
                  go_ret
                  exact ⟨by rw [HFX.out]; first | rfl | exact ret_b (by simp), bel3⟩
                | false =>
                  have HT := Lib.hid (HS.out.trans (by rw [q3, q7, isp]; try rfl)); clear HS HFF
                  go_wp2_with (first
                    | (go_at_call 35; refine (cV _ bel1).mono ?_; rintro e W2 ⟨rfl, b2⟩; have h2 := h1.step b2; have bel2 := h2.bel; have HF2 := Lib.hid (BF.below HF1.out b2); have v0 := h2.c 0 0 rfl rfl)
                    | (go_at_call 73; refine (cC _ bel2).mono ?_; rintro e W3 ⟨rfl, b3⟩; have h3 := h2.step b3; have bel3 := h3.bel; have HF3 := Lib.hid (BF.below HF2.out b3); have z0 := h3.c 0 0 rfl rfl)
                    | (go_at_call 56; refine (writeString_any w.heap.size w.heap.size _ _ _ HF3.out (by have := HSZ.out; rw [Lib.byteCells_length, Lib.size_eq]; omega) bel3.size).mono ?_; rintro e W4 ⟨rfl, h4, b4, k4⟩; have HF4 := Lib.hid h4; have HB4 := Lib.hid (bel3.trans (b4.mono (Nat.le_refl _))); clear h4 b4 k4))
                  go_roundg f
                  case measure => omega
                  case rel => exact ⟨(j + 1) + 1, by go_num, by have := HI.out; omega, HT.out, by rw [HCT.out, Lib.byteCells_append, ← Lib.strCells_eq]; exact .inr HF4.out, HB4.out⟩
          · have q5 : decide ((i : Int) > 0) = false := decide_eq_false (by omega)
            have q6 : decide ((0 : Int) < (i : Int)) = false := decide_eq_false (by omega)
            have q7 : decide (0 < i) = false := decide_eq_false h00
            cases vaI with
            | false =>
              have HFX := Lib.hid (HFF.out (by rw [q3, q7]; try rfl)); clear HS HFF
              clear cC
              go_wp2_with (go_at_call 35; refine (cV _ bel1).mono ?_; rintro e W2 ⟨rfl, b2⟩; have h2 := h1.step b2; have bel2 := h2.bel; have HF2 := Lib.hid (BF.below HF1.out b2); have v0 := h2.c 0 0 rfl rfl)
              go_ret
              exact ⟨by rw [HFX.out]; first | rfl | exact ret_b (by simp), bel2⟩
            | true =>
              cases anI with
              | true =>
                have HFX := Lib.hid (HFF.out (by rw [q3, q7]; try rfl)); clear HS HFF
                go_wp2_with (first
                  | (go_at_call 35; refine (cV _ bel1).mono ?_; rintro e W2 ⟨rfl, b2⟩; have h2 := h1.step b2; have bel2 := h2.bel; have HF2 := Lib.hid (BF.below HF1.out b2); have v0 := h2.c 0 0 rfl rfl)
                  | (go_at_call 73; refine (cC _ bel2).mono ?_; rintro e W3 ⟨rfl, b3⟩; have h3 := h2.step b3; have bel3 := h3.bel; have HF3 := Lib.hid (BF.below HF2.out b3); have z0 := h3.c 0 0 rfl rfl))
                go_ret
                exact ⟨by rw [HFX.out]; first | rfl | exact ret_b (by simp), bel3⟩
              | false =>
                have HT := Lib.hid (HS.out.trans (by rw [q3, q7]; try rfl)); clear HS HFF
                go_wp2_with (first
                  | (go_at_call 35; refine (cV _ bel1).mono ?_; rintro e W2 ⟨rfl, b2⟩; have h2 := h1.step b2; have bel2 := h2.bel; have HF2 := Lib.hid (BF.below HF1.out b2); have v0 := h2.c 0 0 rfl rfl)
                  | (go_at_call 73; refine (cC _ bel2).mono ?_; rintro e W3 ⟨rfl, b3⟩; have h3 := h2.step b3; have bel3 := h3.bel; have HF3 := Lib.hid (BF.below HF2.out b3); have z0 := h3.c 0 0 rfl rfl)
                  | (go_at_call 56; refine (writeString_any w.heap.size w.heap.size _ _ _ HF3.out (by have := HSZ.out; rw [Lib.byteCells_length, Lib.size_eq]; omega) bel3.size).mono ?_; rintro e W4 ⟨rfl, h4, b4, k4⟩; have HF4 := Lib.hid h4; have HB4 := Lib.hid (bel3.trans (b4.mono (Nat.le_refl _))); clear h4 b4 k4))
                go_roundg f
                case measure => omega
                case rel => exact ⟨i + 1, by go_num, by have := HI.out; omega, HT.out, by rw [HCT.out, Lib.byteCells_append, ← Lib.strCells_eq]; exact .inr HF4.out, HB4.out⟩
      · have isn : (ep i).isNo = false := EX.no_of R1
        have hok : okE et ep va an pl i = (((et i).toList == []) && pl i) := by unfold okE; rw [isn, if_neg (by decide)]
        have hct : catP et ep (i + 1) = catP et ep i ++ [123] := by rw [HC.out, isn, if_neg (by decide)]
        have hsz : (catP et ep i).length + 1 ≤ 100000000000000 := by have := HLE.out; rw [isn, if_neg (by decide)] at this; exact this
        rw [hok] at HS HFF
        have HCT := Lib.hid hct
        have HSZ := Lib.hid hsz
        have cPl := CP.out i hp r1 R1
        have hbw := Kept.of bel1
        have x0 := hbw _ _ _ E1.c0
        have x1 := hbw _ _ _ E1.c1
        have x2 := hbw _ _ _ E1.c2
        have x3 := hbw _ _ _ E1.c3
        have x4 := hbw _ _ _ E1.c4
        have x5 := hbw _ _ _ E1.c5
        have x6 := hbw _ _ _ E1.c6
        clear hok hct hsz isn HC HLE CP cV cC hbw E1 R1
        dsimp only at x0 x1 x2 x3 x4 x5 x6
        generalize pl i = plI at *
        cases q3 : ((et i).toList == []) with
        | false =>
          have HFX := Lib.hid (HFF.out (by rw [q3]; try rfl)); clear HS HFF cPl
          go_wp2
          go_ret
          exact ⟨by rw [HFX.out]; first | rfl | exact ret_b (by simp), bel1⟩
        | true =>
          cases plI with
          | false =>
            have HFX := Lib.hid (HFF.out (by rw [q3]; try rfl)); clear HS HFF
            go_wp2_with (go_at_call 71; refine (cPl _ bel1).mono ?_; rintro e W2 ⟨rfl, b2⟩; have h2 := h1.step b2; have bel2 := h2.bel; have HF2 := Lib.hid (BF.below HF1.out b2))
            go_ret
            exact ⟨by rw [HFX.out]; first | rfl | exact ret_b (by simp), bel2⟩
          | true =>
            have HT := Lib.hid (HS.out.trans (by rw [q3]; try rfl)); clear HS HFF
            go_wp2_with (first
              | (go_at_call 71; refine (cPl _ bel1).mono ?_; rintro e W2 ⟨rfl, b2⟩; have h2 := h1.step b2; have bel2 := h2.bel; have HF2 := Lib.hid (BF.below HF1.out b2))
              | (go_at_call 72; refine (writeByte_any w.heap.size w.heap.size _ 123 _ HF2.out (by have := HSZ.out; rw [Lib.byteCells_length]; omega) bel2.size).mono ?_; rintro e W4 ⟨rfl, h4, b4, k4⟩; have HF4 := Lib.hid h4; have HB4 := Lib.hid (bel2.trans (b4.mono (Nat.le_refl _))); clear h4 b4 k4))
            go_roundg f
            case measure => omega
            case rel => exact ⟨i + 1, by go_num, by have := HI.out; omega, HT.out, by rw [HCT.out, Lib.byteCells_append]; exact .inr HF4.out, HB4.out⟩
    · obtain rfl : i = n := by omega
      have HL := Lib.hid hall; clear hall
      have q0 : decide ((i : Int) < (i : Int)) = false := decide_eq_false (by omega)
      have HF := Lib.hid hf; clear hf
      by_cases hz : i = 0
      · subst hz
        go_wp2
        go_ret
        exact ⟨by rw [HL.out]; first | rfl | exact ret_b (by simp), hb⟩
      · have q3 : ((i : Int) == 0) = false := beq_eq_false_iff_ne.2 (by omega)
        have hz2 : decide (i = 0) = false := decide_eq_false hz
        have cL2 := CL.out (by omega)
        have HZ2 := Lib.hid hz2; clear hz2
        generalize hcc : catP et ep i = cc at *
        go_wp2_with (first
          | (go_at_call 30; refine (Tryd.Builder_String_any_f w.heap.size w.heap.size _ _ HF.out hb.size).mono ?_; rintro e W5 ⟨rfl, h5, b5⟩; have h6 := hb.trans (b5.mono (Nat.le_refl _)))
          | (go_at_call 74; refine (cL2 _ h6).mono ?_; rintro e W6 ⟨rfl, b6⟩; have h7 := below_on h6 b6 h6.size))
        go_ret
        exact ⟨by rw [HL.out, HZ2.out]; first | rfl | exact ret_b (by simp), h7⟩
end Go.Proofs.YtipmphgkdomebaaDoor
namespace Go.Proofs.YtipmphgkdomebaaDoor
open Go.RowKit Go.Proofs.YtipmphgkdomebaaDoorW.PrintWords
set_option linter.unusedVariables false
set_option linter.unusedSimpArgs false
def whN (p : Int → Bool) (s : ByteArray) (i : Nat) : Nat := i + ((s.data.toList.drop i).takeWhile (fun c => p (c.toNat : Int))).length
def whI (p : Int → Bool) (s : ByteArray) (i : Int) : Int := if i < 0 then i else (whN p s i.toNat : Nat)
theorem whN_end {p : Int → Bool} {s : ByteArray} {i : Nat} (h : s.size ≤ i) : whN p s i = i := by
  unfold whN
  rw [List.drop_eq_nil_of_le (by rw [← Lib.size_eq]; exact h)]
  rfl
theorem whN_step {p : Int → Bool} {s : ByteArray} {i : Nat} (h : i < s.size) : whN p s i = if p (s[i].toNat : Int) = true then whN p s (i + 1) else i := by
  have hl : i < s.data.toList.length := by rw [← Lib.size_eq]; exact h
  unfold whN
  rw [List.drop_eq_getElem_cons hl, List.takeWhile_cons]
  have e : s.data.toList[i] = s[i] := rfl
  rw [e]
  by_cases c : p (s[i].toNat : Int) = true
  · rw [if_pos c, if_pos c, List.length_cons]; omega
  · rw [if_neg c, if_neg c]; rfl
set_option maxRecDepth 100000 in
set_option maxHeartbeats 4000000 in
theorem while_name (p : Int → Bool) (cg : ∀ c W, 0 ≤ c → c < 256 → Calls Tryd.prog 108 #[.int .u8 c] W fun e w' => e = .returned (.bool (p c)) ∧ Below W.heap.size W w') (s : ByteArray) (i : Int) (w : World) (hs : s.size ≤ 4611686018427387904) :
    Calls Tryd.prog 89 #[.string s, .int .i64 i, .func (.func 108) #[] #[]] w fun e w' => e = .returned (.int .i64 (whI p s i)) ∧ Below w.heap.size w w' := by
  by_cases h0 : i < 0
  · unfold whI
    rw [if_pos h0]
    have q0 : decide (i ≥ 0) = false := decide_eq_false (by omega)
    have q1 : decide (0 ≤ i) = false := decide_eq_false (by omega)
    have CG := Lib.hid cg; clear cg
    go_enter Tryd.func89, Tryd.ntmps89
    go_wp2
    go_loopg [1] 1 (fun gk v1 wx => v1 = .int .i64 i ∧ wx = w)
    case atStart => exact ⟨rfl, rfl⟩
    case round =>
      obtain ⟨rfl, rfl⟩ := hrel
      go_wp2
      go_ret
      exact ⟨rfl, Below.refl _ _⟩
  · obtain ⟨j, rfl⟩ : ∃ j : Nat, i = j := ⟨i.toNat, by omega⟩
    have he : whI p s (j : Int) = (whN p s j : Nat) := by unfold whI; rw [if_neg h0, Int.toNat_natCast]
    rw [he]
    have CG := Lib.hid cg; clear cg he
    go_enter Tryd.func89, Tryd.ntmps89
    go_wp2
    go_loopg [1] (s.size - j) (fun gk v1 wx => ∃ i : Nat, v1 = .int .i64 i ∧ s.size ≤ i + gk ∧ whN p s i = whN p s j ∧ Below w.heap.size w wx)
    case atStart => exact ⟨j, rfl, by omega, rfl, Below.refl _ _⟩
    case round =>
      obtain ⟨i, rfl, hi, hw, hb⟩ := hrel
      have q1 : decide ((i : Int) ≥ 0) = true := decide_eq_true (by omega)
      have HW := Lib.hid hw; clear hw
      have HI := Lib.hid hi; clear hi
      by_cases hp : i < s.size
      · have q2 : decide ((i : Int) < (s.size : Int)) = true := decide_eq_true (by omega)
        have q3 : (0 : Int) ≤ (i : Int) := by omega
        have q4 : (i : Int) < (s.size : Int) := by omega
        have st := whN_step (p := p) hp
        have cQ := fun W => CG.out (s[i].toNat : Int) W (by omega) (by have := s[i].toNat_lt; omega)
        obtain ⟨f, rfl⟩ : ∃ f, gk = f + 1 := ⟨gk - 1, by have := HI.out; omega⟩
        cases hc : p (s[i].toNat : Int) with
        | true =>
          rw [hc] at cQ
          rw [if_pos hc] at st
          have ST := Lib.hid st; clear st
          go_wp2_with (go_at_call 108; refine (cQ _).mono ?_; rintro e W1 ⟨rfl, b1⟩; have h1 := below_on hb b1 hb.size)
          go_roundg f
          case measure => omega
          case rel => exact ⟨i + 1, by go_num, by have := HI.out; omega, ST.out.symm.trans HW.out, h1⟩
        | false =>
          rw [hc] at cQ
          rw [if_neg (by rw [hc]; decide)] at st
          have ST := Lib.hid st; clear st
          go_wp2_with (go_at_call 108; refine (cQ _).mono ?_; rintro e W1 ⟨rfl, b1⟩; have h1 := below_on hb b1 hb.size)
          go_ret
          exact ⟨by rw [← HW.out, ST.out]; rfl, h1⟩
      · have q2 : decide ((i : Int) < (s.size : Int)) = false := decide_eq_false (by omega)
        have st := whN_end (p := p) (s := s) (i := i) (by omega)
        have ST := Lib.hid st; clear st
        go_wp2
        go_ret
        exact ⟨by rw [← HW.out, ST.out]; rfl, hb⟩
end Go.Proofs.YtipmphgkdomebaaDoor
namespace Go.Proofs.YtipmphgkdomebaaDoor.G
open Go.RowKit Go.Proofs.YtipmphgkdomebaaDoor Go.Proofs.YtipmphgkdomebaaDoorW.PrintWords
set_option linter.unusedVariables false
def Tab_ (w : World) : Prop := ∃ m, w.cell? ⟨2, 0, none⟩ = some (.int .i64 m)
theorem Tab_.step {w W : World} (h : Tab_ w) (b : Below w.heap.size w W) : Tab_ W := by
  obtain ⟨m, h⟩ := h
  exact ⟨m, (b.cell (p := ⟨2, 0, none⟩) (World.block_lt_of_cell? _ _ h)).trans h⟩
def asciiB (c : ByteArray) : Bool := c.data.toList.all fun b => decide (b.toNat < 128)
theorem ascii_at {c : ByteArray} (h : asciiB c = true) : ∀ (j : Nat) b, c.data.toList[j]? = some b → b.toNat < 128 := fun j b hb => by
  have := List.all_eq_true.1 h b (List.mem_of_getElem? hb)
  simpa using this
def strings_Trim.f (s c : ByteArray) : Option ByteArray := if s.size ≤ 4611686018427387904 ∧ c.size < 1000 ∧ asciiB c = true then some ⟨(Lib.trimS s.data.toList c.data.toList).toArray⟩ else none
theorem strings_Trim.calls (s c r : ByteArray) (w : World) (h : strings_Trim.f s c = some r) :
    Calls Tryd.prog 114 #[.string s, .string c] w fun e w' => e = .returned (.string r) ∧ Below w.heap.size w w' := by
  unfold strings_Trim.f at h
  by_cases hs : s.size ≤ 4611686018427387904 ∧ c.size < 1000 ∧ asciiB c = true
  · rw [if_pos hs] at h
    obtain rfl := Option.some.inj h
    exact Any.strings_Trim_laid Tryd.lays160 (by kernel_rfl) s c w (by omega) (by omega) (ascii_at hs.2.2)
  · rw [if_neg hs] at h
    exact absurd h (by simp)
def strings_TrimLeft.f (s c : ByteArray) : Option ByteArray := if c.size < 1000 ∧ asciiB c = true then some ⟨(Lib.trimLeftS s.data.toList c.data.toList).toArray⟩ else none
theorem strings_TrimLeft.calls (s c r : ByteArray) (w : World) (h : strings_TrimLeft.f s c = some r) :
    Calls Tryd.prog 115 #[.string s, .string c] w fun e w' => e = .returned (.string r) ∧ Below w.heap.size w w' := by
  unfold strings_TrimLeft.f at h
  by_cases hs : c.size < 1000 ∧ asciiB c = true
  · rw [if_pos hs] at h
    obtain rfl := Option.some.inj h
    exact Any.strings_TrimLeft_laid Tryd.lays161 (by kernel_rfl) s c w (by omega) (ascii_at hs.2)
  · rw [if_neg hs] at h
    exact absurd h (by simp)
def strings_Split.f (s p : ByteArray) : Option (List ByteArray) := if s.size < 4294967281 ∧ 1 ≤ p.size then some (Lib.splitB p 0 (Lib.countB s p) s) else none
theorem strings_Split.calls (s p : ByteArray) (r : List ByteArray) (w : World) (h : strings_Split.f s p = some r) (HT0_ : Tab_ w := by exact Tab_.step HT0_ (by repeat (first | (with_reducible first | exact HB.out | apply below_alloc | apply pw_below_drewN | apply below_drew1 | refine below_set ?_ (Aside0.out (by assumption))) | exact HB.out))) :
    Calls Tryd.prog 27 #[.string s, .string p] w fun e w' => ∃ v, e = .returned v ∧ Kd.R Kd.string 9 w' w.heap.size (fun _ => True) v r ∧ Below w.heap.size w w' := by
  unfold strings_Split.f at h
  by_cases hs : s.size < 4294967281 ∧ 1 ≤ p.size
  · rw [if_pos hs] at h
    obtain rfl := Option.some.inj h
    obtain ⟨m, hm⟩ := HT0_
    have hc := Lib.countB_le p hs.2 s.size s (Nat.le_refl _)
    have hl := Lib.splitB_all p hs.2 0 (Lib.countB s p) s rfl
    refine (Tryd.strings_Split s p m w hs.1 hm hs.2).mono fun e w' ⟨he, hw⟩ => ⟨_, he, ?_, ?_⟩
    · refine Kd.R_of_own ?_ (fun _ _ => trivial)
      rw [hw, hl]
      refine ⟨by simp [encs, hl], .inr ⟨w.heap.size, _, _, rfl, Nat.le_refl _, heap_alloc_new w _, Nat.le_refl _, by unfold maxLen; omega, by simp [hl], ?_⟩⟩
      simp [encs]
      exact List.take_of_length_le (by rw [List.length_map, hl]; exact Nat.le_refl _)
    · rw [hw]
      exact (Below.refl _ w).alloc (Nat.le_refl _) _
  · rw [if_neg hs] at h
    exact absurd h (by simp)
end Go.Proofs.YtipmphgkdomebaaDoor.G
namespace Go.Proofs.YtipmphgkdomebaaDoorW.PrintLast
section
variable {P : Program} {ops : Array Oper} {Q : Exit → Act → World → Prop} {md : Region.Mode} {S : World → Prop} {ds : List Nat} {T : Bool × List (List Nat × List Nat)}
end
end Go.Proofs.YtipmphgkdomebaaDoorW.PrintLast
namespace Go.Proofs.YtipmphgkdomebaaDoorW.PrintWords
open Go.RowKit
section
variable {w w' u : World} {m B g : Nat} {o : Obj} {row : Option Nat} {S : Nat → Prop} {a : Addr} {v : Value}
end
namespace Kd
section
variable {α : Type} {d : Kd α} {e base n m : Nat} {ok : Nat → Prop} {w w' : World} {v : Value} {A : Option Addr} {xs : List α}
end
end Kd
end Go.Proofs.YtipmphgkdomebaaDoorW.PrintWords
namespace Go.Proofs.YtipmphgkdomebaaDoorW.PrintWords
open Go.RowKit
section
variable {P : Program} {d : Nat} {xs ys : Array Value} {f : Field} {fs : List Field} {a b : Value} {r s : Bool} {w : World}
end
end Go.Proofs.YtipmphgkdomebaaDoorW.PrintWords
namespace Go.Proofs.YtipmphgkdomebaaDoorW.PrintWords
theorem Reps.one {α : Type} {R : α → List Value → Prop} {ps : List α} {cs : List Value} {p : α} {v : Value} (hp : R p [v]) (h : Reps R 1 ps cs) : Reps R 1 (p :: ps) (v :: cs) := by
  refine ⟨by simp [h.1], fun j q hq => ?_⟩
  cases j with
  | zero =>
    simp only [List.getElem?_cons_zero, Option.some.injEq] at hq
    subst hq
    simpa using hp
  | succ j =>
    simp only [List.getElem?_cons_succ] at hq
    have h1 := h.2 j q hq
    simpa [Nat.mul_one] using h1
theorem Reps.front {α : Type} {R : α → List Value → Prop} {size : Nat} {ps : List α} {cs c all : List Value} {p : α} (hp : R p c) (hc : c.length = size) (h : Reps R size ps cs) (ha : c ++ cs = all) : Reps R size (p :: ps) all := by
  subst ha
  refine ⟨by rw [List.length_append, hc, h.1, List.length_cons, Nat.succ_mul, Nat.add_comm], fun j q hq => ?_⟩
  cases j with
  | zero =>
    simp only [List.getElem?_cons_zero, Option.some.injEq] at hq
    subst hq
    rw [Nat.zero_mul, List.drop_zero, List.take_append_of_le_length (by omega), List.take_of_length_le (by omega)]
    exact hp
  | succ j =>
    simp only [List.getElem?_cons_succ] at hq
    have h1 := h.2 j q hq
    rw [Nat.succ_mul, List.drop_append, List.drop_of_length_le (by rw [hc]; exact Nat.le_add_left _ _), List.nil_append, hc, Nat.add_sub_cancel]
    exact h1
theorem Reps.c2 {α : Type} {R : α → List Value → Prop} {ps : List α} {cs : List Value} {p : α} {va vb : Value} (hp : R p [va, vb]) (h : Reps R 2 ps cs) : Reps R 2 (p :: ps) (va :: vb :: cs) := Reps.front hp rfl h rfl
theorem Reps.c3 {α : Type} {R : α → List Value → Prop} {ps : List α} {cs : List Value} {p : α} {va vb vc : Value} (hp : R p [va, vb, vc]) (h : Reps R 3 ps cs) : Reps R 3 (p :: ps) (va :: vb :: vc :: cs) := Reps.front hp rfl h rfl
theorem Reps.c4 {α : Type} {R : α → List Value → Prop} {ps : List α} {cs : List Value} {p : α} {va vb vc vd : Value} (hp : R p [va, vb, vc, vd]) (h : Reps R 4 ps cs) : Reps R 4 (p :: ps) (va :: vb :: vc :: vd :: cs) := Reps.front hp rfl h rfl
theorem Reps.c5 {α : Type} {R : α → List Value → Prop} {ps : List α} {cs : List Value} {p : α} {va vb vc vd ve : Value} (hp : R p [va, vb, vc, vd, ve]) (h : Reps R 5 ps cs) : Reps R 5 (p :: ps) (va :: vb :: vc :: vd :: ve :: cs) := Reps.front hp rfl h rfl
theorem Reps.c6 {α : Type} {R : α → List Value → Prop} {ps : List α} {cs : List Value} {p : α} {va vb vc vd ve vf : Value} (hp : R p [va, vb, vc, vd, ve, vf]) (h : Reps R 6 ps cs) : Reps R 6 (p :: ps) (va :: vb :: vc :: vd :: ve :: vf :: cs) := Reps.front hp rfl h rfl
theorem Reps.c7 {α : Type} {R : α → List Value → Prop} {ps : List α} {cs : List Value} {p : α} {va vb vc vd ve vf vg : Value} (hp : R p [va, vb, vc, vd, ve, vf, vg]) (h : Reps R 7 ps cs) : Reps R 7 (p :: ps) (va :: vb :: vc :: vd :: ve :: vf :: vg :: cs) := Reps.front hp rfl h rfl
theorem Reps.c9 {α : Type} {R : α → List Value → Prop} {ps : List α} {cs : List Value} {p : α} {va vb vc vd ve vf vg vh vi : Value} (hp : R p [va, vb, vc, vd, ve, vf, vg, vh, vi]) (h : Reps R 9 ps cs) : Reps R 9 (p :: ps) (va :: vb :: vc :: vd :: ve :: vf :: vg :: vh :: vi :: cs) := Reps.front hp rfl h rfl
theorem Reps.c10 {α : Type} {R : α → List Value → Prop} {ps : List α} {cs : List Value} {p : α} {va vb vc vd ve vf vg vh vi vj : Value} (hp : R p [va, vb, vc, vd, ve, vf, vg, vh, vi, vj]) (h : Reps R 10 ps cs) : Reps R 10 (p :: ps) (va :: vb :: vc :: vd :: ve :: vf :: vg :: vh :: vi :: vj :: cs) := Reps.front hp rfl h rfl
end Go.Proofs.YtipmphgkdomebaaDoorW.PrintWords
namespace Go.Proofs.YtipmphgkdomebaaDoorW.PrintWords
open Go.RowKit
section
variable {P : Program} {ops : Array Oper} {rest : List Oper} {o : Oper} {a : Act} {Q : Exit → Act → World → Prop} {W : World}
end
end Go.Proofs.YtipmphgkdomebaaDoorW.PrintWords
namespace Go.Proofs.YtipmphgkdomebaaDoor.K
open Go.RowKit Go.Proofs.YtipmphgkdomebaaDoor.G Go.Proofs.YtipmphgkdomebaaDoorW.PrintWords Go.Proofs.YtipmphgkdomebaaDoorW.PrintLast Go.Proofs.YtipmphgkdomebaaDoorW.PrintMore
attribute [local go_sem] max2_int min2_int max_two min_two max_three min_three max_four min_four
set_option linter.unusedVariables false
set_option linter.unusedSimpArgs false
def errW : Option Int → Value
  | none => .nilIface
  | some c => .iface 0 (.int .i64 c)
theorem errW_none : errW none = .nilIface := rfl
theorem errW_some (c : Int) : errW (some c) = .iface 0 (.int .i64 c) := rfl
end Go.Proofs.YtipmphgkdomebaaDoor.K
namespace Go.Proofs.YtipmphgkdomebaaDoor.K
open Go.RowKit Go.Proofs.YtipmphgkdomebaaDoor.G Go.Proofs.YtipmphgkdomebaaDoorW.PrintWords Go.Proofs.YtipmphgkdomebaaDoorW.PrintLast Go.Proofs.YtipmphgkdomebaaDoorW.PrintMore
attribute [local go_sem] max2_int min2_int max_two min_two max_three min_three max_four min_four
set_option linter.unusedVariables false
set_option linter.unusedSimpArgs false
def scan_at.f (a0 : ByteArray) (a1 : Int) : Option (Int) := if a1 < 0 then (some 0) else (if a1 ≥ (a0.size : Int) then (some 0) else (if 0 ≤ a1 then (if a1 < (a0.size : Int) then (some (bt a0 a1)) else (none)) else (none)))
set_option maxHeartbeats 8000000 in
set_option maxRecDepth 100000 in
theorem scan_at.calls (a0 : ByteArray) (a1 : Int) (r : Int) (w : World) (h : scan_at.f a0 a1 = some r) :
    Calls Tryd.prog 107 #[.string a0, .int .i64 a1] w fun e w' => e = .returned (.int .u8 r) ∧ Drawn0 w w' := by
  have H : (if a1 < 0 then (some 0) else (if a1 ≥ (a0.size : Int) then (some 0) else (if 0 ≤ a1 then (if a1 < (a0.size : Int) then (some (bt a0 a1)) else (none)) else (none)))) = some r := h
  clear h
  by_cases c3 : a1 < 0
  · rw [if_pos c3] at H
    have c3b0 : decide (a1 < 0) = true := decide_eq_true c3
    clear c3
    obtain rfl := Option.some.inj H
    go_enter Tryd.func107, Tryd.ntmps107
    go_wp2
    go_ret
    exact ⟨by first | rfl | (simp; done) | (simp [*]; done), by repeat (first | exact Drawn0.refl _ | apply Drawn0.step)⟩
  · rw [if_neg c3] at H
    have c3b0 : decide (a1 < 0) = false := decide_eq_false c3
    clear c3
    by_cases c4 : a1 ≥ (a0.size : Int)
    · rw [if_pos c4] at H
      have c4b0 : decide ((a0.size : Int) ≤ a1) = true := decide_eq_true c4
      clear c4
      obtain rfl := Option.some.inj H
      go_enter Tryd.func107, Tryd.ntmps107
      go_wp2
      go_ret
      exact ⟨by first | rfl | (simp; done) | (simp [*]; done), by repeat (first | exact Drawn0.refl _ | apply Drawn0.step)⟩
    · rw [if_neg c4] at H
      have c4b0 : decide ((a0.size : Int) ≤ a1) = false := decide_eq_false c4
      clear c4
      by_cases c5 : 0 ≤ a1
      · rw [if_pos c5] at H
        have c5b0 : decide (0 ≤ a1) = true := decide_eq_true c5
        clear c5
        by_cases c6 : a1 < (a0.size : Int)
        · rw [if_pos c6] at H
          have c6b0 : decide (a1 < (a0.size : Int)) = true := decide_eq_true c6
          clear c6
          obtain rfl := Option.some.inj H
          have p7 : 0 ≤ (a1 : Int) := of_decide_eq_true (by first | (with_reducible assumption) | assumption)
          have q7 : a1 < (a0.size : Int) := of_decide_eq_true (by first | (with_reducible assumption) | assumption)
          have hx7 := bt_at a0 a1
          replace p7 := eq_true p7
          replace q7 := eq_true q7
          go_enter Tryd.func107, Tryd.ntmps107
          go_wp2
          go_ret
          exact ⟨by first | rfl | (simp; done) | (simp [*]; done), by repeat (first | exact Drawn0.refl _ | apply Drawn0.step)⟩
        · rw [if_neg c6] at H
          exact absurd H (by simp)
      · rw [if_neg c5] at H
        exact absurd H (by simp)
def scan_letter.f (a0 : Int) : Option (Bool) := if a0 ≥ 97 then (if a0 ≤ 122 then (some true) else (if a0 ≥ 65 then (some (decide (a0 ≤ 90))) else (some false))) else (if a0 ≥ 65 then (some (decide (a0 ≤ 90))) else (some false))
set_option maxHeartbeats 8000000 in
set_option maxRecDepth 100000 in
theorem scan_letter.calls (a0 : Int) (r : Bool) (w : World) (h : scan_letter.f a0 = some r) :
    Calls Tryd.prog 106 #[.int .u8 a0] w fun e w' => e = .returned (.bool r) ∧ Drawn0 w w' := by
  have H : (if a0 ≥ 97 then (if a0 ≤ 122 then (some true) else (if a0 ≥ 65 then (some (decide (a0 ≤ 90))) else (some false))) else (if a0 ≥ 65 then (some (decide (a0 ≤ 90))) else (some false))) = some r := h
  clear h
  by_cases c2 : a0 ≥ 97
  · rw [if_pos c2] at H
    have c2b0 : decide (97 ≤ a0) = true := decide_eq_true c2
    clear c2
    by_cases c3 : a0 ≤ 122
    · rw [if_pos c3] at H
      have c3b0 : decide (a0 ≤ 122) = true := decide_eq_true c3
      clear c3
      obtain rfl := Option.some.inj H
      go_enter Tryd.func106, Tryd.ntmps106
      go_wp2
      go_ret
      exact ⟨by first | rfl | (simp; done) | (simp [*]; done), by repeat (first | exact Drawn0.refl _ | apply Drawn0.step)⟩
    · rw [if_neg c3] at H
      have c3b0 : decide (a0 ≤ 122) = false := decide_eq_false c3
      clear c3
      by_cases c4 : a0 ≥ 65
      · rw [if_pos c4] at H
        have c4b0 : decide (65 ≤ a0) = true := decide_eq_true c4
        clear c4
        obtain rfl := Option.some.inj H
        go_enter Tryd.func106, Tryd.ntmps106
        go_wp2
        go_ret
        exact ⟨by first | rfl | (simp; done) | (simp [*]; done), by repeat (first | exact Drawn0.refl _ | apply Drawn0.step)⟩
      · rw [if_neg c4] at H
        have c4b0 : decide (65 ≤ a0) = false := decide_eq_false c4
        clear c4
        obtain rfl := Option.some.inj H
        go_enter Tryd.func106, Tryd.ntmps106
        go_wp2
        go_ret
        exact ⟨by first | rfl | (simp; done) | (simp [*]; done), by repeat (first | exact Drawn0.refl _ | apply Drawn0.step)⟩
  · rw [if_neg c2] at H
    have c2b0 : decide (97 ≤ a0) = false := decide_eq_false c2
    clear c2
    by_cases c5 : a0 ≥ 65
    · rw [if_pos c5] at H
      have c5b0 : decide (65 ≤ a0) = true := decide_eq_true c5
      clear c5
      obtain rfl := Option.some.inj H
      go_enter Tryd.func106, Tryd.ntmps106
      go_wp2
      go_ret
      exact ⟨by first | rfl | (simp; done) | (simp [*]; done), by repeat (first | exact Drawn0.refl _ | apply Drawn0.step)⟩
    · rw [if_neg c5] at H
      have c5b0 : decide (65 ≤ a0) = false := decide_eq_false c5
      clear c5
      obtain rfl := Option.some.inj H
      go_enter Tryd.func106, Tryd.ntmps106
      go_wp2
      go_ret
      exact ⟨by first | rfl | (simp; done) | (simp [*]; done), by repeat (first | exact Drawn0.refl _ | apply Drawn0.step)⟩
def scan_digit.f (a0 : Int) : Option (Bool) := if a0 ≥ 48 then (some (decide (a0 ≤ 57))) else (some false)
set_option maxHeartbeats 8000000 in
set_option maxRecDepth 100000 in
theorem scan_digit.calls (a0 : Int) (r : Bool) (w : World) (h : scan_digit.f a0 = some r) :
    Calls Tryd.prog 109 #[.int .u8 a0] w fun e w' => e = .returned (.bool r) ∧ Drawn0 w w' := by
  have H : (if a0 ≥ 48 then (some (decide (a0 ≤ 57))) else (some false)) = some r := h
  clear h
  by_cases c2 : a0 ≥ 48
  · rw [if_pos c2] at H
    have c2b0 : decide (48 ≤ a0) = true := decide_eq_true c2
    clear c2
    obtain rfl := Option.some.inj H
    go_enter Tryd.func109, Tryd.ntmps109
    go_wp2
    go_ret
    exact ⟨by first | rfl | (simp; done) | (simp [*]; done), by repeat (first | exact Drawn0.refl _ | apply Drawn0.step)⟩
  · rw [if_neg c2] at H
    have c2b0 : decide (48 ≤ a0) = false := decide_eq_false c2
    clear c2
    obtain rfl := Option.some.inj H
    go_enter Tryd.func109, Tryd.ntmps109
    go_wp2
    go_ret
    exact ⟨by first | rfl | (simp; done) | (simp [*]; done), by repeat (first | exact Drawn0.refl _ | apply Drawn0.step)⟩
end Go.Proofs.YtipmphgkdomebaaDoor.K
namespace Go.Proofs.YtipmphgkdomebaaDoor
open Go.RowKit Go.Proofs.YtipmphgkdomebaaDoorW.PrintWords
set_option linter.unusedVariables false
set_option linter.unusedSimpArgs false
theorem drawn_below {w W : World} (h : Drawn0 w W) : Below w.heap.size w W := by
  obtain ⟨n, rfl⟩ := h
  exact pw_below_drewN (Below.refl _ w) n
def letB (c : Int) : Bool := (decide (97 ≤ c) && decide (c ≤ 122)) || (decide (65 ≤ c) && decide (c ≤ 90))
def dgtB (c : Int) : Bool := decide (48 ≤ c) && decide (c ≤ 57)
def nmB (c : Int) : Bool := letB c || (dgtB c || (c == 95 || c == 45))
def atV (s : ByteArray) (i : Int) : Int := if i < 0 then 0 else if i ≥ (s.size : Int) then 0 else bt s i
def nameI (s : ByteArray) (i : Int) : Int := if letB (atV s i) = true then whI nmB s i else i
def isNameB (s : ByteArray) : Bool := !(s.toList == []) && (nameI s 0 == (s.size : Int))
theorem letter_any (c : Int) (W : World) : Calls Tryd.prog 106 #[.int .u8 c] W fun e w' => e = .returned (.bool (letB c)) ∧ Below W.heap.size W w' := by
  refine (K.scan_letter.calls c (letB c) W ?_).mono fun e w' ⟨he, hd⟩ => ⟨he, drawn_below hd⟩
  unfold K.scan_letter.f letB
  by_cases h1 : 97 ≤ c
  · by_cases h2 : c ≤ 122
    · rw [if_pos h1, if_pos h2, decide_eq_true h1, decide_eq_true h2]; rfl
    · rw [if_pos h1, if_neg h2, decide_eq_false h2, Bool.and_false, Bool.false_or]
      by_cases h3 : 65 ≤ c
      · rw [if_pos h3, decide_eq_true h3, Bool.true_and]
      · rw [if_neg h3, decide_eq_false h3, Bool.false_and]
  · rw [if_neg h1, decide_eq_false h1, Bool.false_and, Bool.false_or]
    by_cases h3 : 65 ≤ c
    · rw [if_pos h3, decide_eq_true h3, Bool.true_and]
    · rw [if_neg h3, decide_eq_false h3, Bool.false_and]
theorem digit_any (c : Int) (W : World) : Calls Tryd.prog 109 #[.int .u8 c] W fun e w' => e = .returned (.bool (dgtB c)) ∧ Below W.heap.size W w' := by
  refine (K.scan_digit.calls c (dgtB c) W ?_).mono fun e w' ⟨he, hd⟩ => ⟨he, drawn_below hd⟩
  unfold K.scan_digit.f dgtB
  by_cases h1 : 48 ≤ c
  · rw [if_pos h1, decide_eq_true h1, Bool.true_and]
  · rw [if_neg h1, decide_eq_false h1, Bool.false_and]
theorem at_any (s : ByteArray) (i : Int) (W : World) : Calls Tryd.prog 107 #[.string s, .int .i64 i] W fun e w' => e = .returned (.int .u8 (atV s i)) ∧ Below W.heap.size W w' := by
  refine (K.scan_at.calls s i (atV s i) W ?_).mono fun e w' ⟨he, hd⟩ => ⟨he, drawn_below hd⟩
  unfold K.scan_at.f atV
  by_cases h1 : i < 0
  · rw [if_pos h1, if_pos h1]
  · rw [if_neg h1, if_neg h1]
    by_cases h2 : i ≥ (s.size : Int)
    · rw [if_pos h2, if_pos h2]
    · rw [if_neg h2, if_neg h2, if_pos (by omega), if_pos (by omega)]
set_option maxRecDepth 100000 in
set_option maxHeartbeats 4000000 in
theorem name1_any (c : Int) (W : World) : Calls Tryd.prog 108 #[.int .u8 c] W fun e w' => e = .returned (.bool (nmB c)) ∧ Below W.heap.size W w' := by
  have cL := fun W => letter_any c W
  have cD := fun W => digit_any c W
  unfold nmB
  cases hl : letB c with
  | true =>
    rw [hl] at cL
    go_enter Tryd.func108, Tryd.ntmps108
    go_wp2_with (go_at_call 106; refine (cL _).mono ?_; rintro e W1 ⟨rfl, b1⟩)
    go_ret
    exact ⟨rfl, b1⟩
  | false =>
    rw [hl] at cL
    cases hd : dgtB c with
    | true =>
      rw [hd] at cD
      go_enter Tryd.func108, Tryd.ntmps108
      go_wp2_with (first
        | (go_at_call 106; refine (cL _).mono ?_; rintro e W1 ⟨rfl, b1⟩)
        | (go_at_call 109; refine (cD _).mono ?_; rintro e W2 ⟨rfl, b2⟩))
      go_ret
      exact ⟨rfl, below_on b1 b2 b1.size⟩
    | false =>
      rw [hd] at cD
      cases h9 : (c == 95) with
      | true =>
        go_enter Tryd.func108, Tryd.ntmps108
        go_wp2_with (first
          | (go_at_call 106; refine (cL _).mono ?_; rintro e W1 ⟨rfl, b1⟩)
          | (go_at_call 109; refine (cD _).mono ?_; rintro e W2 ⟨rfl, b2⟩))
        go_ret
        exact ⟨rfl, below_on b1 b2 b1.size⟩
      | false =>
        go_enter Tryd.func108, Tryd.ntmps108
        go_wp2_with (first
          | (go_at_call 106; refine (cL _).mono ?_; rintro e W1 ⟨rfl, b1⟩)
          | (go_at_call 109; refine (cD _).mono ?_; rintro e W2 ⟨rfl, b2⟩))
        go_ret
        exact ⟨rfl, below_on b1 b2 b1.size⟩
set_option maxRecDepth 100000 in
set_option maxHeartbeats 4000000 in
theorem Name_any (s : ByteArray) (i : Int) (w : World) (hs : s.size ≤ 4611686018427387904) : Calls Tryd.prog 70 #[.string s, .int .i64 i] w fun e w' => e = .returned (.int .i64 (nameI s i)) ∧ Below w.heap.size w w' := by
  have cA := fun W => at_any s i W
  have cL := fun W => letter_any (atV s i) W
  have cW := fun W => while_name nmB (fun c W _ _ => name1_any c W) s i W hs
  unfold nameI
  generalize atV s i = c at *
  generalize whI nmB s i = z at *
  cases hl : letB c with
  | true =>
    rw [hl] at cL
    rw [if_pos rfl]
    go_enter Tryd.func70, Tryd.ntmps70
    go_wp2_with (first
      | (go_at_call 107; refine (cA _).mono ?_; rintro e W1 ⟨rfl, b1⟩)
      | (go_at_call 106; refine (cL _).mono ?_; rintro e W2 ⟨rfl, b2⟩)
      | (go_at_call 89; refine (cW _).mono ?_; rintro e W3 ⟨rfl, b3⟩))
    go_ret
    have b := below_on b1 b2 b1.size
    exact ⟨rfl, below_on b b3 b.size⟩
  | false =>
    rw [hl] at cL
    rw [if_neg (by decide)]
    go_enter Tryd.func70, Tryd.ntmps70
    go_wp2_with (first
      | (go_at_call 107; refine (cA _).mono ?_; rintro e W1 ⟨rfl, b1⟩)
      | (go_at_call 106; refine (cL _).mono ?_; rintro e W2 ⟨rfl, b2⟩))
    go_ret
    exact ⟨rfl, below_on b1 b2 b1.size⟩
theorem ret_b0 {x y : Bool} (h : x = y) : (Ending.returned (.bool x)) = .returned (.bool y) := by rw [h]
set_option maxRecDepth 100000 in
set_option maxHeartbeats 4000000 in
theorem IsName_any (s : ByteArray) (w : World) (hs : s.size ≤ 4611686018427387904) : Calls Tryd.prog 37 #[.string s] w fun e w' => e = .returned (.bool (isNameB s)) ∧ Below w.heap.size w w' := by
  have cN := fun W => Name_any s 0 W hs
  unfold isNameB
  generalize nameI s 0 = z at *
  cases h0 : (s.toList == []) with
  | true =>
    clear cN
    go_enter Tryd.func37, Tryd.ntmps37
    go_wp2
    go_ret
    exact ⟨rfl, Below.refl _ _⟩
  | false =>
    go_enter Tryd.func37, Tryd.ntmps37
    go_wp2_with (go_at_call 70; refine (cN _).mono ?_; rintro e W1 ⟨rfl, b1⟩)
    go_ret
    exact ⟨by first | rfl | exact ret_b0 (by simp), b1⟩
end Go.Proofs.YtipmphgkdomebaaDoor
